/- A part of the proof of a law of roundel: contracts of functions and lemmas, each true as it stands; no condition beyond those that its theorems state. -/
import Derived.Test.YtohgckdkkeiggaaOwn
namespace Go.Proofs.Ytohgckdkkeiggaa
set_option linter.unusedSimpArgs false
set_option linter.unusedVariables false
open Go.RowKit Go.Maps

theorem getD_take {α : Type} [Inhabited α] (l : List α) (k j : Nat) (h : j < k) : (l.take k).getD j default = l.getD j default := by
  simp [List.getD, List.getElem?_take, h]
theorem getD_drop {α : Type} [Inhabited α] (l : List α) (k j : Nat) : (l.drop k).getD j default = l.getD (k + j) default := by
  simp [List.getD]

theorem TL.take {W : World} {B : Nat} {A : Option Addr} {n : Nat} {l : List Tk} (h : TL W B A n l) (k : Nat) (hk : k ≤ n) : TL W B A k (l.take k) := by
  refine ⟨by rw [List.length_take, h.1]; omega, fun t ht => h.2.1 t (List.mem_of_mem_take ht), fun hn => ?_⟩
  obtain ⟨x, o, rfl, hx, hc⟩ := h.2.2 (by omega)
  refine ⟨x, o, rfl, hx, fun j hj => ?_⟩
  rw [getD_take l k j hj]
  exact hc j (by omega)
/-- The rest of a slice of ticks: its address, whatever it is where nothing is left. -/
theorem TL.drop {W : World} {B : Nat} {x o n : Nat} {l : List Tk} (h : TL W B (some ⟨x, o, none⟩) n l) (k : Nat) (hk : k ≤ n) : TL W B (some ⟨x, o + k * 4, none⟩) (n - k) (l.drop k) := by
  refine ⟨by rw [List.length_drop, h.1], fun t ht => h.2.1 t (List.mem_of_mem_drop ht), fun hn => ?_⟩
  obtain ⟨x', o', e, hx, hc⟩ := h.2.2 (by omega)
  simp only [Option.some.injEq, Addr.mk.injEq, and_true] at e
  obtain ⟨rfl, rfl⟩ := e
  refine ⟨x, o + k * 4, rfl, hx, fun j hj => ?_⟩
  rw [getD_drop l k j]
  have := hc (k + j) (by omega)
  rw [show o + k * 4 + j * 4 = o + (k + j) * 4 by omega]
  exact this
theorem TL.nil {W : World} {B : Nat} {A : Option Addr} : TL W B A 0 [] := ⟨rfl, by simp, by omega⟩

/-- The rest of a slice of ticks. -/
theorem cut_rest (A : Option Addr) (n c k : Nat) (hk : k ≤ n) (hnc : n ≤ c) : ∃ AX, (∀ w, (Instr.slice 22 (.slice A n c) (some (.int .i64 (k : Int))) none none).run Try.prog w = .ok (.slice AX (n - k) (c - k)) w) ∧
    (∀ w, (Instr.sliceAt 22 (.slice A n c) (some (.int .i64 (k : Int))) none none).run Try.prog w = .ok (.slice AX (n - k) (c - k)) w) ∧ ∀ W B l, TL W B A n l → TL W B AX (n - k) (l.drop k) := by
  have h1 : ∀ w, (Instr.slice 22 (.slice A n c) (some (.int .i64 (k : Int))) none none).run Try.prog w = .ok (.slice (if c = k then A else Option.map (fun x => x.add (k * 4)) A) (n - k) (c - k)) w := by
    intro w
    rw [Go.run_slice_l (P := Try.prog) w 22 A n c Try.underlying22 .i64 (k : Int) (by omega) (by omega)]
    simp [go_sem]
  refine ⟨_, h1, fun w => ?_, fun W B l hl => ?_⟩
  · rw [run_sliceAt_slice (P := Try.prog) w 22 _ _ _ _ Try.underlying22]
    exact h1 w
  · by_cases hck : c = k
    · rw [show n - k = 0 by omega, show l.drop k = [] from List.drop_of_length_le (by rw [hl.1]; omega)]
      exact TL.nil
    · rw [if_neg hck]
      by_cases hn0 : n = 0
      · rw [show n - k = 0 by omega, show l.drop k = [] from List.drop_of_length_le (by rw [hl.1]; omega)]
        exact TL.nil
      · obtain ⟨x, o, rfl, _⟩ := hl.2.2 (by omega)
        have z := hl.drop k (by omega)
        rw [← Go.WideShapes.add_plain] at z
        exact z

theorem Tal.drew {W : World} {own : Own} {B b m : Nat} {F : Nat → Int → Int} {T : Int} (h : Tal W own B b m F T) : Tal W.drew own B b m F T :=
  ⟨⟨h.sits.tag, h.sits.base, h.sits.lt, h.sits.frz, h.sits.old, h.sits.low⟩, fun i hi => (h.book i hi).kept h.sits.old (fun _ _ _ => rfl) (fun _ _ _ => rfl) (fun _ _ => rfl), h.total, h.bnd, h.bndT⟩
theorem TChg.drew {own : Own} {b : Nat} {W W' : World} (h : TChg own b W W') : TChg own b W W'.drew := ⟨h.os, h.tape, h.output, h.size, h.blk⟩

theorem sumTo_take (f : Nat → Tk → Int) (l : List Tk) (k : Nat) : ∀ j, j ≤ k → sumTo f (l.take k) j = sumTo f l j
  | 0, _ => rfl
  | j + 1, h => by simp only [sumTo]; rw [sumTo_take f l k j (by omega), getD_take l k j (by omega)]
theorem sumTo_drop (f : Nat → Tk → Int) (l : List Tk) (k : Nat) : ∀ i, sumTo f l (k + i) = sumTo f l k + sumTo (fun j => f (k + j)) (l.drop k) i
  | 0 => by simp [sumTo]
  | i + 1 => by
    rw [show k + (i + 1) = (k + i) + 1 by omega]
    simp only [sumTo]
    rw [sumTo_drop f l k i, getD_drop l k i, Int.add_assoc]
theorem sumTo_congr (f g : Nat → Tk → Int) (l : List Tk) : ∀ n, (∀ j, j < n → f j (l.getD j default) = g j (l.getD j default)) → sumTo f l n = sumTo g l n
  | 0, _ => rfl
  | n + 1, h => by simp only [sumTo]; rw [sumTo_congr f g l n (fun j hj => h j (by omega)), h n (by omega)]
theorem sumTo_add (f g : Nat → Tk → Int) (l : List Tk) : ∀ n, sumTo (fun j t => f j t + g j t) l n = sumTo f l n + sumTo g l n
  | 0 => rfl
  | n + 1 => by simp only [sumTo]; rw [sumTo_add f g l n]; omega
theorem sumTo_zero (f : Nat → Tk → Int) (l : List Tk) : ∀ n, (∀ j, j < n → f j (l.getD j default) = 0) → sumTo f l n = 0
  | 0, _ => rfl
  | n + 1, h => by simp only [sumTo]; rw [sumTo_zero f l n (fun j hj => h j (by omega)), h n (by omega)]; rfl

/-- A count of all is a count of what stands ahead, and of the rest. -/
theorem sumTo_cut (g : Tk → Int) (l : List Tk) (n k : Nat) (hl : l.length = n) (hk : k ≤ n) : sumTo (fun _ => g) (l.take k) k + sumTo (fun _ => g) (l.drop k) (n - k) = sumTo (fun _ => g) l n := by
  have := sumTo_drop (fun _ => g) l k (n - k)
  rw [show k + (n - k) = n by omega] at this
  rw [this, sumTo_take _ _ _ _ (Nat.le_refl _)]
theorem is0_any (k : Int) (j : Nat) (t : Tk) : is0 k 0 j t = is0 k 0 0 t := by
  unfold is0
  simp
theorem sumTo_is0 (k : Int) (l : List Tk) (n : Nat) : sumTo (is0 k 0) l n = sumTo (fun _ => is0 k 0 0) l n := sumTo_congr _ _ _ _ (fun j _ => is0_any k j _)
/-- .. what has been forgotten left out. -/
theorem sumTo_from (x : Int) (l : List Tk) (n k : Nat) (hl : l.length = n) (hk : k ≤ n) : sumTo (is0 x 0) (l.drop k) (n - k) = sumTo (is0 x (k : Int)) l n := by
  have := sumTo_drop (is0 x (k : Int)) l k (n - k)
  rw [show k + (n - k) = n by omega] at this
  rw [this, sumTo_zero (is0 x (k : Int)) l k (fun j hj => by unfold is0; rw [if_neg]; omega), Int.zero_add]
  refine sumTo_congr _ _ _ _ (fun j _ => ?_)
  have h1 : (k : Int) ≤ ((k + j : Nat) : Int) := by omega
  have h2 : (0 : Int) ≤ (j : Int) := by omega
  unfold is0
  simp only [h1, h2, true_and]

/-- Ticks, a thread forgotten, ticks. -/
def forgF (l : List Tk) (k : Nat) (id : Int) : Nat → Int → Int := doF (put1 (doF (fun _ _ => 0) (l.take k)) 0 (upd (doF (fun _ _ => 0) (l.take k) 0) id 0)) (l.drop k)
theorem forgF0 (l : List Tk) (n k : Nat) (hl : l.length = n) (hk : k ≤ n) (id x : Int) : forgF l k id 0 x = sumTo (is0 x (if x = id then (k : Int) else 0)) l n := by
  unfold forgF
  rw [do0]
  have e1 : (l.drop k).length = n - k := by rw [List.length_drop, hl]
  have e2 : (l.take k).length = k := by rw [List.length_take, hl]; omega
  rw [e1]
  by_cases h : x = id
  · simp only [put1, upd, h, if_true, Int.zero_add]
    exact sumTo_from id l n k hl hk
  · simp only [put1, upd, h, if_false, if_true]
    rw [do0, e2, Int.zero_add, sumTo_is0, sumTo_is0, sumTo_is0]
    exact sumTo_cut _ l n k hl hk
theorem forgF1 (l : List Tk) (n k : Nat) (hl : l.length = n) (hk : k ≤ n) (id x : Int) : forgF l k id 1 x = sumTo (fun _ => is1 x) l n := by
  unfold forgF
  rw [do1, List.length_drop, hl]
  simp only [put1]
  rw [if_neg (by omega), do1, List.length_take, hl, Nat.min_eq_left hk, Int.zero_add]
  exact sumTo_cut _ l n k hl hk
theorem forgF2 (l : List Tk) (n k : Nat) (hl : l.length = n) (hk : k ≤ n) (id x : Int) : forgF l k id 2 x = sumTo (fun _ => is2 x) l n := by
  unfold forgF
  rw [do2, List.length_drop, hl]
  simp only [put1]
  rw [if_neg (by omega), do2, List.length_take, hl, Nat.min_eq_left hk, Int.zero_add]
  exact sumTo_cut _ l n k hl hk
theorem forgF3 (l : List Tk) (n k : Nat) (hl : l.length = n) (hk : k ≤ n) (id x : Int) : forgF l k id 3 x = sumTo (fun _ => is3 x) l n := by
  unfold forgF
  rw [do3, List.length_drop, hl]
  simp only [put1]
  rw [if_neg (by omega), do3, List.length_take, hl, Nat.min_eq_left hk, Int.zero_add]
  exact sumTo_cut _ l n k hl hk

/-- In whatever order. -/
theorem turned (l : List Tk) (n k : Nat) (hl : l.length = n) (hk : k ≤ n) (i : Nat) (hi : i < 4) (x : Int) : doF (doF (fun _ _ => 0) (l.drop k)) (l.take k) i x = doF (fun _ _ => 0) l i x := by
  have e1 : (l.drop k).length = n - k := by rw [List.length_drop, hl]
  have e2 : (l.take k).length = k := by rw [List.length_take, hl]; omega
  obtain rfl | rfl | rfl | rfl : i = 0 ∨ i = 1 ∨ i = 2 ∨ i = 3 := by omega
  · rw [do0, do0, do0, e1, e2, hl, sumTo_is0, sumTo_is0, sumTo_is0]
    have := sumTo_cut (is0 x 0 0) l n k hl hk
    omega
  · rw [do1, do1, do1, e1, e2, hl]
    have := sumTo_cut (is1 x) l n k hl hk
    omega
  · rw [do2, do2, do2, e1, e2, hl]
    have := sumTo_cut (is2 x) l n k hl hk
    omega
  · rw [do3, do3, do3, e1, e2, hl]
    have := sumTo_cut (is3 x) l n k hl hk
    omega

/-- A block that no tally uses keeps its cells. -/
theorem TChg.keeps {own : Own} {b : Nat} {W W' : World} (C : TChg own b W W') {x : Nat} (h : x < W.heap.size) (hb : x ≠ b) (ho : own x = none) : W'.heap[x]? = W.heap[x]? :=
  C.blk x h hb (fun off key e => by rw [ho] at e; cases e)

/-- Another tally. -/
theorem Tal.other {W W' : World} {own own' : Own} {B a b m : Nat} {F : Nat → Int → Int} {T : Int} (H : Tal W own B a m F T) (S' : Sits W' own' B b) (C : TChg own b W W') (ho : ∀ x, x < W.heap.size → own' x = own x) (hab : a ≠ b) : Tal W' own' B a m F T := by
  have ha : W'.heap[a]? = W.heap[a]? := C.keeps H.sits.lt hab H.sits.tag
  refine ⟨⟨(ho a H.sits.lt).trans H.sits.tag, H.sits.base, Nat.lt_of_lt_of_le H.sits.lt C.size, fun j => (World.frozen?_of_block (a := ⟨a, j, none⟩) ha).trans (H.sits.frz j), S'.old, S'.low⟩,
    fun i hi => (H.book i hi).kept H.sits.old (fun j _ _ => World.cell?_of_block (a := ⟨a, j, none⟩) ha) (fun x key hx => ?_) ho, (World.cell?_of_block (a := ⟨a, 24, none⟩) ha).trans H.total, H.bnd, H.bndT⟩
  refine C.blk x (H.sits.old _ _ hx) (fun e => ?_) (fun off' key' e => ?_)
  · have h1 := ho x (H.sits.old _ _ hx)
    rw [hx, e, S'.tag] at h1
    cases h1
  · rw [hx] at e
    simp only [Option.some.injEq, Prod.mk.injEq] at e
    exact hab e.1
end Go.Proofs.Ytohgckdkkeiggaa
