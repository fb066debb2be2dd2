/- A part of the proof of a law of roundel: contracts of functions and lemmas, each true as it stands; no condition beyond those that its theorems state. -/
import Derived.Test.YtnlcbilmalfjaaaNc
namespace Go.Proofs.Ytnlcbilmalfjaaa
set_option linter.unusedSimpArgs false
set_option linter.unusedVariables false
open Go.RowKit

/-- A lane with a node more: behind all whose tag isn't greater. -/
def insRow (T : Nat → Int) (r : List Nat) (node : Nat) (tag : Int) : List Nat := r.take (upFit T r tag r.length) ++ node :: r.drop (upFit T r tag r.length)

theorem upFit_above (T : Nat → Int) (r : List Nat) (tag : Int) : ∀ i j, upFit T r tag i ≤ j → j < i → tag < T (r.getD j 0)
  | 0, j, _, h => absurd h (Nat.not_lt_zero j)
  | i + 1, j, h1, h2 => by
    unfold upFit at h1
    split at h1
    · rename_i hg
      by_cases e : j = i
      · rw [e]; exact hg
      · exact upFit_above T r tag i j h1 (by omega)
    · omega
theorem upFit_below (T : Nat → Int) (r : List Nat) (tag : Int) : ∀ i k, upFit T r tag i = k + 1 → T (r.getD k 0) ≤ tag
  | 0, k, h => by cases h
  | i + 1, k, h => by
    unfold upFit at h
    split at h
    · exact upFit_below T r tag i k h
    · rename_i hg
      obtain rfl : i = k := by omega
      omega
theorem insRow_mem {T : Nat → Int} {r : List Nat} {node : Nat} {tag : Int} {x : Nat} : x ∈ insRow T r node tag ↔ x = node ∨ x ∈ r := by
  unfold insRow
  rw [List.mem_append, List.mem_cons]
  conv => rhs; rw [← List.take_append_drop (upFit T r tag r.length) r, List.mem_append]
  constructor
  · rintro (h | rfl | h)
    · exact .inr (.inl h)
    · exact .inl rfl
    · exact .inr (.inr h)
  · rintro (rfl | h | h)
    · exact .inr (.inl rfl)
    · exact .inl h
    · exact .inr (.inr h)
theorem insRow_length (T : Nat → Int) (r : List Nat) (node : Nat) (tag : Int) : (insRow T r node tag).length = r.length + 1 := by
  unfold insRow
  rw [List.length_append, List.length_cons, List.length_take, List.length_drop]
  have := upFit_le T r tag r.length
  omega
theorem upFit_congr {T T' : Nat → Int} {r : List Nat} {tag : Int} (h : ∀ x ∈ r, T x = T' x) : ∀ i, i ≤ r.length → upFit T r tag i = upFit T' r tag i
  | 0, _ => rfl
  | i + 1, hi => by
    unfold upFit
    have hx : r.getD i 0 ∈ r := by
      have : r.getD i 0 = r[i] := by simp [List.getD, show i < r.length by omega]
      rw [this]; exact List.getElem_mem _
    rw [h _ hx, upFit_congr h i (by omega)]
theorem insRow_congr {T T' : Nat → Int} {r : List Nat} {tag : Int} {node : Nat} (h : ∀ x ∈ r, T x = T' x) : insRow T r node tag = insRow T' r node tag := by
  unfold insRow
  rw [upFit_congr h _ (Nat.le_refl _)]

section
variable {B nb tg rb lb mb N M : Nat} {rows : List (List Nat)} {T : Nat → Int}
theorem laneS_in {W : World} (H : Rr W B rb lb mb N M rows) {l node : Nat} (tag : Int) (hl : l < M) (hn : node < N) (hf : node ∉ rows.flatten) :
    laneS N rows T (l : Int) (node : Int) tag = (rows.set l (insRow T (rowAt rows l) node tag), 0) := by
  have hM := H.small.1
  unfold laneS lastFit insRow
  rw [rowI_in]
  generalize hr : rowAt rows l = r
  cases hk : upFit T r tag r.length with
  | zero =>
    rw [if_pos (by simp [lastI])]
    unfold pushS
    rw [if_pos (by omega), if_pos (by omega), if_neg (by simpa using hf), if_pos rfl]
    simp [hr]
  | succ k =>
    have hk' : k < r.length := by have := upFit_le T r tag r.length; omega
    rw [lastI_take hk', if_neg (by omega)]
    obtain ⟨m1, m2, m3, m4⟩ := H.spot (l := l) (i := k) (x := r.getD k 0) hl (by rw [hr]; exact hk') (by rw [hr])
    unfold behindS
    rw [if_pos ⟨by omega, by omega⟩, if_pos ⟨by simpa using m1, by simpa using hf⟩]
    simp only [Int.toNat_natCast, m2, m3, hr]
theorem laneS_out {W : World} (H : Rr W B rb lb mb N M rows) {core node : Int} (tag : Int) (h : ¬ ((0 ≤ core ∧ core < (M : Int)) ∧ (0 ≤ node ∧ node < (N : Int)))) : laneS N rows T core node tag = (rows, 14) := by
  have hM := H.small.1
  by_cases hc : 0 ≤ core ∧ core < (M : Int)
  · have hn : ¬ (0 ≤ node ∧ node < (N : Int)) := fun hn => h ⟨hc, hn⟩
    unfold laneS
    split
    · unfold pushS
      rw [if_pos (by omega), if_neg hn]
    · unfold behindS
      rw [if_neg (fun h => hn h.2)]
  · unfold laneS lastFit
    rw [rowI_out (by rw [hM]; exact hc)]
    rw [if_pos (by simp [lastI])]
    unfold pushS
    rw [if_neg (by omega)]
theorem laneS_held {W : World} (H : Rr W B rb lb mb N M rows) {l node : Nat} (tag : Int) (hl : l < M) (hn : node < N) (hf : node ∈ rows.flatten) : laneS N rows T (l : Int) (node : Int) tag = (rows, 10) := by
  have hM := H.small.1
  unfold laneS
  split
  · unfold pushS
    rw [if_pos (by omega), if_pos (by omega), if_pos (by simpa using hf)]
  · rename_i hneg
    unfold lastFit at hneg ⊢
    rw [rowI_in] at hneg ⊢
    generalize hr : rowAt rows l = r at hneg ⊢
    cases hk : upFit T r tag r.length with
    | zero => rw [hk] at hneg; simp [lastI] at hneg
    | succ k =>
      have hk' : k < r.length := by have := upFit_le T r tag r.length; omega
      rw [lastI_take hk']
      obtain ⟨m1, m2, m3, m4⟩ := H.spot (l := l) (i := k) (x := r.getD k 0) hl (by rw [hr]; exact hk') (by rw [hr])
      unfold behindS
      rw [if_pos ⟨by omega, by omega⟩, if_neg (fun h => h.2 (by simpa using hf))]
theorem laneT_in {core node tag : Int} (h : (laneS N rows T core node tag).2 = 0) : laneT N rows T core node tag = fun (i : Nat) => if (i : Int) = node then tag else T i := by
  unfold laneT
  rw [if_pos h]
theorem laneT_bad {core node tag : Int} (h : (laneS N rows T core node tag).2 ≠ 0) : laneT N rows T core node tag = T := by
  unfold laneT
  rw [if_neg h]
end

/-! Nodes that were put into one lane, the i-th with the tag t i. -/
def laid (t : Nat → Int) : Nat → List Nat
  | 0 => []
  | i + 1 => insRow t (laid t i) i (t i)
theorem laid_mem (t : Nat → Int) : ∀ i x, x ∈ laid t i ↔ x < i
  | 0, x => by simp [laid]
  | i + 1, x => by
    rw [laid, insRow_mem, laid_mem t i x]
    omega
theorem laid_length (t : Nat → Int) : ∀ i, (laid t i).length = i
  | 0 => rfl
  | i + 1 => by rw [laid, insRow_length, laid_length t i]
/-- One ahead of another: of a lesser tag, or of the same one and put in before it. -/
def Ahead (t : Nat → Int) (x y : Nat) : Prop := t x < t y ∨ (t x = t y ∧ x < y)
theorem laid_sorted (t : Nat → Int) : ∀ i, (laid t i).Pairwise (Ahead t)
  | 0 => List.Pairwise.nil
  | i + 1 => by
    have ih := laid_sorted t i
    have hm := laid_mem t i
    rw [laid]
    unfold insRow
    generalize hk : upFit t (laid t i) (t i) (laid t i).length = k
    generalize laid t i = r at ih hm hk
    have ih' := ih
    rw [← List.take_append_drop k r, List.pairwise_append] at ih'
    obtain ⟨h1, h2, h3⟩ := ih'
    have hkl : k ≤ r.length := by rw [← hk]; exact upFit_le _ _ _ _
    have hA : ∀ x ∈ r.take k, Ahead t x i := by
      intro x hx
      have hxi : x < i := (hm x).1 (List.mem_of_mem_take hx)
      cases k with
      | zero => simp at hx
      | succ k =>
        have hb := upFit_below t r (t i) r.length k hk
        have e : r.getD k 0 = r[k] := by simp [List.getD, show k < r.length by omega]
        rw [e] at hb
        rw [List.take_succ_eq_append_getElem (by omega)] at hx h1
        rw [List.pairwise_append] at h1
        rcases List.mem_append.1 hx with hx | hx
        · have := h1.2.2 x hx r[k] (by simp)
          rcases this with h | h
          · exact .inl (by omega)
          · by_cases e2 : t x = t i
            · exact .inr ⟨e2, hxi⟩
            · exact .inl (by omega)
        · obtain rfl : x = r[k] := by simpa using hx
          by_cases e2 : t r[k] = t i
          · exact .inr ⟨e2, hxi⟩
          · exact .inl (by omega)
    have hB : ∀ y ∈ r.drop k, Ahead t i y := by
      intro y hy
      obtain ⟨j, hj, rfl⟩ := List.getElem_of_mem hy
      rw [List.getElem_drop]
      rw [List.length_drop] at hj
      have := upFit_above t r (t i) r.length (k + j) (by omega) (by omega)
      have e : r.getD (k + j) 0 = r[k + j] := by simp [List.getD, show k + j < r.length by omega]
      rw [e] at this
      exact .inl this
    rw [List.pairwise_append]
    refine ⟨h1, List.pairwise_cons.2 ⟨hB, h2⟩, fun x hx y hy => ?_⟩
    rcases List.mem_cons.1 hy with rfl | hy
    · exact hA x hx
    · exact h3 x hx y hy

/-- The lanes of which one has these nodes. -/
def oneRow (M c : Nat) (t : Nat → Int) (i : Nat) : List (List Nat) := (List.replicate M []).set c (laid t i)
theorem oneRow_zero (M c : Nat) (t : Nat → Int) : oneRow M c t 0 = List.replicate M [] := by
  unfold oneRow
  by_cases h : c < M
  · refine List.ext_getElem (by simp) fun k h1 h2 => ?_
    rw [List.getElem_set]
    simp [laid]
  · rw [List.set_eq_of_length_le (by simp; omega)]
theorem oneRow_at {M c : Nat} (h : c < M) (t : Nat → Int) (i : Nat) : rowAt (oneRow M c t i) c = laid t i := rowAt_set_same _ _ _ (by simpa using h)
theorem oneRow_other {M c k : Nat} (h : k ≠ c) (t : Nat → Int) (i : Nat) : rowAt (oneRow M c t i) k = [] := by
  unfold oneRow
  rw [rowAt_set_other _ _ _ _ h]
  by_cases hk : k < M
  · simp [rowAt, List.getD, hk]
  · exact rowAt_out (by simp; omega)
theorem oneRow_mem {M c : Nat} (h : c < M) (t : Nat → Int) (i x : Nat) : x ∈ (oneRow M c t i).flatten ↔ x < i := by
  constructor
  · intro hx
    obtain ⟨l, hl, hm⟩ := mem_rowAt hx
    by_cases e : l = c
    · rw [e, oneRow_at h] at hm
      exact (laid_mem t i x).1 hm
    · rw [oneRow_other e] at hm
      simp at hm
  · intro hx
    exact rowAt_mem (l := c) (by simpa [oneRow] using h) (by rw [oneRow_at h]; exact (laid_mem t i x).2 hx)
section
variable {B nb tg rb lb mb N M : Nat} {T t : Nat → Int}
theorem laneS_one {W : World} {c i : Nat} (H : Rr W B rb lb mb N M (oneRow M c t i)) (hT : ∀ j, j < i → T j = t j) (hc : c < M) (hi : i < N) :
    laneS N (oneRow M c t i) T (c : Int) (i : Int) (t i) = (oneRow M c t (i + 1), 0) ∧ ∀ j, j < i + 1 → laneT N (oneRow M c t i) T (c : Int) (i : Int) (t i) j = t j := by
  have e := laneS_in (T := T) H (t i) hc hi (fun h => by have := (oneRow_mem hc t i i).1 h; omega)
  have e2 : insRow T (laid t i) i (t i) = laid t (i + 1) := insRow_congr (fun x hx => hT x ((laid_mem t i x).1 hx))
  rw [oneRow_at hc, e2] at e
  have e3 : (oneRow M c t i).set c (laid t (i + 1)) = oneRow M c t (i + 1) := by unfold oneRow; rw [List.set_set]
  rw [e3] at e
  refine ⟨e, fun j hj => ?_⟩
  rw [laneT_in (by rw [e])]
  by_cases h : j = i
  · simp [h]
  · show (if (j : Int) = (i : Int) then t i else T j) = t j
    rw [if_neg (by omega)]
    exact hT j (by omega)
end
end Go.Proofs.Ytnlcbilmalfjaaa
