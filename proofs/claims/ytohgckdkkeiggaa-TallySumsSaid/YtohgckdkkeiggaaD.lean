/- A part of the proof of a law of roundel: contracts of functions and lemmas, each true as it stands; no condition beyond those that its theorems state. -/
import Derived.Test.YtohgckdkkeiggaaC
namespace Go.Proofs.Ytohgckdkkeiggaa
set_option linter.unusedSimpArgs false
set_option linter.unusedVariables false
open Go.RowKit Go.Maps

theorem do_any (own : Own) (B b off m : Nat) (F : Int → Int) (p : Nat) (hpb : b ≠ p) (W : World) (S : Sits W own B b) (hp : W.cell? ⟨p, 0, none⟩ = some (.pointer (some ⟨b, off, none⟩))) (hpl : p < W.heap.size) (hop : own p = none) (H : BookAt W own B b off m F) :
    Calls Try.prog 26 #[.pointer (some ⟨b, off, none⟩), .func (.func 27) #[] #[.pointer (some ⟨p, 0, none⟩)]] W fun e W' => e = .returned (.tuple #[]) ∧
      ∃ own' mb D, Live W' own' B b off m F 0 mb D ∧ Sits W' own' B b ∧ Chg own B b off W W' ∧ (∀ x, x < W.heap.size → own' x = own x) := by
  rcases H with ⟨h0, h1, h3, h5, hF⟩ | ⟨mb, D, hL⟩
  · refine (do_first b off ⟨p, 0, none⟩ hpb _ W S.lt hp h0 h1 h5 (S.frz _) (S.frz _) (S.frz _)).mono ?_
    rintro e W' ⟨rfl, rfl⟩
    have hbs := S.lt
    have hbB := S.base
    have hne : W.heap.size ≠ b := by omega
    refine ⟨rfl, fun x => if x = W.heap.size then some (b, off, none) else own x, W.heap.size, .map [], ?_, ?_, ?_, fun x hx => by simp only [if_neg (Nat.ne_of_lt hx)]⟩
    · refine ⟨made_cell0 W b off S.lt h0, ?_, made_cell5 W b off S.lt h5, by omega, by simp, ?_, fun k hk => .inl ⟨rfl, hF k⟩⟩
      · rw [made_cell W b off ⟨b, off + 3, none⟩ S.lt (by simp) (by simp) (by simp)]
        exact h3
      · obtain ⟨es, clock, e1, e2, e3, e4⟩ := World.ownsMap_made (H := Unit) W Try.prog 3 ptrElem
        rw [(MapKept.heap_alloc W _).1] at e1
        injection e1 with e1
        injection e1 with e1 e1'
        subst e1
        subst e1'
        exact ⟨#[], 0, made_map W b off S.lt, e2, by simp, rfl⟩
    · refine ⟨by simp only [if_neg (Ne.symm hne)]; exact S.tag, S.base, by rw [made_size]; omega, fun j => by rw [made_frozen W b off ⟨b, j, none⟩ S.lt]; exact S.frz j, fun x t hx => ?_, fun x t hx => ?_⟩
      · rw [made_size]
        by_cases e : x = W.heap.size
        · omega
        · simp only [if_neg e] at hx
          have := S.old x t hx
          omega
      · by_cases e : x = W.heap.size
        · omega
        · simp only [if_neg e] at hx
          exact S.low x t hx
    · refine ⟨rfl, rfl, rfl, by rw [made_size]; omega, fun x hx hb _ => made_block W b off x hx hb, fun j hj => ?_, fun j => made_frozen W b off ⟨b, j, none⟩ S.lt⟩
      exact made_cell W b off ⟨b, j, none⟩ S.lt (by simp <;> omega) (by simp <;> omega) (by simp <;> omega)
  · refine (do_done ⟨b, off, none⟩ 1 (by decide) _ W hL.done).mono ?_
    rintro e W' ⟨rfl, rfl⟩
    exact ⟨rfl, own, mb, D, hL, S, Chg.refl _ _ _ _ _, fun _ _ => rfl⟩

theorem Live.mono {W : World} {own : Own} {B b off m m' : Nat} {F : Int → Int} {lk : Int} {mb : Nat} {D : DataW Unit} (h : Live W own B b off m F lk mb D) (hm : m ≤ m') : Live W own B b off m' F lk mb D :=
  ⟨h.done, h.lock, h.map, h.base, h.tag, h.owns.mono hm, h.each⟩
theorem Sits.alloc {W : World} {own : Own} {B b : Nat} (S : Sits W own B b) (o : Obj) : Sits (W.alloc o) own B b :=
  ⟨S.tag, S.base, by simp; have := S.lt; omega, fun j => by rw [World.frozen?_alloc_old _ _ _ (Nat.ne_of_lt S.lt)]; exact S.frz j, fun x t h => by have := S.old x t h; simp; omega, S.low⟩
theorem Sits.setCell {W : World} {own : Own} {B b : Nat} (S : Sits W own B b) (a : Addr) (v : Value) : Sits (W.setCell a v) own B b :=
  ⟨S.tag, S.base, by simpa using S.lt, fun j => by rw [World.frozen?_setCell]; exact S.frz j, fun x t h => by simpa using S.old x t h, S.low⟩

theorem BookAt.kept {W W' : World} {own own' : Own} {B b off m : Nat} {F : Int → Int} (h : BookAt W own B b off m F) (hold : ∀ x t, own x = some t → x < W.heap.size)
    (hcell : ∀ j, off ≤ j → j < off + 6 → W'.cell? ⟨b, j, none⟩ = W.cell? ⟨b, j, none⟩) (hblk : ∀ x key, own x = some (b, off, key) → W'.heap[x]? = W.heap[x]?) (ho : ∀ x, x < W.heap.size → own' x = own x) :
    BookAt W' own' B b off m F := by
  rcases h with ⟨h0, h1, h3, h5, hF⟩ | ⟨mb, D, hL⟩
  · exact .inl ⟨(hcell _ (by omega) (by omega)).trans h0, (hcell _ (by omega) (by omega)).trans h1, (hcell _ (by omega) (by omega)).trans h3, (hcell _ (by omega) (by omega)).trans h5, hF⟩
  · exact .inr ⟨mb, D, hL.kept hold hcell hblk ho⟩

theorem Chg.alloc {own : Own} {B b off : Nat} {W W' : World} (h : Chg own B b off W W') (hb : b < W.heap.size) (o : Obj) : Chg own B b off W (W'.alloc o) :=
  ⟨h.os, h.tape, h.output, by have := h.size; simp; omega, fun x hx hb hn => (Below.heap_alloc W' o x (Nat.lt_of_lt_of_le hx h.size)).trans (h.blk x hx hb hn),
    fun j hj => (World.cell?_alloc_past _ _ _ (Nat.lt_of_lt_of_le hb h.size)).trans (h.cells j hj), fun j => (World.frozen?_alloc_past _ _ _ (Nat.lt_of_lt_of_le hb h.size)).trans (h.frz j)⟩
theorem Chg.setLock {own : Own} {B b off : Nat} {W W' : World} (h : Chg own B b off W W') (j0 : Nat) (hj : j0 < 6) (v : Value) : Chg own B b off W (W'.setCell ⟨b, off + j0, none⟩ v) :=
  ⟨h.os, h.tape, h.output, by have := h.size; simpa using this, fun x hx hb hn => (Below.heap_setCell W' _ _ x hb).trans (h.blk x hx hb hn),
    fun j hj => (World.cell?_setCell_other _ _ _ _ (by simp <;> omega)).trans (h.cells j hj), fun j => by rw [World.frozen?_setCell]; exact h.frz j⟩

theorem Chg.grown {own own1 : Own} {B b off : Nat} {W W' W2 : World} (h : Chg own B b off W W') (mb : Nat) (ht : own1 mb = some (b, off, none)) (hob : own1 b = none) (hb : b < W.heap.size) (ho : ∀ x, x < W.heap.size → own1 x = own x) (hg : W'.grownBy W2 (some mb)) : Chg own B b off W W2 := by
  have hbm : b ≠ mb := fun e => by rw [← e, hob] at ht; cases ht
  have hbk : W2.heap[b]? = W'.heap[b]? := hg.block b (Nat.lt_of_lt_of_le hb h.size) (by simp [hbm])
  refine ⟨hg.os.trans h.os, hg.tape.trans h.tape, hg.output.trans h.output, Nat.le_trans h.size hg.size, fun x hx hxb hn => ?_, fun j hj => (World.cell?_of_block (a := ⟨b, j, none⟩) hbk).trans (h.cells j hj), fun j => (World.frozen?_of_block (a := ⟨b, j, none⟩) hbk).trans (h.frz j)⟩
  have hxm : x ≠ mb := fun e => hn none (by rw [← ho x hx, e]; exact ht)
  exact (hg.block x (Nat.lt_of_lt_of_le hx h.size) (by simp [hxm])).trans (h.blk x hx hxb hn)

set_option maxRecDepth 100000 in
set_option maxHeartbeats 1600000 in
/-- A number's counter. -/
theorem at_any (own : Own) (B b off m : Nat) (hm : m ≤ 1000000) (F : Int → Int) (k : Int) (hk : I64 k) (W : World) (S : Sits W own B b) (H : BookAt W own B b off m F) :
    Calls Try.prog 21 #[.pointer (some ⟨b, off, none⟩), .int .i64 k] W fun e W' => ∃ (c : Nat) (own' : Own) (mb : Nat) (D : DataW Unit), e = .returned (.pointer (some ⟨c, 0, none⟩)) ∧ Live W' own' B b off (m + 1) F 0 mb D ∧ Maps.has D (.int .i64 k) = true ∧ D.atKey (.int .i64 k) .nil = .lit (.int .i64 (c : Int)) ∧ Sits W' own' B b ∧ Chg own B b off W W' ∧
      (∀ x, x < W.heap.size → own' x = own x) ∧ own' c = some (b, off, some k) ∧ W'.cell? ⟨c, 0, none⟩ = some (.int .i64 (F k)) ∧ W'.frozen? ⟨c, 0, none⟩ = false := by
  have hmf : ∀ (fn : Fn) (first cap : Array Value) (w : World), (Instr.makeFunc fn first cap).run Try.prog w = .ok (.func fn first cap) w := fun _ _ _ _ => rfl
  have hnot : ∀ (x : Bool) (w : World), (Op.unary .not (.bool x)).run Try.prog w = .ok (.bool (!x)) w := fun _ _ => rfl
  have hpb : b ≠ W.heap.size := by have := S.lt; omega
  go_enter_defers Try.func21, Try.ntmps21
  go_wp2_with fail
  have hop : own W.heap.size = none := by
    cases h : own W.heap.size with
    | none => rfl
    | some t => exact absurd (S.old _ _ h) (by omega)
  have hbl := S.lt
  have H1 : BookAt (W.alloc (.cells #[.pointer (some ⟨b, off, none⟩)] 66)) own B b off m F := H.kept S.old (fun j _ _ => World.cell?_alloc_past _ _ _ hbl) (fun x key hx => Below.heap_alloc _ _ _ (S.old _ _ hx)) (fun _ _ => rfl)
  refine (do_any own B b off m F W.heap.size hpb _ (S.alloc _) (by simp) (by simp) hop H1).mono ?_
  rintro e W1 ⟨rfl, own1, mb, D, hL, S1, hC, ho⟩
  have hC0 : Chg own B b off W W1 := ((Chg.refl own B b off W).alloc hbl _).trans hC (fun _ _ => rfl)
  have hp1 : W1.cell? ⟨W.heap.size, 0, none⟩ = some (.pointer (some ⟨b, off, none⟩)) :=
    (World.cell?_of_block (a := ⟨W.heap.size, 0, none⟩) (hC.blk _ (by simp) (Ne.symm hpb) (fun key => by rw [hop]; simp))).trans (by simp)
  have ho1 : ∀ x, x < W.heap.size → own1 x = own x := fun x hx => ho x (by simp; omega)
  have hpl1 : W.heap.size < W1.heap.size := by have := hC.size; simp at this; omega
  clear H H1 hC ho
  have hL2 := hL.setLock S1.tag 1
  have hp2 : (W1.setCell ⟨b, off + 3, none⟩ (.int .i32 1)).cell? ⟨W.heap.size, 0, none⟩ = some (.pointer (some ⟨b, off, none⟩)) := (World.cell?_setCell_other _ _ _ _ (by simp [hpb])).trans hp1
  have S2 := S1.setCell ⟨b, off + 3, none⟩ (.int .i32 1)
  have hC2 := hC0.setLock 3 (by omega) (.int .i32 1)
  have hkey := key3 hk
  have hbl1 : b < W1.heap.size := S1.lt
  rcases hL.each k hk with ⟨hno, hF0⟩ | ⟨c, hyes, hat, hBc, hoc, hcc, hcf⟩
  · have hm2 := hL2.map
    go_wp2_with (first
      | (go_at_call 28; refine (lock_free ⟨b, off + 3, none⟩ _ hL.lock (S1.frz _)).mono ?_; rintro e w' ⟨rfl, rfl⟩)
      | (at_lookup; refine wpList_lookup_own_ok _ rfl _ _ 37 rfl 3 62 law3 Try.underlying37 ptrElem (zero62 _) .nil [] ptrElem_nil mb m D rfl hL2.owns _ _ rfl hkey ?_; intro v ps hv; rw [atKey_of_not_has hno] at hv; obtain rfl := ptrElem_none hv; rw [hno])
      | (at_mapUpdate; refine wpList_mapUpdate_own _ rfl _ _ _ 37 rfl 3 62 law3 Try.underlying37 ptrElem mb m D rfl (hL2.owns.alloc _) (by unfold maxLen; omega) _ _ (.int .i64 k) rfl rfl hkey (.lit (.int .i64 (W1.heap.size : Int))) [] (ptrElem_mk _) ?_; intro w4 hown4 hgr4))
    have hoc : own1 W1.heap.size = none := by
      cases h : own1 W1.heap.size with
      | none => rfl
      | some t => exact absurd (S1.old _ _ h) (by omega)
    have hBW : B ≤ W1.heap.size := by have := S1.base; omega
    have hL3 : Live ((W1.setCell ⟨b, off + 3, none⟩ (.int .i32 1)).alloc (.cells #[.int .i64 0] 61)) own1 B b off m F 1 mb D :=
      hL2.kept S2.old (fun j _ _ => World.cell?_alloc_past _ _ _ (by simpa using hbl1)) (fun x key hx => Below.heap_alloc _ _ _ (S2.old _ _ hx)) (fun _ _ => rfl)
    have S3 := S2.alloc (.cells #[.int .i64 0] 61)
    have hC3 := hC2.alloc hbl (.cells #[.int .i64 0] 61)
    have hsz : (W1.setCell ⟨b, off + 3, none⟩ (.int .i32 1)).heap.size = W1.heap.size := by simp
    have hnc : ((W1.setCell ⟨b, off + 3, none⟩ (.int .i32 1)).alloc (.cells #[.int .i64 0] 61)).cell? ⟨W1.heap.size, 0, none⟩ = some (.int .i64 0) := by
      have z := World.cell?_alloc_new (W1.setCell ⟨b, off + 3, none⟩ (.int .i32 1)) #[.int .i64 0] 61 0
      rw [hsz] at z
      exact z
    have hnf : ((W1.setCell ⟨b, off + 3, none⟩ (.int .i32 1)).alloc (.cells #[.int .i64 0] 61)).frozen? ⟨W1.heap.size, 0, none⟩ = false := by
      have z := World.frozen?_alloc_new (W1.setCell ⟨b, off + 3, none⟩ (.int .i32 1)) #[.int .i64 0] 61 0
      rw [hsz] at z
      exact z
    have hL4 := hL3.put S1.tag W1.heap.size k hk hno hoc (by omega) hBW hnc hnf S3.lt (by simp) S3.old hown4 hgr4
    have hC4 := hC3.grown mb hL3.tag S1.tag hbl ho1 hgr4
    have hbm : b ≠ mb := fun e => by have := hL3.tag; rw [← e, S1.tag] at this; cases this
    have hbk := hgr4.block b S3.lt (by simp [hbm])
    have S4 : Sits w4 (fun x => if x = W1.heap.size then some (b, off, some k) else own1 x) B b := by
      refine ⟨by simp only [if_neg (show b ≠ W1.heap.size by omega)]; exact S1.tag, S1.base, Nat.lt_of_lt_of_le S3.lt hgr4.size, fun j => (World.frozen?_of_block (a := ⟨b, j, none⟩) hbk).trans (S3.frz j), fun x t hx => ?_, fun x t hx => ?_⟩
      · refine Nat.lt_of_lt_of_le ?_ hgr4.size
        by_cases e : x = W1.heap.size
        · rw [e]; simp
        · simp only [if_neg e] at hx
          exact S3.old x t hx
      · by_cases e : x = W1.heap.size
        · omega
        · simp only [if_neg e] at hx
          exact S3.low x t hx
    refine leaves_cons (f := 29) (args := #[.pointer (some ⟨b, off + 3, none⟩)]) (by simp) (by simp [go_sem]) ?_
    refine (unlock_deferred ⟨b, off + 3, none⟩ .returning _ hL4.lock (S4.frz _)).mono ?_
    rintro e u' w'' ⟨rfl, rfl, rfl⟩
    have hcb : b ≠ W1.heap.size := by omega
    have hmc : mb ≠ W1.heap.size := fun e => by have := hL3.tag; rw [e, hoc] at this; cases this
    have hck := hgr4.block W1.heap.size (by simp) (by simp [Ne.symm hmc])
    refine ⟨_, results_tmp rfl _ _ _, W1.heap.size, _, mb, _, rfl, hL4.setLock S4.tag 0, has_put_same hL3.owns.isMap (law3.key hkey) _, atKey_put_same hL3.owns.isMap (law3.key hkey) _ _, S4.setCell _ _, hC4.setLock 3 (by omega) _, fun x hx => ?_, by simp, ?_, ?_⟩
    · simp only [if_neg (show x ≠ W1.heap.size by omega)]
      exact ho1 x hx
    · rw [World.cell?_setCell_other _ _ _ _ (by simp [hcb]), World.cell?_of_block (a := ⟨W1.heap.size, 0, none⟩) hck, hF0]
      exact hnc
    · rw [World.frozen?_setCell, World.frozen?_of_block (a := ⟨W1.heap.size, 0, none⟩) hck]
      exact hnf
  · have hm2 := hL2.map
    go_wp2_with (first
      | (go_at_call 28; refine (lock_free ⟨b, off + 3, none⟩ _ hL.lock (S1.frz _)).mono ?_; rintro e w' ⟨rfl, rfl⟩)
      | (at_lookup; refine wpList_lookup_own_ok _ rfl _ _ 37 rfl 3 62 law3 Try.underlying37 ptrElem (zero62 _) .nil [] ptrElem_nil mb m D rfl hL2.owns _ _ rfl hkey ?_; intro v ps hv; rw [hat] at hv; obtain rfl := ptrElem_inv hv; rw [hyes]))
    refine leaves_cons (f := 29) (args := #[.pointer (some ⟨b, off + 3, none⟩)]) (by simp) (by simp [go_sem]) ?_
    refine (unlock_deferred ⟨b, off + 3, none⟩ .returning _ hL2.lock (S2.frz _)).mono ?_
    rintro e u' w'' ⟨rfl, rfl, rfl⟩
    have hcb : b ≠ c := fun e => by rw [← e, S1.tag] at hoc; cases hoc
    refine ⟨_, results_tmp rfl _ _ _, c, own1, mb, D, rfl, (hL2.setLock S1.tag 0).mono (by omega), hyes, hat, S2.setCell _ _, hC2.setLock 3 (by omega) _, ho1, hoc, ?_, ?_⟩
    · rw [World.cell?_setCell_other _ _ _ _ (by simp [hcb]), World.cell?_setCell_other _ _ _ _ (by simp [hcb])]
      exact hcc
    · rw [World.frozen?_setCell, World.frozen?_setCell]
      exact hcf
end Go.Proofs.Ytohgckdkkeiggaa
