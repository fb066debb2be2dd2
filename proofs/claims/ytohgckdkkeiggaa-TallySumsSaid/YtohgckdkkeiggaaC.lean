/- A part of the proof of a law of roundel: contracts of functions and lemmas, each true as it stands; no condition beyond those that its theorems state. -/
import Derived.Test.YtohgckdkkeiggaaB
namespace Go.Proofs.Ytohgckdkkeiggaa
set_option linter.unusedSimpArgs false
set_option linter.unusedVariables false
open Go.RowKit Go.Maps

/-- How a counter's address reads in a map: as its block's number. -/
def ptrElem (v : Value) : Option (DataW Unit × List MemPlace) :=
  match v with
  | .pointer (some ⟨c, 0, none⟩) => some (.lit (.int .i64 (c : Int)), [])
  | .pointer none => some (.nil, [])
  | _ => none

theorem ptrElem_mk (c : Nat) : ptrElem (.pointer (some ⟨c, 0, none⟩)) = some (.lit (.int .i64 (c : Int)), []) := rfl
theorem ptrElem_nil : ptrElem (.pointer none) = some (.nil, []) := rfl
theorem ptrElem_inv {v : Value} {c : Nat} {ps : List MemPlace} (h : ptrElem v = some (.lit (.int .i64 (c : Int)), ps)) : v = .pointer (some ⟨c, 0, none⟩) := by
  unfold ptrElem at h
  split at h
  · simp at h
    rename_i c'
    obtain rfl : c' = c := by omega
    rfl
  · simp at h
  · simp at h
theorem ptrElem_none {v : Value} {ps : List MemPlace} (h : ptrElem v = some (.nil, ps)) : v = .pointer none := by
  unfold ptrElem at h
  split at h
  · simp at h
  · rfl
  · simp at h

theorem law3 : Keyed Try.prog 3 := int_keyed Try.underlying3
theorem zero62 (w : World) : (zeroValue 62).run Try.prog w = .ok (.pointer none) w := by kernel_rfl

/-- A whole number of 64 bits. -/
def I64 (k : Int) : Prop := -9223372036854775808 ≤ k ∧ k ≤ 9223372036854775807
theorem key3 {k : Int} (h : I64 k) : keyOf Try.prog 3 (.int .i64 k) = some (.int .i64 k) := by
  refine keyOf_int_mk Try.underlying3 ?_
  have b1 : IntKind.i64.min = -9223372036854775808 := rfl
  have b2 : IntKind.i64.max = 9223372036854775807 := rfl
  simp only [Lit.wf, Bool.and_eq_true, decide_eq_true_eq, b1, b2]
  exact h

/-- What a block is for: a book's map, or its counter of a key. The book: its block, its offset there. -/
abbrev Own := Nat → Option (Nat × Nat × Option Int)

/-- A book at b, off, whose map is made: block mb, that reads as D; lk: its lock; m: the map has at most so many keys; F: what it has counted. -/
structure Live (W : World) (own : Own) (B b off m : Nat) (F : Int → Int) (lk : Int) (mb : Nat) (D : DataW Unit) : Prop where
  done : W.cell? ⟨b, off, none⟩ = some (.int .u32 1)
  lock : W.cell? ⟨b, off + 3, none⟩ = some (.int .i32 lk)
  map : W.cell? ⟨b, off + 5, none⟩ = some (.map (some mb))
  base : B ≤ mb
  tag : own mb = some (b, off, none)
  owns : W.ownsMap Try.prog 3 ptrElem mb m D
  each : ∀ k, I64 k → (Maps.has D (.int .i64 k) = false ∧ F k = 0) ∨
    ∃ c : Nat, Maps.has D (.int .i64 k) = true ∧ D.atKey (.int .i64 k) .nil = .lit (.int .i64 (c : Int)) ∧ B ≤ c ∧ own c = some (b, off, some k) ∧ W.cell? ⟨c, 0, none⟩ = some (.int .i64 (F k)) ∧ W.frozen? ⟨c, 0, none⟩ = false

/-- A book at b, off, that has counted F. -/
def BookAt (W : World) (own : Own) (B b off m : Nat) (F : Int → Int) : Prop :=
  (W.cell? ⟨b, off, none⟩ = some (.int .u32 0) ∧ W.cell? ⟨b, off + 1, none⟩ = some (.int .i32 0) ∧ W.cell? ⟨b, off + 3, none⟩ = some (.int .i32 0) ∧ W.cell? ⟨b, off + 5, none⟩ = some (.map none) ∧ ∀ k, F k = 0)
  ∨ ∃ mb D, Live W own B b off m F 0 mb D

/-- Where a book stands. -/
structure Sits (W : World) (own : Own) (B b : Nat) : Prop where
  tag : own b = none
  base : B ≤ b
  lt : b < W.heap.size
  frz : ∀ j, W.frozen? ⟨b, j, none⟩ = false
  old : ∀ x t, own x = some t → x < W.heap.size
  low : ∀ x t, own x = some t → B ≤ x

theorem Live.setLock {W : World} {own : Own} {B b off m : Nat} {F : Int → Int} {lk : Int} {mb : Nat} {D : DataW Unit} (h : Live W own B b off m F lk mb D) (hb : own b = none) (lk' : Int) :
    Live (W.setCell ⟨b, off + 3, none⟩ (.int .i32 lk')) own B b off m F lk' mb D := by
  have hmb : mb ≠ b := fun e => by have := h.tag; rw [e, hb] at this; cases this
  refine ⟨(World.cell?_setCell_other _ ⟨b, off + 3, none⟩ ⟨b, off, none⟩ _ (by simp)).trans h.done, World.cell?_setCell_same _ _ _ h.lock, (World.cell?_setCell_other _ ⟨b, off + 3, none⟩ ⟨b, off + 5, none⟩ _ (by simp)).trans h.map, h.base, h.tag, h.owns.setCell hmb _, fun k hk => ?_⟩
  rcases h.each k hk with e | ⟨c, e1, e2, e3, e4, e5, e6⟩
  · exact .inl e
  · have hcb : b ≠ c := fun e => by rw [← e, hb] at e4; cases e4
    exact .inr ⟨c, e1, e2, e3, e4, (World.cell?_setCell_other _ ⟨b, off + 3, none⟩ ⟨c, 0, none⟩ _ (by simp [hcb])).trans e5, by rw [World.frozen?_setCell]; exact e6⟩

/-- Nothing that the book uses has turned. -/
theorem Live.kept {W W' : World} {own own' : Own} {B b off m : Nat} {F : Int → Int} {lk : Int} {mb : Nat} {D : DataW Unit} (h : Live W own B b off m F lk mb D) (hold : ∀ x t, own x = some t → x < W.heap.size)
    (hcell : ∀ j, off ≤ j → j < off + 6 → W'.cell? ⟨b, j, none⟩ = W.cell? ⟨b, j, none⟩) (hblk : ∀ x key, own x = some (b, off, key) → W'.heap[x]? = W.heap[x]?) (ho : ∀ x, x < W.heap.size → own' x = own x) :
    Live W' own' B b off m F lk mb D := by
  refine ⟨(hcell _ (by omega) (by omega)).trans h.done, (hcell _ (by omega) (by omega)).trans h.lock, (hcell _ (by omega) (by omega)).trans h.map, h.base, (ho _ (hold _ _ h.tag)).trans h.tag, ?_, fun k hk => ?_⟩
  · obtain ⟨es, clock, hb, r⟩ := h.owns
    exact ⟨es, clock, (hblk _ _ h.tag).trans hb, r⟩
  · rcases h.each k hk with e | ⟨c, e1, e2, e3, e4, e5, e6⟩
    · exact .inl e
    · exact .inr ⟨c, e1, e2, e3, (ho _ (hold _ _ e4)).trans e4, (World.cell?_of_block (a := ⟨c, 0, none⟩) (hblk _ _ e4)).trans e5, (World.frozen?_of_block (a := ⟨c, 0, none⟩) (hblk _ _ e4)).trans e6⟩

/-- A new key. -/
theorem Live.put {W W' : World} {own : Own} {B b off m : Nat} {F : Int → Int} {lk : Int} {mb : Nat} {D : DataW Unit} (h : Live W own B b off m F lk mb D) (hb : own b = none) (c : Nat) (k : Int) (hk : I64 k) (hno : Maps.has D (.int .i64 k) = false)
    (hc : own c = none) (hcb : c ≠ b) (hBc : B ≤ c) (hcell : W.cell? ⟨c, 0, none⟩ = some (.int .i64 0)) (hfz : W.frozen? ⟨c, 0, none⟩ = false) (hlt : b < W.heap.size) (hcl : c < W.heap.size) (hold : ∀ x t, own x = some t → x < W.heap.size)
    (howns : W'.ownsMap Try.prog 3 ptrElem mb (m + 1) (D.put (.int .i64 k) (.lit (.int .i64 (c : Int))))) (hgr : W.grownBy W' (some mb)) :
    Live W' (fun x => if x = c then some (b, off, some k) else own x) B b off (m + 1) F lk mb (D.put (.int .i64 k) (.lit (.int .i64 (c : Int)))) := by
  have hmb : b ≠ mb := fun e => by have := h.tag; rw [← e, hb] at this; cases this
  have hmc : mb ≠ c := fun e => by have := h.tag; rw [e, hc] at this; cases this
  have hbk : W'.heap[b]? = W.heap[b]? := hgr.block b hlt (by simp [hmb])
  have hM := h.owns.isMap
  have hF : F k = 0 := by
    rcases h.each k hk with e | ⟨c, e1, _⟩
    · exact e.2
    · rw [hno] at e1; cases e1
  refine ⟨(World.cell?_of_block (a := ⟨b, off, none⟩) hbk).trans h.done, (World.cell?_of_block (a := ⟨b, off + 3, none⟩) hbk).trans h.lock, (World.cell?_of_block (a := ⟨b, off + 5, none⟩) hbk).trans h.map, h.base, ?_, howns, fun k' hk' => ?_⟩
  · simp only [if_neg hmc]
    exact h.tag
  · by_cases hkk : k' = k
    · subst hkk
      have hck : W'.heap[c]? = W.heap[c]? := hgr.block c hcl (by simp [Ne.symm hmc])
      exact .inr ⟨c, has_put_same hM (law3.key (key3 hk)) _, atKey_put_same hM (law3.key (key3 hk)) _ _, hBc, by simp, ((World.cell?_of_block (a := ⟨c, 0, none⟩) hck).trans hcell).trans (by rw [hF]), (World.frozen?_of_block (a := ⟨c, 0, none⟩) hck).trans hfz⟩
    · have hne : (Lit.int .i64 k') ≠ Lit.int .i64 k := by simp [hkk]
      rw [has_put_other hne, atKey_put_other hne]
      rcases h.each k' hk' with e | ⟨c', e1, e2, e3, e4, e5, e6⟩
      · exact .inl e
      · have hcc : c' ≠ c := fun e => by rw [e, hc] at e4; cases e4
        have hcm : mb ≠ c' := fun e => by have := h.tag; rw [e, e4] at this; simp at this
        have hck : W'.heap[c']? = W.heap[c']? := hgr.block c' (hold _ _ e4) (by simp [Ne.symm hcm])
        exact .inr ⟨c', e1, e2, e3, by simp only [if_neg hcc]; exact e4, (World.cell?_of_block (a := ⟨c', 0, none⟩) hck).trans e5, (World.frozen?_of_block (a := ⟨c', 0, none⟩) hck).trans e6⟩

/-- What a call on a book at b, off turns. -/
structure Chg (own : Own) (B b off : Nat) (W W' : World) : Prop where
  os : W'.os = W.os
  tape : W'.tape = W.tape
  output : W'.output = W.output
  size : W.heap.size ≤ W'.heap.size
  blk : ∀ x, x < W.heap.size → x ≠ b → (∀ key, own x ≠ some (b, off, key)) → W'.heap[x]? = W.heap[x]?
  cells : ∀ j, j < off ∨ off + 6 ≤ j → W'.cell? ⟨b, j, none⟩ = W.cell? ⟨b, j, none⟩
  frz : ∀ j, W'.frozen? ⟨b, j, none⟩ = W.frozen? ⟨b, j, none⟩

theorem Chg.refl (own : Own) (B b off : Nat) (W : World) : Chg own B b off W W := ⟨rfl, rfl, rfl, Nat.le_refl _, fun _ _ _ _ => rfl, fun _ _ => rfl, fun _ => rfl⟩
theorem Chg.trans {own own' : Own} {B b off : Nat} {W W1 W2 : World} (h : Chg own B b off W W1) (k : Chg own' B b off W1 W2) (ho : ∀ x, x < W.heap.size → own' x = own x) : Chg own B b off W W2 :=
  ⟨k.os.trans h.os, k.tape.trans h.tape, k.output.trans h.output, Nat.le_trans h.size k.size,
    fun x hx hb hn => (k.blk x (Nat.lt_of_lt_of_le hx h.size) hb (fun key => by rw [ho x hx]; exact hn key)).trans (h.blk x hx hb hn),
    fun j hj => (k.cells j hj).trans (h.cells j hj), fun j => (k.frz j).trans (h.frz j)⟩
end Go.Proofs.Ytohgckdkkeiggaa
