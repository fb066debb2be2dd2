/- A part of the proof of a law of roundel: contracts of functions and lemmas, each true as it stands; no condition beyond those that its theorems state. -/
import Derived.Test.YtnlcbilmalfjaaaQ
namespace Go.Proofs.Ytnlcbilmalfjaaa
set_option linter.unusedSimpArgs false
set_option linter.unusedVariables false
open Go.RowKit

/-- A node is put into a lane, with a tag. -/
def laneS (N : Nat) (rows : List (List Nat)) (T : Nat → Int) (core node tag : Int) : List (List Nat) × Int :=
  if lastFit T (rowI rows core) tag < 0 then pushS N rows core node true else behindS N rows (lastFit T (rowI rows core) tag) node
def laneT (N : Nat) (rows : List (List Nat)) (T : Nat → Int) (core node tag : Int) : Nat → Int :=
  if (laneS N rows T core node tag).2 = 0 then fun i => if (i : Int) = node then tag else T i else T

theorem laneS_node {N : Nat} {rows : List (List Nat)} {T : Nat → Int} {core node tag : Int} (h : (laneS N rows T core node tag).2 = 0) : 0 ≤ node ∧ node < (N : Int) := by
  unfold laneS pushS behindS at h
  split at h
  · split at h
    · split at h
      · assumption
      · cases h
    · cases h
  · split at h
    · rename_i h1
      exact h1.2
    · cases h

section
variable {B nb tg rb lb mb N M : Nat} {rows : List (List Nat)} {T : Nat → Int}

theorem Ls.rc {W W' : World} {rows' : List (List Nat)} (h : Ls W B nb tg rb lb mb N M rows T) (C : Rc lb mb W W') (R : Rr W' B rb lb mb N M rows') : Ls W' B nb tg rb lb mb N M rows' T :=
  have k1 := C.blk nb h.lt.1 h.d1.2.2.1 h.d1.2.2.2
  have k2 := C.blk tg h.lt.2 h.d2.2.1 h.d2.2.2
  ⟨R, (World.cell?_of_block (a := ⟨nb, 0, none⟩) k1).trans h.c0, (World.cell?_of_block (a := ⟨nb, 1, none⟩) k1).trans h.c1, fun i hi => (World.cell?_of_block (a := ⟨tg, i, none⟩) k2).trans (h.t i hi), fun o => (World.frozen?_of_block (a := ⟨tg, o, none⟩) k2).trans (h.ft o), h.d1, h.d2, h.ge, ⟨Nat.lt_of_lt_of_le h.lt.1 C.size, Nat.lt_of_lt_of_le h.lt.2 C.size⟩⟩
theorem Ls.set {W : World} (h : Ls W B nb tg rb lb mb N M rows T) (k : Nat) (v : Int) : Ls (W.setCell ⟨tg, k, none⟩ (.int .i64 v)) B nb tg rb lb mb N M rows (fun i => if (i : Int) = (k : Int) then v else T i) := by
  have hs : (W.setCell ⟨tg, k, none⟩ (.int .i64 v)).heap.size = W.heap.size := by simp
  refine ⟨h.rr.blk (by rw [hs]; exact Nat.le_refl _) (Below.heap_setCell _ _ _ _ (Ne.symm h.d2.1)) (Below.heap_setCell _ _ _ _ (Ne.symm h.d2.2.1)) (Below.heap_setCell _ _ _ _ (Ne.symm h.d2.2.2)), ?_, ?_, fun i hi => ?_, fun o => by rw [World.frozen?_setCell]; exact h.ft o, h.d1, h.d2, h.ge, by rw [hs]; exact h.lt⟩
  · rw [World.cell?_setCell_other _ _ _ _ (by simp [Ne.symm h.d1.1])]; exact h.c0
  · rw [World.cell?_setCell_other _ _ _ _ (by simp [Ne.symm h.d1.1])]; exact h.c1
  · by_cases e : i = k
    · subst e
      rw [if_pos rfl]
      exact World.cell?_setCell_same _ _ _ (h.t i hi)
    · rw [if_neg (by omega), World.cell?_setCell_other _ _ _ _ (by simp [e])]
      exact h.t i hi

/-- What a call on lanes turns: the rings' two blocks, and the tags. -/
structure Lc (tg lb mb : Nat) (W W' : World) : Prop where
  os : W'.os = W.os
  tape : W'.tape = W.tape
  output : W'.output = W.output
  size : W.heap.size ≤ W'.heap.size
  blk : ∀ x, x < W.heap.size → x ≠ tg → x ≠ lb → x ≠ mb → W'.heap[x]? = W.heap[x]?
theorem Lc.below {W W' : World} (h : Lc tg lb mb W W') {B : Nat} (hB : B ≤ W.heap.size) (h1 : B ≤ tg) (h2 : B ≤ lb) (h3 : B ≤ mb) : Below B W W' :=
  ⟨h.os, h.tape, h.output, h.size, fun x hx => h.blk x (by omega) (by omega) (by omega) (by omega)⟩
theorem Lc.of_rc {W W' : World} (h : Rc lb mb W W') : Lc tg lb mb W W' := ⟨h.os, h.tape, h.output, h.size, fun x hx _ h1 h2 => h.blk x hx h1 h2⟩
theorem Lc.of_ext {W W' : World} (h : Ext W W') : Lc tg lb mb W W' := Lc.of_rc (Rc.of_ext lb mb h)
theorem Lc.trans {W W1 W2 : World} (h : Lc tg lb mb W W1) (k : Lc tg lb mb W1 W2) : Lc tg lb mb W W2 :=
  ⟨k.os.trans h.os, k.tape.trans h.tape, k.output.trans h.output, Nat.le_trans h.size k.size, fun x hx h0 h1 h2 => (k.blk x (Nat.lt_of_lt_of_le hx h.size) h0 h1 h2).trans (h.blk x hx h0 h1 h2)⟩
theorem Lc.set {W : World} (p : Nat) (v : Value) : Lc tg lb mb W (W.setCell ⟨tg, p, none⟩ v) :=
  ⟨rfl, rfl, rfl, by simp, fun x hx h0 _ _ => Below.heap_setCell _ _ _ _ h0⟩

set_option maxRecDepth 100000 in
set_option maxHeartbeats 1600000 in
theorem Put_any (core node tag : Int) (W : World) (H : Ls W B nb tg rb lb mb N M rows T) :
    Calls Try.prog 9 #[.pointer (some ⟨nb, 0, none⟩), .int .i64 core, .int .i64 node, .int .i64 tag] W fun e W' => e = .returned (.int .i64 (laneS N rows T core node tag).2) ∧ Ls W' B nb tg rb lb mb N M (laneS N rows T core node tag).1 (laneT N rows T core node tag) ∧ Lc tg lb mb W W' := by
  have hmf : ∀ (fn : Fn) (first cap : Array Value) (w : World), (Instr.makeFunc fn first cap).run Try.prog w = .ok (.func fn first cap) w := fun _ _ _ _ => rfl
  obtain ⟨at_, hat⟩ : ∃ a, a = lastFit T (rowI rows core) tag := ⟨_, rfl⟩
  have HA := Lib.hid hat
  clear hat
  go_enter Try.func9, Try.ntmps9
  go_wp2_with fail
  refine (last_any core tag _ (H.kept ((((Ext.refl _).alloc _).alloc _).alloc _))).mono ?_
  rintro e w1 ⟨he, y1⟩
  rw [← HA.out] at he
  subst he
  have y1s := y1.sz
  have hsz : W.heap.size + 1 + 1 + 1 ≤ w1.heap.size := by simpa using y1s
  have ey : Ext W w1 := ((((Ext.refl _).alloc _).alloc _).alloc _).trans y1
  have H1 := H.kept ey
  have c4 : w1.cell? ⟨W.heap.size, 0, none⟩ = some (.pointer (some ⟨nb, 0, none⟩)) := (y1.cell (p := ⟨W.heap.size, 0, none⟩) (by simp; omega)).trans ((World.cell?_alloc_past _ _ _ (by simp; omega)).trans ((two1 ..).trans rfl))
  have c5 : w1.cell? ⟨W.heap.size + 1, 0, none⟩ = some (.int .i64 core) := (y1.cell (p := ⟨W.heap.size + 1, 0, none⟩) (by simp)).trans ((World.cell?_alloc_past _ _ _ (by simp)).trans ((two2 ..).trans rfl))
  have c6 : w1.cell? ⟨W.heap.size + 1 + 1, 0, none⟩ = some (.int .i64 node) := (y1.cell (p := ⟨W.heap.size + 1 + 1, 0, none⟩) (by simp)).trans ((al3 ..).trans rfl)
  have l4 : W.heap.size < w1.heap.size := by omega
  have l5 : W.heap.size + 1 < w1.heap.size := by omega
  have l6 : W.heap.size + 1 + 1 < w1.heap.size := by omega
  clear y1 y1s hsz
  by_cases hneg : at_ < 0
  · have hS : laneS N rows T core node tag = pushS N rows core node true := by unfold laneS; rw [← HA.out, if_pos hneg]
    have HS := Lib.hid hS
    clear hS
    go_wp2_with fail
    have e1 : Ext w1 (w1.alloc (.cells #[.int .i64 at_] 3)) := (Ext.refl _).alloc _
    refine put2_any core node _ _ _ _ (H1.kept e1) ((e1.cell (p := ⟨W.heap.size, 0, none⟩) l4).trans c4) ((e1.cell (p := ⟨W.heap.size + 1, 0, none⟩) l5).trans c5) ((e1.cell (p := ⟨W.heap.size + 1 + 1, 0, none⟩) l6).trans c6) _ ((Lead_any core node _ ((H1.kept e1).rr.kept (Ext.refl _).drew)).mono ?_)
    rintro e w3 ⟨rfl, R3, C3⟩
    refine ⟨⟨_, rfl⟩, ?_⟩
    have C4 : Rc lb mb w1 w3 := ((Rc.of_ext lb mb e1).drew).trans C3
    have H3 := H1.rc C4 R3
    have ge3 := H.rr.ge
    have d4 : w3.cell? ⟨W.heap.size, 0, none⟩ = some (.pointer (some ⟨nb, 0, none⟩)) := (World.cell?_of_block (a := ⟨W.heap.size, 0, none⟩) (C4.blk W.heap.size l4 (by omega) (by omega))).trans c4
    have d6 : w3.cell? ⟨W.heap.size + 1 + 1, 0, none⟩ = some (.int .i64 node) := (World.cell?_of_block (a := ⟨W.heap.size + 1 + 1, 0, none⟩) (C4.blk (W.heap.size + 1 + 1) l6 (by omega) (by omega))).trans c6
    have L3 : Lc tg lb mb W w3 := (Lc.of_ext ey).trans (Lc.of_rc C4)
    rw [← HS.out] at H3 ⊢
    have hT : laneT N rows T core node tag = if (laneS N rows T core node tag).2 = 0 then (fun (i : Nat) => if (i : Int) = node then tag else T i) else T := rfl
    have hnd := laneS_node (N := N) (rows := rows) (T := T) (core := core) (node := node) (tag := tag)
    obtain ⟨p, hp⟩ : ∃ p, p = laneS N rows T core node tag := ⟨_, rfl⟩
    rw [← hp] at H3 hT hnd ⊢
    obtain ⟨rows', c⟩ := p
    dsimp only at H3 hT hnd ⊢
    have HP := Lib.hid hp
    clear hp
    have HT := Lib.hid hT
    clear hT R3 C3 C4 c4 c5 c6 l4 l5 l6 e1 ey H1
    by_cases hc : c = 0
    · subst hc
      obtain ⟨n0, n1⟩ := hnd rfl
      obtain ⟨k, rfl⟩ := Int.eq_ofNat_of_zero_le n0
      have a1 := H3.c1
      have at1 := H3.t k (by omega)
      have af := H3.ft k
      go_wp2_with fail
      go_still_tail 7, (by kernel_rfl)
      change wpList _ _ _ _ _ w3.drew
      go_wp2_with fail
      go_ret
      rw [HT.out, ← HP.out]
      simp only [if_true]
      exact ⟨rfl, ((H3.kept (Ext.refl _).drew).set k tag), (L3.trans (Lc.of_ext (Ext.refl _).drew)).trans (Lc.set k _)⟩
    · go_wp2_with fail
      go_ret
      rw [HT.out, ← HP.out, if_neg hc]
      exact ⟨rfl, H3, L3⟩
  · have hneg' : 0 ≤ at_ := by omega
    have hS : laneS N rows T core node tag = behindS N rows at_ node := by unfold laneS; rw [← HA.out, if_neg hneg]
    have HS := Lib.hid hS
    clear hS
    go_wp2_with fail
    have e1 : Ext w1 (w1.alloc (.cells #[.int .i64 at_] 3)) := (Ext.refl _).alloc _
    have c9 : (w1.alloc (.cells #[.int .i64 at_] 3)).cell? ⟨w1.heap.size, 0, none⟩ = some (.int .i64 at_) := World.cell?_alloc_new _ _ _ 0
    refine put1_any at_ node _ _ _ _ (H1.kept e1) ((e1.cell (p := ⟨W.heap.size, 0, none⟩) l4).trans c4) c9 ((e1.cell (p := ⟨W.heap.size + 1 + 1, 0, none⟩) l6).trans c6) _ ((Behind_any at_ node _ ((H1.kept e1).rr.kept (Ext.refl _).drew)).mono ?_)
    clear c9
    rintro e w3 ⟨rfl, R3, C3⟩
    refine ⟨⟨_, rfl⟩, ?_⟩
    have C4 : Rc lb mb w1 w3 := ((Rc.of_ext lb mb e1).drew).trans C3
    have H3 := H1.rc C4 R3
    have ge3 := H.rr.ge
    have d4 : w3.cell? ⟨W.heap.size, 0, none⟩ = some (.pointer (some ⟨nb, 0, none⟩)) := (World.cell?_of_block (a := ⟨W.heap.size, 0, none⟩) (C4.blk W.heap.size l4 (by omega) (by omega))).trans c4
    have d6 : w3.cell? ⟨W.heap.size + 1 + 1, 0, none⟩ = some (.int .i64 node) := (World.cell?_of_block (a := ⟨W.heap.size + 1 + 1, 0, none⟩) (C4.blk (W.heap.size + 1 + 1) l6 (by omega) (by omega))).trans c6
    have L3 : Lc tg lb mb W w3 := (Lc.of_ext ey).trans (Lc.of_rc C4)
    rw [← HS.out] at H3 ⊢
    have hT : laneT N rows T core node tag = if (laneS N rows T core node tag).2 = 0 then (fun (i : Nat) => if (i : Int) = node then tag else T i) else T := rfl
    have hnd := laneS_node (N := N) (rows := rows) (T := T) (core := core) (node := node) (tag := tag)
    obtain ⟨p, hp⟩ : ∃ p, p = laneS N rows T core node tag := ⟨_, rfl⟩
    rw [← hp] at H3 hT hnd ⊢
    obtain ⟨rows', c⟩ := p
    dsimp only at H3 hT hnd ⊢
    have HP := Lib.hid hp
    clear hp
    have HT := Lib.hid hT
    clear hT R3 C3 C4 c4 c5 c6 l4 l5 l6 e1 ey H1
    by_cases hc : c = 0
    · subst hc
      obtain ⟨n0, n1⟩ := hnd rfl
      obtain ⟨k, rfl⟩ := Int.eq_ofNat_of_zero_le n0
      have a1 := H3.c1
      have at1 := H3.t k (by omega)
      have af := H3.ft k
      go_wp2_with fail
      go_still_tail 7, (by kernel_rfl)
      change wpList _ _ _ _ _ w3.drew
      go_wp2_with fail
      go_ret
      rw [HT.out, ← HP.out]
      simp only [if_true]
      exact ⟨rfl, ((H3.kept (Ext.refl _).drew).set k tag), (L3.trans (Lc.of_ext (Ext.refl _).drew)).trans (Lc.set k _)⟩
    · go_wp2_with fail
      go_ret
      rw [HT.out, ← HP.out, if_neg hc]
      exact ⟨rfl, H3, L3⟩
end
end Go.Proofs.Ytnlcbilmalfjaaa
