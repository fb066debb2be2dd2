/- A part of the proof of a law of roundel: contracts of functions and lemmas, each true as it stands; no condition beyond those that its theorems state. -/
import Derived.RangeFuncNested
import Derived.RangeFuncBound
import Derived.RangeFuncCalls
import Derived.RangeFuncLeaves
import Derived.Shelf.Abstract
import Derived.Shelf.RegionOpen
import Derived.WalkKit
import Derived.OwnWalkIn
import Derived.TacticsInMore
import Derived.LoopNIn
import Derived.LoopIn
import Derived.Test.YtnlcbilmalfjaaaR
namespace Go.Proofs.Ytnlcbilmalfjaaa
set_option linter.unusedSimpArgs false
set_option linter.unusedVariables false
open Go.RowKit Go.Shelf
attribute [local go_sem] Oper.semAt_some

/-- What a round of a caller keeps: every block of cells but its own. -/
structure Kc (ob : Nat) (W W' : World) : Prop where
  size : W.heap.size ≤ W'.heap.size
  blk : ∀ (k : Nat) (o : Obj), W.heap[k]? = some o → o.isCells = true → k ≠ ob → W'.heap[k]? = some o
theorem Kc.trans {ob : Nat} {A B C : World} (h : Kc ob A B) (k : Kc ob B C) : Kc ob A C := ⟨Nat.le_trans h.size k.size, fun x o hx hc hn => k.blk x o (h.blk x o hx hc hn) hc hn⟩
theorem Kc.of_ext {ob : Nat} {W W' : World} (h : Ext W W') : Kc ob W W' := ⟨h.sz, fun k o hk _ _ => (h.blk (Array.getElem?_eq_some_iff.1 hk).1).trans hk⟩
theorem block_of_cell {W : World} {b o : Nat} {v : Value} (h : W.cell? ⟨b, o, none⟩ = some v) : ∃ x, W.heap[b]? = some x ∧ x.isCells = true := by
  unfold World.cell? at h
  split at h
  · rename_i heq
    exact ⟨_, heq, rfl⟩
  · simp at h
theorem Kc.cell {ob : Nat} {W W' : World} (h : Kc ob W W') {b o : Nat} {v : Value} (hc : W.cell? ⟨b, o, none⟩ = some v) (hn : b ≠ ob) : W'.cell? ⟨b, o, none⟩ = some v := by
  obtain ⟨x, hx, hxc⟩ := block_of_cell hc
  exact (World.cell?_of_block (a := ⟨b, o, none⟩) ((h.blk b x hx hxc hn).trans hx.symm)).trans hc
section
variable {B rb lb mb N M : Nat} {rows : List (List Nat)}
theorem Rr.kc {ob : Nat} {W W' : World} (h : Rr W B rb lb mb N M rows) (hM : 0 < M) (k : Kc ob W W') (h1 : rb ≠ ob) (h2 : lb ≠ ob) (h3 : mb ≠ ob) : Rr W' B rb lb mb N M rows := by
  obtain ⟨g, Hg, L⟩ := h
  obtain ⟨x, hx, hxc⟩ := block_of_cell Hg.c0
  obtain ⟨y, hy, hyc⟩ := block_of_cell (Hg.l0 0 (by omega))
  obtain ⟨u, hu, huc⟩ := block_of_cell (Hg.mm 0 hM)
  exact ⟨g, Hg.kept k.size ((k.blk rb x hx hxc h1).trans hx.symm) ((k.blk lb y hy hyc h2).trans hy.symm) ((k.blk mb u hu huc h3).trans hu.symm), L⟩
theorem Ext.gb {W W' : World} (h : Ext W W') : W.grownBy W' none := ⟨h.os, h.tape, h.output, h.size, fun k hk _ => h.blk hk⟩
def nLeft (rows : List (List Nat)) (r : List Nat) (v : Int) : Nat := if v < 0 then 0 else r.length - posOf rows v.toNat

set_option maxRecDepth 100000 in
set_option maxHeartbeats 1600000 in
theorem nodes1_in (n : Nat) (hn : 1 ≤ n) (z : Int) (ob l b1 b2 : Nat) (W : World) (row : List Nat) (hrow : row = rowI rows z) (J Jx : List Nat → World → Prop) (hJ : AbidesFrom W.heap.size J) (hM : 0 < M) (hR : Rr W B rb lb mb N M rows)
    (hb1 : W.cell? ⟨b1, 0, none⟩ = some (.pointer (some ⟨rb, 0, none⟩))) (hb2 : W.cell? ⟨b2, 0, none⟩ = some (.int .i64 z)) (n1 : rb ≠ ob) (n2 : lb ≠ ob) (n3 : mb ≠ ob) (n4 : b1 ≠ ob)
    (hY : ∀ pre x W1, J pre W1 → pre.length < row.length → x < N → YieldAt Fence.wide (n - 1) Try.prog l #[.int .i64 ((x : Nat) : Int)] W1 fun e W' =>
      (e = .returned (.bool true) ∧ J (pre ++ [x]) W' ∧ Kc ob W1 W') ∨ (e = .returned (.bool false) ∧ Jx (pre ++ [x]) W')) (h0 : J [] W) :
    CallsIn Fence.wide n Try.prog 33 #[.func (.yield l) #[] #[], .pointer (some ⟨b1, 0, none⟩), .pointer (some ⟨b2, 0, none⟩)] W fun e W' => (∃ v, e = .returned v) ∧
      ((∃ ys, ys = row ∧ J ys W') ∨ (∃ pre, pre <+: row ∧ Jx pre W')) := by
  have HW := Lib.hid hrow
  clear hrow
  refine callsIn_of_wp Try.func33 rfl trivial ?_ rfl
  simp only [Try.ntmps33, List.size_toArray, List.length_cons, List.length_nil, Nat.reduceAdd, Nat.reduceSub, Array.replicate_succ, Array.replicate_zero, List.push_toArray, List.append_toArray, List.nil_append, List.cons_append]
  gi_wp2_with fail
  refine ⟨trivial, ?_⟩
  refine (callsIn_wide.2 (First_any z W hR)).mono ?_
  rintro e w1 ⟨he, y1⟩
  rw [← HW.out] at he
  subst he
  gi_wp2_with fail
  have J1 : J [] w1 := hJ _ _ _ _ h0 y1.gb (fun _ h => by cases h)
  have k1 : Kc ob W w1 := Kc.of_ext y1
  gi_loopw [4] (fun v wr => ∃ i : Nat, i ≤ row.length ∧ v = .int .i64 (firstI (row.drop i)) ∧ J (row.take i) wr ∧ Kc ob W wr) (fun v _ => nLeft rows row (intOf v))
  case atStart => exact ⟨0, by omega, by simp, by simpa using J1, k1⟩
  case round =>
    obtain ⟨i, hi, rfl, Ji, ki⟩ := hrel
    clear J1 k1 y1
    have c1 := ki.cell hb1 n4
    have Ri := hR.kc hM ki n1 n2 n3
    by_cases hin : i < row.length
    · obtain ⟨x, hx⟩ : ∃ x, x = row.getD i 0 := ⟨_, rfl⟩
      have hfd := firstI_drop hin
      rw [← hx] at hfd
      have htk : row.take (i + 1) = row.take i ++ [x] := by rw [List.take_succ_eq_append_getElem hin, hx]; simp [List.getD, hin]
      have hz0 : 0 ≤ z ∧ z < (M : Int) := by
        refine Decidable.byContradiction fun hne => ?_
        have := rowI_out (rows := rows) (l := z) (by rw [hR.small.1]; exact hne)
        rw [← HW.out] at this
        rw [this] at hin
        simp at hin
      obtain ⟨l', rfl⟩ := Int.eq_ofNat_of_zero_le hz0.1
      have hrl : row = rowAt rows l' := by rw [HW.out, rowI_in]
      obtain ⟨m1, m2, m3, m4⟩ := hR.spot (l := l') (i := i) (x := x) (by omega) (by rw [← hrl]; exact hin) (by rw [← hrl]; exact hx)
      have en : nextS rows (x : Int) = firstI (row.drop (i + 1)) := by
        unfold nextS
        rw [if_pos ⟨by omega, by simpa using m1⟩, Int.toNat_natCast, m2, m3, ← hrl]
      obtain ⟨fn, tmps, assign, body, hy, hRd⟩ := hY (row.take i) x wr Ji (by simp; omega) m4
      rw [hfd]
      have r3 : ((x : Int) != -1) = true := by simp <;> omega
      have HE := Lib.hid (And.intro en (And.intro htk (And.intro m3 hrl)))
      have HX := Lib.hid hx
      clear en htk hfd hx m1 m2 m3 m4 hrl
      gi_wp2_with fail
      refine hRd.mono ?_
      rintro e w3 (⟨rfl, J3, k3⟩ | ⟨rfl, J3⟩)
      · have c3 := k3.cell c1 n4
        have R3 := Ri.kc hM k3 n1 n2 n3
        gi_wp2_with fail
        refine ⟨trivial, ?_⟩
        refine (callsIn_wide.2 (Next_any (x : Int) w3 R3)).mono ?_
        rintro e z1 ⟨he, hz1⟩
        have hz2 := hz1.symm; clear hz1; subst hz2
        rw [HE.out.1] at he
        subst he
        gi_wp2_with fail
        go_roundw
        case rel => exact ⟨i + 1, by omega, rfl, by rw [HE.out.2.1]; exact J3, ki.trans k3⟩
        case measure =>
          have h3 := HE.out.2.2.1
          have e1 : nLeft rows row (x : Int) = row.length - i := by unfold nLeft; rw [if_neg (by omega), Int.toNat_natCast, h3]
          simp only [intOf]
          rw [e1]
          by_cases hl : i + 1 < row.length
          · rw [firstI_drop hl]
            obtain ⟨_, _, k3', _⟩ := hR.spot (l := l') (i := i + 1) (x := row.getD (i + 1) 0) (by omega) (by rw [← HE.out.2.2.2]; exact hl) (by rw [← HE.out.2.2.2])
            unfold nLeft
            rw [if_neg (by omega), Int.toNat_natCast, k3']
            omega
          · rw [firstI_end (by omega)]
            unfold nLeft
            rw [if_pos (by omega)]
            omega
      · gi_wp2_with fail
        first | (refine bodyPost_ret (results_none rfl _ _ _) rfl ?_) | skip
        exact ⟨⟨_, rfl⟩, .inr ⟨row.take i ++ [x], by rw [← HE.out.2.1]; exact List.take_prefix _ _, J3⟩⟩
    · obtain rfl : i = row.length := by omega
      have hfe := firstI_end (Nat.le_refl row.length)
      rw [hfe]
      clear hfe
      gi_wp2_with fail
      first | go_end0 | (refine bodyPost_ret (results_none rfl _ _ _) rfl ?_) | skip
      exact ⟨⟨_, rfl⟩, .inl ⟨_, rfl, by simpa using Ji⟩⟩
theorem kc_t {ob : Nat} : ∀ {A B C : World}, Kc ob A B → Kc ob B C → Kc ob A C := fun h k => h.trans k
theorem kc_b {ob : Nat} (w : World) : ∀ (W : World) (l : Nat) (o o' : Obj), w.heap.size ≤ l → W.heap[l]? = some o → o.isCells = false → o.isWalk = false → Kc ob W (W.putObj l o') := fun W l o o' _ h0 h1 _ =>
  ⟨by simp [World.putObj], fun k x hk hc hn => by
    have hne : k ≠ l := fun e => by subst e; rw [h0] at hk; cases hk; rw [h1] at hc; cases hc
    exact (show (W.putObj l o').heap[k]? = W.heap[k]? by simp [World.putObj, Array.getElem?_setIfInBounds, Ne.symm hne]).trans hk⟩
end
end Go.Proofs.Ytnlcbilmalfjaaa
