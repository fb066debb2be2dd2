/- A part of the proof of a law of roundel: contracts of functions and lemmas, each true as it stands; no condition beyond those that its theorems state. -/
import Derived.Test.YtpcmfgkbfamdoaaActs
namespace Go.Proofs.Ytpcmfgkbfamdoaa
set_option linter.unusedSimpArgs false
set_option linter.unusedVariables false
open Go.RowKit

/-- How far the nodes are told. -/
def upTo (len m : Nat) : Nat := min len (max m 1)

theorem ends1 (x : Int) (kb mo : Nat) (i m : Nat) (hi : i ≤ 1000) (W : World) (h1 : W.cell? ⟨kb, 0, none⟩ = some (.int .i64 (i : Int))) (hz : W.frozen? ⟨kb, 0, none⟩ = false) (h2 : W.cell? ⟨mo, 0, none⟩ = some (.int .u8 (m : Int))) (hm : m ≤ 255) (hne : kb ≠ mo) :
    Calls Try.prog 12 #[.int .i64 x, .pointer (some ⟨kb, 0, none⟩), .pointer (some ⟨mo, 0, none⟩)] W fun e W' => e = .returned (.bool (decide (i + 1 < m))) ∧ W' = W.setCell ⟨kb, 0, none⟩ (.int .i64 ((i + 1 : Nat) : Int)) := by
  have w1 : IntKind.i64.wrap ((i : Int) + 1) = (i : Int) + 1 := IntWalk.i64_in _ (by omega)
  have w2 : IntKind.i64.wrap (m : Int) = (m : Int) := IntWalk.i64_in _ (by omega)
  have c2 : (W.setCell ⟨kb, 0, none⟩ (.int .i64 ((i : Int) + 1))).cell? ⟨mo, 0, none⟩ = some (.int .u8 (m : Int)) := (World.cell?_setCell_other _ _ _ _ (by simp [hne])).trans h2
  have c1 : (W.setCell ⟨kb, 0, none⟩ (.int .i64 ((i : Int) + 1))).cell? ⟨kb, 0, none⟩ = some (.int .i64 ((i : Int) + 1)) := World.cell?_setCell_same _ _ _ h1
  go_enter Try.func12, Try.ntmps12
  go_wp2
  go_ret
  refine ⟨?_, by simp⟩
  by_cases h : i + 1 < m
  · have : (i : Int) + 1 < (m : Int) := by omega
    simp [h]
    omega
  · have : ¬ (i : Int) + 1 < (m : Int) := by omega
    simp [h]
    omega

set_option maxRecDepth 100000 in
set_option maxHeartbeats 1600000 in
theorem nodes_ends {B rb lb mb N M : Nat} {rows : List (List Nat)} (l m kb mo b1 b2 : Nat) (hl : l < M) (hm : m ≤ 255) (W : World) (HR : Rr W B rb lb mb N M rows) (hk : W.cell? ⟨kb, 0, none⟩ = some (.int .i64 0)) (hz : W.frozen? ⟨kb, 0, none⟩ = false) (ho : W.cell? ⟨mo, 0, none⟩ = some (.int .u8 (m : Int)))
    (hb1 : W.cell? ⟨b1, 0, none⟩ = some (.pointer (some ⟨rb, 0, none⟩))) (hb2 : W.cell? ⟨b2, 0, none⟩ = some (.int .i64 (l : Int))) (n1 : kb ≠ mo) (n2 : kb ≠ b1) (n3 : kb ≠ b2) (n4 : kb ≠ rb) (n5 : kb ≠ lb) (n6 : kb ≠ mb) :
    Calls Try.prog 28 #[.func (.func 12) #[] #[.pointer (some ⟨kb, 0, none⟩), .pointer (some ⟨mo, 0, none⟩)], .pointer (some ⟨b1, 0, none⟩), .pointer (some ⟨b2, 0, none⟩)] W fun e W' => e = .returned (.tuple #[]) ∧ W'.cell? ⟨kb, 0, none⟩ = some (.int .i64 ((upTo (rowAt rows l).length m : Nat) : Int)) ∧ Rc kb kb W W' := by
  have hrow : rowI rows (l : Int) = rowAt rows l := rowI_in rows l
  have hsm := HR.small.2.2 l
  obtain ⟨row, hrw⟩ : ∃ row, row = rowAt rows l := ⟨_, rfl⟩
  rw [← hrw] at hrow hsm ⊢
  have HW := Lib.hid (And.intro hrw hrow)
  have HR0 := Lib.hid HR
  clear hrw hrow
  have lk : kb < W.heap.size := block_lt_of_cell hk
  have lo : mo < W.heap.size := block_lt_of_cell ho
  have l1 : b1 < W.heap.size := block_lt_of_cell hb1
  have l2 : b2 < W.heap.size := block_lt_of_cell hb2
  go_enter Try.func28, Try.ntmps28
  go_wp2_with fail
  refine (First_any (l : Int) W HR).mono ?_
  rintro e w1 ⟨he, y1⟩
  rw [HW.out.2] at he
  subst he
  go_wp2_with fail
  go_loopw [4] (fun nn wr => ∃ i : Nat, i ≤ row.length ∧ nn = .int .i64 (firstI (row.drop i)) ∧ (i = 0 ∨ i < m) ∧ wr.cell? ⟨kb, 0, none⟩ = some (.int .i64 (i : Int)) ∧ wr.frozen? ⟨kb, 0, none⟩ = false ∧ Rc kb kb W wr) (fun _ wr => row.length - (match wr.cell? ⟨kb, 0, none⟩ with | some (.int _ i) => i.toNat | _ => 0))
  case atStart => exact ⟨0, by omega, by simp, .inl rfl, (y1.cell (p := ⟨kb, 0, none⟩) lk).trans hk, (Below.frozen (p := ⟨kb, 0, none⟩) y1 lk).trans hz, Rc.of_ext kb kb y1⟩
  case round =>
    obtain ⟨i, hi, rfl, him, hc, hf, CC⟩ := hrel
    have K := CC
    have r1 : wr.heap[rb]? = W.heap[rb]? := CC.blk rb (HR0.out.elim fun g h => h.1.lt.1) (Ne.symm n4) (Ne.symm n4)
    have Rq : Rr wr B rb lb mb N M rows := HR0.out.elim fun g h => ⟨g, h.1.kept CC.size r1 (CC.blk lb h.1.lt.2.1 (Ne.symm n5) (Ne.symm n5)) (CC.blk mb h.1.lt.2.2 (Ne.symm n6) (Ne.symm n6)), h.2⟩
    have c1 : wr.cell? ⟨b1, 0, none⟩ = some (.pointer (some ⟨rb, 0, none⟩)) := (World.cell?_of_block (a := ⟨b1, 0, none⟩) (CC.blk b1 l1 (Ne.symm n2) (Ne.symm n2))).trans hb1
    have c2 : wr.cell? ⟨mo, 0, none⟩ = some (.int .u8 (m : Int)) := (World.cell?_of_block (a := ⟨mo, 0, none⟩) (CC.blk mo lo (Ne.symm n1) (Ne.symm n1))).trans ho
    have y0 := y1
    by_cases hin : i < row.length
    · obtain ⟨x, hx⟩ : ∃ x, x = row.getD i 0 := ⟨_, rfl⟩
      have hfd := firstI_drop hin
      rw [← hx] at hfd
      obtain ⟨m1, m2, m3, m4⟩ := Rq.spot (l := l) (i := i) (x := x) hl (by rw [← HW.out.1]; exact hin) (by rw [← HW.out.1]; exact hx)
      have en : nextS rows (x : Int) = firstI (row.drop (i + 1)) := by
        unfold nextS
        rw [if_pos ⟨by omega, by simpa using m1⟩, Int.toNat_natCast, m2, m3, ← HW.out.1]
      rw [hfd]
      have r3 : ((x : Int) != -1) = true := by simp <;> omega
      have fn : (wr.setCell ⟨kb, 0, none⟩ (.int .i64 ((i + 1 : Nat) : Int))).frozen? ⟨kb, 0, none⟩ = false := by rw [World.frozen?_setCell]; exact hf
      have c1' : (wr.setCell ⟨kb, 0, none⟩ (.int .i64 ((i + 1 : Nat) : Int))).cell? ⟨b1, 0, none⟩ = some (.pointer (some ⟨rb, 0, none⟩)) := (World.cell?_setCell_other _ _ _ _ (by simp [n2])).trans c1
      have Rn : Rr (wr.setCell ⟨kb, 0, none⟩ (.int .i64 ((i + 1 : Nat) : Int))) B rb lb mb N M rows := Rq.put n5 n6 n4
      have Cn : Rc kb kb W (wr.setCell ⟨kb, 0, none⟩ (.int .i64 ((i + 1 : Nat) : Int))) := CC.setCell (.inl rfl) _
      have kn : (wr.setCell ⟨kb, 0, none⟩ (.int .i64 ((i + 1 : Nat) : Int))).cell? ⟨kb, 0, none⟩ = some (.int .i64 ((i + 1 : Nat) : Int)) := World.cell?_setCell_same _ _ _ hc
      have HE := Lib.hid en
      clear hfd hx m1 m2 m3 m4 en
      go_wp2_with fail
      refine (ends1 (x : Int) kb mo i m (by omega) wr hc hf c2 hm n1).mono ?_
      rintro e z1 ⟨he, hz1⟩
      subst hz1
      by_cases hmi : i + 1 < m
      · rw [decide_eq_true hmi] at he
        subst he
        go_wp2_with fail
        refine (Next_any (x : Int) _ Rn).mono ?_
        rintro e z1 ⟨he, hz1⟩
        have hz2 := hz1.symm; clear hz1; subst hz2
        rw [HE.out] at he
        subst he
        go_wp2_with fail
        go_roundw
        case rel => exact ⟨i + 1, by omega, rfl, .inr hmi, kn, fn, Cn⟩
        case measure => rw [show ((i + 1 : Nat) : Int) = (i : Int) + 1 by omega] at kn; rw [kn, hc]; simp; omega
      · rw [decide_eq_false hmi] at he
        subst he
        go_wp2_with fail
        first | go_end0 | (refine bodyPost_ret (results_none rfl _ _ _) rfl ?_)
        have eu : upTo row.length m = i + 1 := by unfold upTo; omega
        rw [eu]
        exact ⟨rfl, kn, Cn⟩
    · obtain rfl : i = row.length := by omega
      have hfe := firstI_end (Nat.le_refl row.length)
      rw [hfe]
      clear hfe
      go_wp2_with fail
      first | go_end0 | (refine bodyPost_ret (results_none rfl _ _ _) rfl ?_)
      have eu : upTo row.length m = row.length := by unfold upTo; omega
      rw [eu]
      exact ⟨rfl, hc, CC⟩

theorem ends_far (A : Option Addr) (n c : Nat) (m : Int) (hnc : n ≤ c) (hc63 : c ≤ 9223372036854775807) (hf : 50 < n) (W : World) :
    Calls Try.prog 3 #[.slice A n c, .int .u8 m] W fun e W' => e = .returned (.bool true) ∧ Ext W W' := by
  have q : (50 : Int) < (n : Int) := by omega
  go_enter Try.func3, Try.ntmps3
  go_wp2_with (first | (go_at_call 7; refine (awake_any _).mono ?_; rintro e w1 ⟨rfl, he1⟩; obtain ⟨he1c, he1f⟩ := Ext.cells he1; have he1z := Ext.sz he1; (try simp only [World.size_alloc, World.size_drew, World.heap_drewN, World.size_setCell] at he1z)))
  go_ret
  refine ⟨rfl, ?_⟩
  (repeat (first | with_reducible exact Ext.refl _ | with_reducible assumption | with_reducible apply Ext.drew | with_reducible apply Ext.drewN | with_reducible apply Ext.alloc | (with_reducible refine Ext.setCell ?_ (by simp <;> omega) _) | (with_reducible refine Ext.trans ?_ (by with_reducible assumption))))
end Go.Proofs.Ytpcmfgkbfamdoaa
