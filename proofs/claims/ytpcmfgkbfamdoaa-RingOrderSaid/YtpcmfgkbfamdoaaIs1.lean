/- A part of the proof of a law of roundel: contracts of functions and lemmas, each true as it stands; no condition beyond those that its theorems state. -/
import Derived.Test.YtpcmfgkbfamdoaaEnds2
namespace Go.Proofs.Ytpcmfgkbfamdoaa
set_option linter.unusedSimpArgs false
set_option linter.unusedVariables false
open Go.RowKit

theorem wrapN (i : Nat) (h : i ≤ 1000) : IntKind.i64.wrap ((i : Int) + 1) = (i : Int) + 1 := IntWalk.i64_in _ (by omega)

theorem is1 (x : Nat) (ob kb wb : Nat) (A : Option Addr) (n c i : Nat) (y : Nat) (hA : A = some ⟨y, 0, none⟩) (hi : i < n) (hn : n ≤ 1000) (hnc : n ≤ c) (W : World) (h1 : W.cell? ⟨ob, 0, none⟩ = some (.bool true)) (h2 : W.cell? ⟨kb, 0, none⟩ = some (.int .i64 (i : Int))) (h3 : W.cell? ⟨wb, 0, none⟩ = some (.slice A n c)) (h4 : W.cell? ⟨y, i, none⟩ = some (.int .i64 (x : Int)))
    (f1 : W.frozen? ⟨ob, 0, none⟩ = false) (f2 : W.frozen? ⟨kb, 0, none⟩ = false) (n1 : ob ≠ kb) :
    Calls Try.prog 34 #[.int .i64 (x : Int), .pointer (some ⟨ob, 0, none⟩), .pointer (some ⟨kb, 0, none⟩), .pointer (some ⟨wb, 0, none⟩)] W fun e W' => e = .returned (.bool true) ∧ W' = (W.setCell ⟨ob, 0, none⟩ (.bool true)).setCell ⟨kb, 0, none⟩ (.int .i64 ((i : Int) + 1)) := by
  subst hA
  have w1 := wrapN i (by omega)
  have q1 : (i : Int) < (n : Int) := by omega
  have c2 : (W.setCell ⟨ob, 0, none⟩ (.bool true)).cell? ⟨kb, 0, none⟩ = some (.int .i64 (i : Int)) := (World.cell?_setCell_other _ _ _ _ (by simp [n1])).trans h2
  have c1 : (W.setCell ⟨ob, 0, none⟩ (.bool true)).cell? ⟨ob, 0, none⟩ = some (.bool true) := World.cell?_setCell_same _ _ _ h1
  have c3 : ((W.setCell ⟨ob, 0, none⟩ (.bool true)).setCell ⟨kb, 0, none⟩ (.int .i64 ((i : Int) + 1))).cell? ⟨ob, 0, none⟩ = some (.bool true) := (World.cell?_setCell_other _ _ _ _ (by simp [Ne.symm n1])).trans c1
  go_enter Try.func34, Try.ntmps34
  go_wp2
  go_ret
  exact ⟨rfl, rfl⟩
theorem order1 (x : Nat) (ob kb wb : Nat) (A : Option Addr) (n c i : Nat) (y : Nat) (hA : A = some ⟨y, 0, none⟩) (hi : i < n) (hn : n ≤ 1000) (hnc : n ≤ c) (W : World) (h1 : W.cell? ⟨ob, 0, none⟩ = some (.bool true)) (h2 : W.cell? ⟨kb, 0, none⟩ = some (.int .i64 (i : Int))) (h3 : W.cell? ⟨wb, 0, none⟩ = some (.slice A n c)) (h4 : W.cell? ⟨y, i, none⟩ = some (.int .i64 (x : Int)))
    (f1 : W.frozen? ⟨ob, 0, none⟩ = false) (f2 : W.frozen? ⟨kb, 0, none⟩ = false) (n1 : ob ≠ kb) :
    Calls Try.prog 17 #[.int .i64 (x : Int), .pointer (some ⟨ob, 0, none⟩), .pointer (some ⟨kb, 0, none⟩), .pointer (some ⟨wb, 0, none⟩)] W fun e W' => e = .returned (.bool true) ∧ W' = (W.setCell ⟨ob, 0, none⟩ (.bool true)).setCell ⟨kb, 0, none⟩ (.int .i64 ((i : Int) + 1)) := by
  subst hA
  have w1 := wrapN i (by omega)
  have q1 : (i : Int) < (n : Int) := by omega
  have c2 : (W.setCell ⟨ob, 0, none⟩ (.bool true)).cell? ⟨kb, 0, none⟩ = some (.int .i64 (i : Int)) := (World.cell?_setCell_other _ _ _ _ (by simp [n1])).trans h2
  have c1 : (W.setCell ⟨ob, 0, none⟩ (.bool true)).cell? ⟨ob, 0, none⟩ = some (.bool true) := World.cell?_setCell_same _ _ _ h1
  have c3 : ((W.setCell ⟨ob, 0, none⟩ (.bool true)).setCell ⟨kb, 0, none⟩ (.int .i64 ((i : Int) + 1))).cell? ⟨ob, 0, none⟩ = some (.bool true) := (World.cell?_setCell_other _ _ _ _ (by simp [Ne.symm n1])).trans c1
  go_enter Try.func17, Try.ntmps17
  go_wp2
  go_ret
  exact ⟨rfl, rfl⟩

set_option maxRecDepth 100000 in
set_option maxHeartbeats 1600000 in
theorem nodes_is {B rb lb mb N M : Nat} {rows : List (List Nat)} (z : Int) (ob kb wb b1 b2 : Nat) (P : Nat → Prop) (GA : Option Addr) (gn gc : Nat) (W : World) (HR : Rr W B rb lb mb N M rows) (hr : RowAt W P GA gn gc (rowI rows z)) (hP1 : ¬ P ob) (hP2 : ¬ P kb)
    (h1 : W.cell? ⟨ob, 0, none⟩ = some (.bool true)) (h2 : W.cell? ⟨kb, 0, none⟩ = some (.int .i64 0)) (h3 : W.cell? ⟨wb, 0, none⟩ = some (.slice GA gn gc)) (f1 : W.frozen? ⟨ob, 0, none⟩ = false) (f2 : W.frozen? ⟨kb, 0, none⟩ = false)
    (hb1 : W.cell? ⟨b1, 0, none⟩ = some (.pointer (some ⟨rb, 0, none⟩))) (hb2 : W.cell? ⟨b2, 0, none⟩ = some (.int .i64 z)) (n0 : ob ≠ kb) (n1 : ob ≠ wb ∧ kb ≠ wb) (n2 : ob ≠ b1 ∧ kb ≠ b1) (n3 : ob ≠ b2 ∧ kb ≠ b2) (n4 : ob ≠ rb ∧ kb ≠ rb) (n5 : ob ≠ lb ∧ kb ≠ lb) (n6 : ob ≠ mb ∧ kb ≠ mb) :
    Calls Try.prog 28 #[.func (.func 34) #[] #[.pointer (some ⟨ob, 0, none⟩), .pointer (some ⟨kb, 0, none⟩), .pointer (some ⟨wb, 0, none⟩)], .pointer (some ⟨b1, 0, none⟩), .pointer (some ⟨b2, 0, none⟩)] W fun e W' => e = .returned (.tuple #[]) ∧ W'.cell? ⟨ob, 0, none⟩ = some (.bool true) ∧ W'.cell? ⟨kb, 0, none⟩ = some (.int .i64 (gn : Int)) ∧ Rc ob kb W W' := by
  have hlen := hr.1
  have hsm : (rowI rows z).length ≤ 64 := by
    unfold rowI
    split
    · exact HR.small.2.2 _
    · simp
  obtain ⟨row, hrw⟩ : ∃ row, row = rowI rows z := ⟨_, rfl⟩
  rw [← hrw] at hr hlen hsm
  have HW := Lib.hid hrw
  have HR0 := Lib.hid HR
  have HRow := Lib.hid hr
  clear hrw
  have lo : ob < W.heap.size := block_lt_of_cell h1
  have lk : kb < W.heap.size := block_lt_of_cell h2
  have lw : wb < W.heap.size := block_lt_of_cell h3
  have l1 : b1 < W.heap.size := block_lt_of_cell hb1
  have l2 : b2 < W.heap.size := block_lt_of_cell hb2
  clear hr
  go_enter Try.func28, Try.ntmps28
  go_wp2_with fail
  refine (First_any z W HR).mono ?_
  rintro e w1 ⟨he, y1⟩
  rw [← HW.out] at he
  subst he
  go_wp2_with fail
  go_loopw [4] (fun nn wr => ∃ i : Nat, i ≤ row.length ∧ nn = .int .i64 (firstI (row.drop i)) ∧ wr.cell? ⟨ob, 0, none⟩ = some (.bool true) ∧ wr.cell? ⟨kb, 0, none⟩ = some (.int .i64 (i : Int)) ∧ wr.frozen? ⟨ob, 0, none⟩ = false ∧ wr.frozen? ⟨kb, 0, none⟩ = false ∧ Rc ob kb W wr) (fun _ wr => row.length - (match wr.cell? ⟨kb, 0, none⟩ with | some (.int _ i) => i.toNat | _ => 0))
  case atStart => exact ⟨0, by omega, by simp, (y1.cell (p := ⟨ob, 0, none⟩) lo).trans h1, (y1.cell (p := ⟨kb, 0, none⟩) lk).trans h2, (Below.frozen (p := ⟨ob, 0, none⟩) y1 lo).trans f1, (Below.frozen (p := ⟨kb, 0, none⟩) y1 lk).trans f2, Rc.of_ext ob kb y1⟩
  case round =>
    obtain ⟨i, hi, rfl, hc1, hc2, hf1, hf2, CC⟩ := hrel
    have r1 : wr.heap[rb]? = W.heap[rb]? := CC.blk rb (HR0.out.elim fun g h => h.1.lt.1) (Ne.symm n4.1) (Ne.symm n4.2)
    have Rq : Rr wr B rb lb mb N M rows := HR0.out.elim fun g h => ⟨g, h.1.kept CC.size r1 (CC.blk lb h.1.lt.2.1 (Ne.symm n5.1) (Ne.symm n5.2)) (CC.blk mb h.1.lt.2.2 (Ne.symm n6.1) (Ne.symm n6.2)), h.2⟩
    have c1 : wr.cell? ⟨b1, 0, none⟩ = some (.pointer (some ⟨rb, 0, none⟩)) := (World.cell?_of_block (a := ⟨b1, 0, none⟩) (CC.blk b1 l1 (Ne.symm n2.1) (Ne.symm n2.2))).trans hb1
    have c3 : wr.cell? ⟨wb, 0, none⟩ = some (.slice GA gn gc) := (World.cell?_of_block (a := ⟨wb, 0, none⟩) (CC.blk wb lw (Ne.symm n1.1) (Ne.symm n1.2))).trans h3
    by_cases hin : i < row.length
    · obtain ⟨x, hx⟩ : ∃ x, x = row.getD i 0 := ⟨_, rfl⟩
      have hfd := firstI_drop hin
      rw [← hx] at hfd
      have hz0 : 0 ≤ z ∧ z < (M : Int) := by
        refine Decidable.byContradiction fun hne => ?_
        have := rowI_out (rows := rows) (l := z) (by rw [HR0.out.small.1]; exact hne)
        rw [← HW.out] at this
        rw [this] at hin
        simp at hin
      obtain ⟨l, rfl⟩ := Int.eq_ofNat_of_zero_le hz0.1
      have hrl : row = rowAt rows l := by rw [HW.out, rowI_in]
      obtain ⟨m1, m2, m3, m4⟩ := Rq.spot (l := l) (i := i) (x := x) (by omega) (by rw [← hrl]; exact hin) (by rw [← hrl]; exact hx)
      have en : nextS rows (x : Int) = firstI (row.drop (i + 1)) := by
        unfold nextS
        rw [if_pos ⟨by omega, by simpa using m1⟩, Int.toNat_natCast, m2, m3, ← hrl]
      obtain ⟨y, hy, hyP, hyc⟩ := HRow.out.2.2.2.2 (by omega)
      have c4 : wr.cell? ⟨y, i, none⟩ = some (.int .i64 (x : Int)) := by
        have z1 := hyc i (by omega)
        rw [← hx] at z1
        exact (World.cell?_of_block (a := ⟨y, i, none⟩) (CC.blk y (block_lt_of_cell z1) (fun e => hP1 (e ▸ hyP)) (fun e => hP2 (e ▸ hyP)))).trans z1
      rw [hfd]
      have r3 : ((x : Int) != -1) = true := by simp <;> omega
      have c1' : ((wr.setCell ⟨ob, 0, none⟩ (.bool true)).setCell ⟨kb, 0, none⟩ (.int .i64 ((i : Int) + 1))).cell? ⟨b1, 0, none⟩ = some (.pointer (some ⟨rb, 0, none⟩)) := (World.cell?_setCell_other _ _ _ _ (by simp [n2.2])).trans ((World.cell?_setCell_other _ _ _ _ (by simp [n2.1])).trans c1)
      have Rn : Rr ((wr.setCell ⟨ob, 0, none⟩ (.bool true)).setCell ⟨kb, 0, none⟩ (.int .i64 ((i : Int) + 1))) B rb lb mb N M rows := (Rq.put n5.1 n6.1 n4.1).put n5.2 n6.2 n4.2
      have Cn : Rc ob kb W ((wr.setCell ⟨ob, 0, none⟩ (.bool true)).setCell ⟨kb, 0, none⟩ (.int .i64 ((i : Int) + 1))) := (CC.setCell (.inl rfl) _).setCell (.inr rfl) _
      have on : ((wr.setCell ⟨ob, 0, none⟩ (.bool true)).setCell ⟨kb, 0, none⟩ (.int .i64 ((i : Int) + 1))).cell? ⟨ob, 0, none⟩ = some (.bool true) := (World.cell?_setCell_other _ _ _ _ (by simp [Ne.symm n0])).trans (World.cell?_setCell_same _ _ _ hc1)
      have kn : ((wr.setCell ⟨ob, 0, none⟩ (.bool true)).setCell ⟨kb, 0, none⟩ (.int .i64 ((i : Int) + 1))).cell? ⟨kb, 0, none⟩ = some (.int .i64 ((i : Int) + 1)) := World.cell?_setCell_same (u := .int .i64 (i : Int)) _ _ _ ((World.cell?_setCell_other _ _ _ _ (by simp [n0])).trans hc2)
      have fo : ((wr.setCell ⟨ob, 0, none⟩ (.bool true)).setCell ⟨kb, 0, none⟩ (.int .i64 ((i : Int) + 1))).frozen? ⟨ob, 0, none⟩ = false := by rw [World.frozen?_setCell, World.frozen?_setCell]; exact hf1
      have fk : ((wr.setCell ⟨ob, 0, none⟩ (.bool true)).setCell ⟨kb, 0, none⟩ (.int .i64 ((i : Int) + 1))).frozen? ⟨kb, 0, none⟩ = false := by rw [World.frozen?_setCell, World.frozen?_setCell]; exact hf2
      have HE := Lib.hid en
      have hgc := HRow.out.2.1
      clear hfd hx m1 m2 m3 m4 en hrl
      go_wp2_with fail
      refine (is1 x ob kb wb GA gn gc i y hy (by omega) (by omega) hgc wr hc1 hc2 c3 c4 hf1 hf2 n0).mono ?_
      rintro e z1 ⟨rfl, hz1⟩
      subst hz1
      go_wp2_with fail
      refine (Next_any (x : Int) _ Rn).mono ?_
      rintro e z1 ⟨he, hz1⟩
      have hz2 := hz1.symm; clear hz1; subst hz2
      rw [HE.out] at he
      subst he
      go_wp2_with fail
      go_roundw
      case rel => exact ⟨i + 1, by omega, rfl, on, by rw [show ((i + 1 : Nat) : Int) = (i : Int) + 1 by omega]; exact kn, fo, fk, Cn⟩
      case measure => rw [kn, hc2]; simp; omega
    · obtain rfl : i = row.length := by omega
      have hfe := firstI_end (Nat.le_refl row.length)
      rw [hfe]
      clear hfe
      go_wp2_with fail
      first | go_end0 | (refine bodyPost_ret (results_none rfl _ _ _) rfl ?_)
      rw [hlen] at hc2
      exact ⟨rfl, hc1, hc2, CC⟩
set_option maxRecDepth 100000 in
set_option maxHeartbeats 1600000 in
theorem nodes_order {B rb lb mb N M : Nat} {rows : List (List Nat)} (z : Int) (ob kb wb b1 b2 : Nat) (P : Nat → Prop) (GA : Option Addr) (gn gc : Nat) (W : World) (HR : Rr W B rb lb mb N M rows) (hr : RowAt W P GA gn gc (rowI rows z)) (hP1 : ¬ P ob) (hP2 : ¬ P kb)
    (h1 : W.cell? ⟨ob, 0, none⟩ = some (.bool true)) (h2 : W.cell? ⟨kb, 0, none⟩ = some (.int .i64 0)) (h3 : W.cell? ⟨wb, 0, none⟩ = some (.slice GA gn gc)) (f1 : W.frozen? ⟨ob, 0, none⟩ = false) (f2 : W.frozen? ⟨kb, 0, none⟩ = false)
    (hb1 : W.cell? ⟨b1, 0, none⟩ = some (.pointer (some ⟨rb, 0, none⟩))) (hb2 : W.cell? ⟨b2, 0, none⟩ = some (.int .i64 z)) (n0 : ob ≠ kb) (n1 : ob ≠ wb ∧ kb ≠ wb) (n2 : ob ≠ b1 ∧ kb ≠ b1) (n3 : ob ≠ b2 ∧ kb ≠ b2) (n4 : ob ≠ rb ∧ kb ≠ rb) (n5 : ob ≠ lb ∧ kb ≠ lb) (n6 : ob ≠ mb ∧ kb ≠ mb) :
    Calls Try.prog 28 #[.func (.func 17) #[] #[.pointer (some ⟨ob, 0, none⟩), .pointer (some ⟨kb, 0, none⟩), .pointer (some ⟨wb, 0, none⟩)], .pointer (some ⟨b1, 0, none⟩), .pointer (some ⟨b2, 0, none⟩)] W fun e W' => e = .returned (.tuple #[]) ∧ W'.cell? ⟨ob, 0, none⟩ = some (.bool true) ∧ W'.cell? ⟨kb, 0, none⟩ = some (.int .i64 (gn : Int)) ∧ Rc ob kb W W' := by
  have hlen := hr.1
  have hsm : (rowI rows z).length ≤ 64 := by
    unfold rowI
    split
    · exact HR.small.2.2 _
    · simp
  obtain ⟨row, hrw⟩ : ∃ row, row = rowI rows z := ⟨_, rfl⟩
  rw [← hrw] at hr hlen hsm
  have HW := Lib.hid hrw
  have HR0 := Lib.hid HR
  have HRow := Lib.hid hr
  clear hrw
  have lo : ob < W.heap.size := block_lt_of_cell h1
  have lk : kb < W.heap.size := block_lt_of_cell h2
  have lw : wb < W.heap.size := block_lt_of_cell h3
  have l1 : b1 < W.heap.size := block_lt_of_cell hb1
  have l2 : b2 < W.heap.size := block_lt_of_cell hb2
  clear hr
  go_enter Try.func28, Try.ntmps28
  go_wp2_with fail
  refine (First_any z W HR).mono ?_
  rintro e w1 ⟨he, y1⟩
  rw [← HW.out] at he
  subst he
  go_wp2_with fail
  go_loopw [4] (fun nn wr => ∃ i : Nat, i ≤ row.length ∧ nn = .int .i64 (firstI (row.drop i)) ∧ wr.cell? ⟨ob, 0, none⟩ = some (.bool true) ∧ wr.cell? ⟨kb, 0, none⟩ = some (.int .i64 (i : Int)) ∧ wr.frozen? ⟨ob, 0, none⟩ = false ∧ wr.frozen? ⟨kb, 0, none⟩ = false ∧ Rc ob kb W wr) (fun _ wr => row.length - (match wr.cell? ⟨kb, 0, none⟩ with | some (.int _ i) => i.toNat | _ => 0))
  case atStart => exact ⟨0, by omega, by simp, (y1.cell (p := ⟨ob, 0, none⟩) lo).trans h1, (y1.cell (p := ⟨kb, 0, none⟩) lk).trans h2, (Below.frozen (p := ⟨ob, 0, none⟩) y1 lo).trans f1, (Below.frozen (p := ⟨kb, 0, none⟩) y1 lk).trans f2, Rc.of_ext ob kb y1⟩
  case round =>
    obtain ⟨i, hi, rfl, hc1, hc2, hf1, hf2, CC⟩ := hrel
    have r1 : wr.heap[rb]? = W.heap[rb]? := CC.blk rb (HR0.out.elim fun g h => h.1.lt.1) (Ne.symm n4.1) (Ne.symm n4.2)
    have Rq : Rr wr B rb lb mb N M rows := HR0.out.elim fun g h => ⟨g, h.1.kept CC.size r1 (CC.blk lb h.1.lt.2.1 (Ne.symm n5.1) (Ne.symm n5.2)) (CC.blk mb h.1.lt.2.2 (Ne.symm n6.1) (Ne.symm n6.2)), h.2⟩
    have c1 : wr.cell? ⟨b1, 0, none⟩ = some (.pointer (some ⟨rb, 0, none⟩)) := (World.cell?_of_block (a := ⟨b1, 0, none⟩) (CC.blk b1 l1 (Ne.symm n2.1) (Ne.symm n2.2))).trans hb1
    have c3 : wr.cell? ⟨wb, 0, none⟩ = some (.slice GA gn gc) := (World.cell?_of_block (a := ⟨wb, 0, none⟩) (CC.blk wb lw (Ne.symm n1.1) (Ne.symm n1.2))).trans h3
    by_cases hin : i < row.length
    · obtain ⟨x, hx⟩ : ∃ x, x = row.getD i 0 := ⟨_, rfl⟩
      have hfd := firstI_drop hin
      rw [← hx] at hfd
      have hz0 : 0 ≤ z ∧ z < (M : Int) := by
        refine Decidable.byContradiction fun hne => ?_
        have := rowI_out (rows := rows) (l := z) (by rw [HR0.out.small.1]; exact hne)
        rw [← HW.out] at this
        rw [this] at hin
        simp at hin
      obtain ⟨l, rfl⟩ := Int.eq_ofNat_of_zero_le hz0.1
      have hrl : row = rowAt rows l := by rw [HW.out, rowI_in]
      obtain ⟨m1, m2, m3, m4⟩ := Rq.spot (l := l) (i := i) (x := x) (by omega) (by rw [← hrl]; exact hin) (by rw [← hrl]; exact hx)
      have en : nextS rows (x : Int) = firstI (row.drop (i + 1)) := by
        unfold nextS
        rw [if_pos ⟨by omega, by simpa using m1⟩, Int.toNat_natCast, m2, m3, ← hrl]
      obtain ⟨y, hy, hyP, hyc⟩ := HRow.out.2.2.2.2 (by omega)
      have c4 : wr.cell? ⟨y, i, none⟩ = some (.int .i64 (x : Int)) := by
        have z1 := hyc i (by omega)
        rw [← hx] at z1
        exact (World.cell?_of_block (a := ⟨y, i, none⟩) (CC.blk y (block_lt_of_cell z1) (fun e => hP1 (e ▸ hyP)) (fun e => hP2 (e ▸ hyP)))).trans z1
      rw [hfd]
      have r3 : ((x : Int) != -1) = true := by simp <;> omega
      have c1' : ((wr.setCell ⟨ob, 0, none⟩ (.bool true)).setCell ⟨kb, 0, none⟩ (.int .i64 ((i : Int) + 1))).cell? ⟨b1, 0, none⟩ = some (.pointer (some ⟨rb, 0, none⟩)) := (World.cell?_setCell_other _ _ _ _ (by simp [n2.2])).trans ((World.cell?_setCell_other _ _ _ _ (by simp [n2.1])).trans c1)
      have Rn : Rr ((wr.setCell ⟨ob, 0, none⟩ (.bool true)).setCell ⟨kb, 0, none⟩ (.int .i64 ((i : Int) + 1))) B rb lb mb N M rows := (Rq.put n5.1 n6.1 n4.1).put n5.2 n6.2 n4.2
      have Cn : Rc ob kb W ((wr.setCell ⟨ob, 0, none⟩ (.bool true)).setCell ⟨kb, 0, none⟩ (.int .i64 ((i : Int) + 1))) := (CC.setCell (.inl rfl) _).setCell (.inr rfl) _
      have on : ((wr.setCell ⟨ob, 0, none⟩ (.bool true)).setCell ⟨kb, 0, none⟩ (.int .i64 ((i : Int) + 1))).cell? ⟨ob, 0, none⟩ = some (.bool true) := (World.cell?_setCell_other _ _ _ _ (by simp [Ne.symm n0])).trans (World.cell?_setCell_same _ _ _ hc1)
      have kn : ((wr.setCell ⟨ob, 0, none⟩ (.bool true)).setCell ⟨kb, 0, none⟩ (.int .i64 ((i : Int) + 1))).cell? ⟨kb, 0, none⟩ = some (.int .i64 ((i : Int) + 1)) := World.cell?_setCell_same (u := .int .i64 (i : Int)) _ _ _ ((World.cell?_setCell_other _ _ _ _ (by simp [n0])).trans hc2)
      have fo : ((wr.setCell ⟨ob, 0, none⟩ (.bool true)).setCell ⟨kb, 0, none⟩ (.int .i64 ((i : Int) + 1))).frozen? ⟨ob, 0, none⟩ = false := by rw [World.frozen?_setCell, World.frozen?_setCell]; exact hf1
      have fk : ((wr.setCell ⟨ob, 0, none⟩ (.bool true)).setCell ⟨kb, 0, none⟩ (.int .i64 ((i : Int) + 1))).frozen? ⟨kb, 0, none⟩ = false := by rw [World.frozen?_setCell, World.frozen?_setCell]; exact hf2
      have HE := Lib.hid en
      have hgc := HRow.out.2.1
      clear hfd hx m1 m2 m3 m4 en hrl
      go_wp2_with fail
      refine (order1 x ob kb wb GA gn gc i y hy (by omega) (by omega) hgc wr hc1 hc2 c3 c4 hf1 hf2 n0).mono ?_
      rintro e z1 ⟨rfl, hz1⟩
      subst hz1
      go_wp2_with fail
      refine (Next_any (x : Int) _ Rn).mono ?_
      rintro e z1 ⟨he, hz1⟩
      have hz2 := hz1.symm; clear hz1; subst hz2
      rw [HE.out] at he
      subst he
      go_wp2_with fail
      go_roundw
      case rel => exact ⟨i + 1, by omega, rfl, on, by rw [show ((i + 1 : Nat) : Int) = (i : Int) + 1 by omega]; exact kn, fo, fk, Cn⟩
      case measure => rw [kn, hc2]; simp; omega
    · obtain rfl : i = row.length := by omega
      have hfe := firstI_end (Nat.le_refl row.length)
      rw [hfe]
      clear hfe
      go_wp2_with fail
      first | go_end0 | (refine bodyPost_ret (results_none rfl _ _ _) rfl ?_)
      rw [hlen] at hc2
      exact ⟨rfl, hc1, hc2, CC⟩
end Go.Proofs.Ytpcmfgkbfamdoaa
