/- A part of the proof of a law of roundel: contracts of functions and lemmas, each true as it stands; no condition beyond those that its theorems state. -/
import Derived.Test.YtpcmfgkbfamdoaaActs
namespace Go.Proofs.Ytpcmfgkbfamdoaa
set_option linter.unusedSimpArgs false
set_option linter.unusedVariables false
open Go.RowKit

theorem whole_far (A : Option Addr) (n c : Nat) (hnc : n ≤ c) (hc63 : c ≤ 9223372036854775807) (hf : 80 < n) (W : World) :
    Calls Try.prog 5 #[.slice A n c] W fun e W' => e = .returned (.bool true) ∧ Ext W W' := by
  have q : (80 : Int) < (n : Int) := by omega
  go_enter Try.func5, Try.ntmps5
  go_wp2_with (first | (go_at_call 7; refine (awake_any _).mono ?_; rintro e w1 ⟨rfl, he1⟩; obtain ⟨he1c, he1f⟩ := Ext.cells he1; have he1z := Ext.sz he1; (try simp only [World.size_alloc, World.size_drew, World.heap_drewN, World.size_setCell] at he1z)))
  go_ret
  refine ⟨rfl, ?_⟩
  (repeat (first | with_reducible exact Ext.refl _ | with_reducible assumption | with_reducible apply Ext.drew | with_reducible apply Ext.drewN | with_reducible apply Ext.alloc | (with_reducible refine Ext.setCell ?_ (by simp <;> omega) _) | (with_reducible refine Ext.trans ?_ (by with_reducible assumption))))

set_option maxRecDepth 100000 in
set_option maxHeartbeats 1600000 in
theorem whole_ok (A : Option Addr) (n c : Nat) (l : List Ac) (hnc : n ≤ c) (hc63 : c ≤ 9223372036854775807) (hf : n ≤ 80) (W : World) (hl : AL W W.heap.size A n l) :
    Calls Try.prog 5 #[.slice A n c] W fun e W' => e = .returned (.bool true) ∧ Ext W W' := by
  have q : (n : Int) ≤ 80 := by omega
  have HL := Lib.hid hl
  clear hl
  go_enter Try.func5, Try.ntmps5
  go_wp2_with (first | (go_at_call 7; refine (awake_any _).mono ?_; rintro e w1 ⟨rfl, he1⟩; obtain ⟨he1c, he1f⟩ := Ext.cells he1; have he1z := Ext.sz he1; (try simp only [World.size_alloc, World.size_drew, World.heap_drewN, World.size_setCell] at he1z)))
  clear he1c he1f
  refine (New_ok 10 3 (by omega) (by omega) (by omega) (by omega) w1).mono ?_
  rintro e w2 ⟨rb, lb, mb, rfl, R2, e2⟩
  have g0 := R2.ge
  have RL := Lib.hid (R2.elim fun g h => h.1.lt.1)
  go_wp2_with fail
  refine (RNew_ok 10 3 (by omega) (by omega) (by omega) (by omega) w2).mono ?_
  rintro e w3 ⟨v3, rfl, F3, e3⟩
  obtain ⟨A4, n4, c4, rfl, -⟩ := id F3
  have R3 := R2.kept e3
  have E3 : Ext W w3 := (he1.trans e2).trans e3
  obtain ⟨tb, htb⟩ : ∃ tb, tb = w3.heap.size := ⟨_, rfl⟩
  have hs2 := e3.sz
  have q2 : tb < w3.heap.size + 1 := by omega
  have f3 : RefAt w3 (fun x => w2.heap.size ≤ x ∧ x ≠ tb) (.agg #[.int .i64 ((10 : Nat) : Int), .slice A4 n4 c4]) 10 (List.replicate 3 []) := F3.mono (fun x hx hlt => ⟨hx, by omega⟩)
  have K := Lib.hid (And.intro g0 (And.intro hs2 htb))
  go_wp2_with fail
  rw [← htb]
  refine wp_abs (fun Wx => Rr Wx w1.heap.size rb lb mb 10 3 (List.replicate 3 []) ∧ RefAt Wx (fun x => w2.heap.size ≤ x ∧ x ≠ tb) (.agg #[.int .i64 ((10 : Nat) : Int), .slice A4 n4 c4]) 10 (List.replicate 3 []) ∧ Wx.cell? ⟨tb, 0, none⟩ = some (.int .i64 10) ∧ Wx.cell? ⟨tb, 1, none⟩ = some (.slice A4 n4 c4) ∧ (∀ o, Wx.frozen? ⟨tb, o, none⟩ = false) ∧ tb < Wx.heap.size ∧ Ext W Wx)
    ⟨R3.kept ((Ext.refl _).alloc _), f3.ext ((Ext.refl _).alloc _), by rw [htb]; simp, by rw [htb]; simp, fun o => by rw [htb]; simp, by rw [htb]; simp, E3.alloc _⟩ ?_
  rintro w4 ⟨R4, F4, t0, t1, tf, tl, E4⟩
  clear R3 F3 f3 E3 R2 g0 htb q2 hs2
  go_loopw [37] (fun i wr => ∃ (j : Nat) (rows : List (List Nat)) (A5 : Option Addr) (n5 c5 : Nat), j ≤ n ∧ i = .int .i64 (j : Int) ∧ Rr wr w1.heap.size rb lb mb 10 3 rows ∧ RefAt wr (fun x => w2.heap.size ≤ x ∧ x ≠ tb) (.agg #[.int .i64 ((10 : Nat) : Int), .slice A5 n5 c5]) 10 rows ∧ wr.cell? ⟨tb, 0, none⟩ = some (.int .i64 10) ∧ wr.cell? ⟨tb, 1, none⟩ = some (.slice A5 n5 c5) ∧ (∀ o, wr.frozen? ⟨tb, o, none⟩ = false) ∧ tb < wr.heap.size ∧ Ext W wr) (fun i _ => n - (intOf i).toNat)
  case atStart => exact ⟨0, _, A4, n4, c4, by omega, rfl, R4, F4, t0, t1, tf, tl, E4⟩
  case round =>
    obtain ⟨j, rows, A5, n5, c5, hj, rfl, Rr5, F5, u0, u1, uf, ul, er⟩ := hrel
    clear R4 F4 t0 t1 tf tl E4
    by_cases hjn : j < n
    · obtain ⟨h1, h2, h3⟩ := HL.out
      obtain ⟨x, o, rfl, hx, hcell⟩ := h3 (by omega)
      obtain ⟨k0, k1, k2⟩ := hcell j hjn
      have hcw : ∀ i, wr.cell? ⟨x, i, none⟩ = W.cell? ⟨x, i, none⟩ := fun i => er.cell (p := ⟨x, i, none⟩) hx
      rw [← hcw] at k0 k1 k2
      have hk := h2 (l.getD j default) (by simp [List.getD, show j < l.length by omega])
      obtain ⟨⟨ak, aa, an⟩, hgx⟩ : ∃ g, g = l.getD j default := ⟨_, rfl⟩
      rw [← hgx] at k0 k1 k2 hk
      dsimp only at k0 k1 k2 hk
      have hk0 := hk.1
      have hk1 := hk.2
      have q3 : (j : Int) < (n : Int) := by omega
      clear hgx h2 h3 hcell hcw hk
      have v0 : (wr.alloc (.cells #[.int .u8 ak, .int .i64 aa, .int .i64 an] 34)).cell? ⟨tb, 0, none⟩ = some (.int .i64 10) := (World.cell?_alloc_past _ _ _ ul).trans u0
      have v1 : (wr.alloc (.cells #[.int .u8 ak, .int .i64 aa, .int .i64 an] 34)).cell? ⟨tb, 1, none⟩ = some (.slice A5 n5 c5) := (World.cell?_alloc_past _ _ _ ul).trans u1
      go_wp2_with fail
      refine (do_any (fun x => w2.heap.size ≤ x ∧ x ≠ tb) _ ak aa an hk0 hk1 _ (fun h => by have := K.out.1.2.2.1; omega) (fun h => by have := K.out.1.2.2.2; omega) (fun y hy => ⟨by have := K.out.2.1; have := K.out.2.2; simp at hy; omega, by simp at hy; omega⟩) (Rr5.kept ((Ext.refl _).alloc _)) (F5.ext ((Ext.refl _).alloc _))).mono ?_
      rintro e w5 ⟨v5, rfl, R6, F6, C6⟩
      obtain ⟨A6, n6, c6, rfl, -⟩ := id F6
      obtain ⟨rows', hrows⟩ : ∃ rows', rows' = (actS 10 rows ak aa an).1 := ⟨_, rfl⟩
      rw [← hrows] at R6 F6
      have kb : w5.heap[tb]? = (wr.alloc (.cells #[.int .u8 ak, .int .i64 aa, .int .i64 an] 34)).heap[tb]? := C6.blk tb (by simp; omega) (by have := K.out.1.2.2.1; have := K.out.2.1; have := K.out.2.2; omega) (by have := K.out.1.2.2.2; have := K.out.2.1; have := K.out.2.2; omega)
      have y0 : w5.cell? ⟨tb, 0, none⟩ = some (.int .i64 10) := (World.cell?_of_block (a := ⟨tb, 0, none⟩) kb).trans v0
      have y1 : w5.cell? ⟨tb, 1, none⟩ = some (.slice A5 n5 c5) := (World.cell?_of_block (a := ⟨tb, 1, none⟩) kb).trans v1
      have yf : ∀ o, w5.frozen? ⟨tb, o, none⟩ = false := fun o => (World.frozen?_of_block (a := ⟨tb, o, none⟩) kb).trans ((World.frozen?_alloc_past _ _ _ ul).trans (uf o))
      have yl : tb < w5.heap.size := Nat.lt_of_lt_of_le (by simp; omega) C6.size
      have E5 : Ext W w5 := Rc.ext (er.alloc _) C6 (Nat.le_trans he1z R6.ge.1) (Nat.le_trans he1z R6.ge.2.1)
      have nb : tb ≠ lb ∧ tb ≠ mb ∧ tb ≠ rb := ⟨by have := K.out.1.2.2.1; have := K.out.2.1; have := K.out.2.2; omega, by have := K.out.1.2.2.2; have := K.out.2.1; have := K.out.2.2; omega, by have := K.out.2.1; have := K.out.2.2; have := RL.out; omega⟩
      clear v0 v1 k0 k1 k2 Rr5 F5 u0 u1 uf ul er hrows kb C6
      go_wp2_with fail
      refine wp_abs (fun Wx => Rr Wx w1.heap.size rb lb mb 10 3 rows' ∧ RefAt Wx (fun x => w2.heap.size ≤ x ∧ x ≠ tb) (.agg #[.int .i64 ((10 : Nat) : Int), .slice A6 n6 c6]) 10 rows' ∧ Wx.cell? ⟨tb, 0, none⟩ = some (.int .i64 10) ∧ Wx.cell? ⟨tb, 1, none⟩ = some (.slice A6 n6 c6) ∧ (∀ o, Wx.frozen? ⟨tb, o, none⟩ = false) ∧ tb < Wx.heap.size ∧ Ext W Wx)
        ⟨(R6.put nb.1 nb.2.1 nb.2.2).put nb.1 nb.2.1 nb.2.2, F6.kept (fun y hy hlt => by rw [Below.heap_setCell _ _ _ _ hy.2, Below.heap_setCell _ _ _ _ hy.2]), ?_, ?_, fun o => by simpa using yf o, by simpa using yl, (E5.setCell (p := ⟨tb, 0, none⟩) (by have := K.out.2.1; have := K.out.2.2; have := e2.sz; have := he1.sz; simp; omega) _).setCell (p := ⟨tb, 1, none⟩) (by have := K.out.2.1; have := K.out.2.2; have := e2.sz; have := he1.sz; simp; omega) _⟩ ?_
      · rw [World.cell?_setCell_other _ _ ⟨tb, 0, none⟩ _ (by simp)]
        exact World.cell?_setCell_same _ _ _ y0
      · exact World.cell?_setCell_same (u := .slice A5 n5 c5) _ _ _ ((World.cell?_setCell_other _ _ _ _ (by simp)).trans y1)
      clear R6 F6 y0 y1 yf yl E5
      rintro w6 ⟨R6, F6, u0, u1, uf, ul, er⟩
      go_loopw [9, 48] (fun s i wr2 => ∃ p : Nat, p ≤ 3 ∧ s = .int .i64 ((lenTo rows' p : Nat) : Int) ∧ i = .int .i64 (p : Int) ∧ Ext w6 wr2) (fun _ i _ => 3 - (intOf i).toNat)
      case atStart => exact ⟨0, by omega, rfl, rfl, Ext.refl _⟩
      case round =>
        obtain ⟨p, hp, rfl, rfl, ex⟩ := hrel
        by_cases hp3 : p < 3
        · have Rq := R6.kept ex
          have hrow : rowI rows' (p : Int) = rowAt rows' p := rowI_in rows' p
          have htot := Rq.total (p + 1) (by omega)
          have hlt : lenTo rows' (p + 1) = lenTo rows' p + (rowAt rows' p).length := rfl
          obtain ⟨row, hrw⟩ : ∃ row, row = rowAt rows' p := ⟨_, rfl⟩
          obtain ⟨s0, hs0⟩ : ∃ s, s = lenTo rows' p := ⟨_, rfl⟩
          rw [← hrw] at hrow hlt
          rw [← hs0] at hlt ⊢
          have q4 : (p : Int) < 3 := by omega
          have HR := Lib.hid (And.intro hrw (And.intro hs0 hrow))
          clear hrw hs0 hrow
          generalize wr = w7 at *
          go_wp2_with fail
          refine (First_any (p : Int) w7 Rq).mono ?_
          rintro e w8 ⟨he, y8⟩
          rw [HR.out.2.2] at he
          subst he
          have R8 := Rq.kept y8
          go_wp2_with fail
          go_loopw [9, 11, 12] (fun s la nn wr3 => ∃ i : Nat, i ≤ row.length ∧ s = .int .i64 ((s0 + i : Nat) : Int) ∧ la = .int .i64 (lastI (row.take i)) ∧ nn = .int .i64 (firstI (row.drop i)) ∧ wr3 = w8) (fun s _ _ _ => (s0 + row.length) - (intOf s).toNat)
          case atStart => exact ⟨0, by omega, rfl, rfl, by simp, rfl⟩
          case round =>
            obtain ⟨i, hi, rfl, rfl, rfl, rfl⟩ := hrel
            by_cases hin : i < row.length
            · obtain ⟨x, hx⟩ : ∃ x, x = row.getD i 0 := ⟨_, rfl⟩
              have hfd := firstI_drop hin
              have hlt' := lastI_take hin
              rw [← hx] at hfd hlt'
              have hsp := R8.spot (l := p) (i := i) (x := x) (by omega) (by rw [← HR.out.1]; exact hin) (by rw [← HR.out.1]; exact hx)
              obtain ⟨m1, m2, m3, m4⟩ := hsp
              have el : listS rows' (x : Int) = (p : Int) := by
                unfold listS
                rw [if_pos ⟨by omega, by simpa using m1⟩, Int.toNat_natCast, m2]
              have ep : prevS rows' (x : Int) = lastI (row.take i) := by
                unfold prevS
                rw [if_pos ⟨by omega, by simpa using m1⟩, Int.toNat_natCast, m2, m3, ← HR.out.1]
              have en : nextS rows' (x : Int) = firstI (row.drop (i + 1)) := by
                unfold nextS
                rw [if_pos ⟨by omega, by simpa using m1⟩, Int.toNat_natCast, m2, m3, ← HR.out.1]
              rw [hfd]
              obtain ⟨la, hla⟩ : ∃ la, la = lastI (row.take i) := ⟨_, rfl⟩
              rw [← hla] at ep ⊢
              obtain ⟨S, hS⟩ : ∃ S, S = s0 + i := ⟨_, rfl⟩
              rw [← hS]
              have r1 : (0 : Int) ≤ (x : Int) := by omega
              have r2 : (S : Int) + 1 ≤ 10 := by omega
              have r3 : IntKind.i64.wrap ((S : Int) + 1) = (S : Int) + 1 := IntWalk.i64_in _ (by omega)
              have HE := Lib.hid (And.intro hlt' (And.intro en (And.intro ep hS)))
              clear hlt' hfd hx m1 m2 m3 m4 hla en ep hS
              go_wp2_with fail
              refine (List_any (x : Int) wr R8).mono ?_
              rintro e z1 ⟨he, hz1⟩
              have hz2 := hz1.symm; clear hz1; subst hz2
              rw [el] at he
              subst he
              go_wp2_with fail
              refine (Prev_any (x : Int) wr R8).mono ?_
              rintro e z1 ⟨he, hz1⟩
              have hz2 := hz1.symm; clear hz1; subst hz2
              rw [HE.out.2.2.1] at he
              subst he
              go_wp2_with fail
              refine (Next_any (x : Int) wr R8).mono ?_
              rintro e z1 ⟨he, hz1⟩
              have hz2 := hz1.symm; clear hz1; subst hz2
              rw [HE.out.2.1] at he
              subst he
              go_wp2_with fail
              go_roundw
              case rel => exact ⟨i + 1, by omega, by have := HE.out.2.2.2; go_num, by rw [HE.out.1], rfl, trivial⟩
              case measure => have := HE.out.2.2.2; simp [intOf]; omega
            · obtain rfl : i = row.length := by omega
              have hfe := firstI_end (Nat.le_refl row.length)
              rw [hfe]
              have r1 : ¬ (0 : Int) ≤ -1 := by omega
              rw [List.take_length]
              obtain ⟨la, hla⟩ : ∃ la, la = lastI row := ⟨_, rfl⟩
              rw [← hla]
              have HA := Lib.hid hla
              clear hla hfe
              go_wp2_with fail
              refine (Last_any (p : Int) wr R8).mono ?_
              rintro e w9 ⟨he, y9⟩
              rw [HR.out.2.2, ← HA.out] at he
              subst he
              go_wp2_with fail
              go_roundw
              case rel => exact ⟨p + 1, by omega, by rw [hlt]; simp, by go_num, (ex.trans y8).trans y9⟩
              case measure => simp [intOf]; omega
        · obtain rfl : p = 3 := by omega
          have Rq := R6.kept ex
          have htot := Rq.total 3 (by omega)
          have e3 : lenTo rows' 3 = (rowAt rows' 0).length + (rowAt rows' 1).length + (rowAt rows' 2).length := by simp [lenTo]
          obtain ⟨a0, h0⟩ : ∃ a, a = (rowAt rows' 0).length := ⟨_, rfl⟩
          obtain ⟨a1, h1'⟩ : ∃ a, a = (rowAt rows' 1).length := ⟨_, rfl⟩
          obtain ⟨a2, h2'⟩ : ∃ a, a = (rowAt rows' 2).length := ⟨_, rfl⟩
          rw [← h0, ← h1', ← h2'] at e3
          have l0 : rowI rows' 0 = rowAt rows' 0 := rowI_in rows' 0
          have l1 : rowI rows' 1 = rowAt rows' 1 := rowI_in rows' 1
          have l2 : rowI rows' 2 = rowAt rows' 2 := rowI_in rows' 2
          rw [e3] at htot ⊢
          have HL3 := Lib.hid (And.intro l0 (And.intro l1 (And.intro l2 (And.intro h0 (And.intro h1' h2')))))
          have x1 : IntKind.i64.wrap ((a0 : Int) + (a1 : Int)) = (a0 : Int) + (a1 : Int) := IntWalk.i64_in _ (by omega)
          have x2 : IntKind.i64.wrap ((a0 : Int) + (a1 : Int) + (a2 : Int)) = (a0 : Int) + (a1 : Int) + (a2 : Int) := IntWalk.i64_in _ (by omega)
          have x3 : ((a0 + a1 + a2 : Nat) : Int) = (a0 : Int) + (a1 : Int) + (a2 : Int) := by omega
          rw [x3]
          clear l0 l1 l2 h0 h1' h2' e3 x3
          go_wp2_with fail
          refine (Len_any 0 wr Rq).mono ?_
          rintro e z1 ⟨he, hz1⟩
          have hz2 := hz1.symm; clear hz1; subst hz2
          rw [HL3.out.1, ← HL3.out.2.2.2.1] at he
          subst he
          go_wp2_with fail
          refine (Len_any 1 wr Rq).mono ?_
          rintro e z1 ⟨he, hz1⟩
          have hz2 := hz1.symm; clear hz1; subst hz2
          rw [HL3.out.2.1, ← HL3.out.2.2.2.2.1] at he
          subst he
          go_wp2_with fail
          refine (Len_any 2 wr Rq).mono ?_
          rintro e z1 ⟨he, hz1⟩
          have hz2 := hz1.symm; clear hz1; subst hz2
          rw [HL3.out.2.2.1, ← HL3.out.2.2.2.2.2] at he
          subst he
          go_wp2_with fail
          go_roundw
          case rel => exact ⟨j + 1, rows', A6, n6, c6, by omega, by go_num, Rq, F6.ext ex, (ex.cell (p := ⟨tb, 0, none⟩) ul).trans u0, (ex.cell (p := ⟨tb, 1, none⟩) ul).trans u1, fun o => (Below.frozen (p := ⟨tb, o, none⟩) ex ul).trans (uf o), Nat.lt_of_lt_of_le ul ex.sz, er.trans ex⟩
          case measure => simp [intOf]; omega
    · obtain rfl : j = n := by omega
      go_wp2_with fail
      go_ret
      exact ⟨rfl, er⟩
end Go.Proofs.Ytpcmfgkbfamdoaa
