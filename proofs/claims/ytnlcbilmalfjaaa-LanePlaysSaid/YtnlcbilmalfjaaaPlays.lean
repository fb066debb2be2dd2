/- A part of the proof of a law of roundel: contracts of functions and lemmas, each true as it stands; no condition beyond those that its theorems state. -/
import Derived.Test.YtnlcbilmalfjaaaIs
import Derived.Test.YtnlcbilmalfjaaaPa
import Derived.Test.YtnlcbilmalfjaaaLo2
namespace Go.Proofs.Ytnlcbilmalfjaaa
set_option linter.unusedSimpArgs false
set_option linter.unusedVariables false
open Go.RowKit

/-- The lanes, and the document's in their box, between two acts. -/
structure Pst (W : World) (B nb tg rb lb mb N M tb lo : Nat) (rows : List (List Nat)) (T : Nat → Int) (A : Option Addr) (n c : Nat) (w : World) : Prop where
  L : Ls w B nb tg rb lb mb N M rows T
  F : RefL w (fun x => lo ≤ x ∧ x ≠ tb) (.agg #[.int .i64 (N : Int), .slice A n c]) N T rows
  t0 : w.cell? ⟨tb, 0, none⟩ = some (.int .i64 (N : Int))
  t1 : w.cell? ⟨tb, 1, none⟩ = some (.slice A n c)
  tf : ∀ o, w.frozen? ⟨tb, o, none⟩ = false
  tl : tb < w.heap.size
  e : Ext W w
section
variable {W w w' : World} {B nb tg rb lb mb N M tb lo : Nat} {rows : List (List Nat)} {T : Nat → Int} {A : Option Addr} {n c : Nat}
theorem Pst.ext (h : Pst W B nb tg rb lb mb N M tb lo rows T A n c w) (x : Ext w w') : Pst W B nb tg rb lb mb N M tb lo rows T A n c w' :=
  ⟨h.L.kept x, h.F.ext x, (x.cell (p := ⟨tb, 0, none⟩) h.tl).trans h.t0, (x.cell (p := ⟨tb, 1, none⟩) h.tl).trans h.t1, fun o => (x.cells.2 tb o h.tl).trans (h.tf o), Nat.lt_of_lt_of_le h.tl x.sz, h.e.trans x⟩
theorem Kc.setAny {ob : Nat} (W : World) (o : Nat) (v : Value) : Kc ob W (W.setCell ⟨ob, o, none⟩ v) := ⟨by simp, fun k x hk _ hn => (Below.heap_setCell _ _ _ _ (by simp; omega)).trans hk⟩
theorem Pst.put {u1 : Value} (hN : 1 ≤ N) (hM : 1 ≤ M) (L : Ls w B nb tg rb lb mb N M rows T) (F : RefL w (fun x => lo ≤ x ∧ x ≠ tb) (.agg #[.int .i64 (N : Int), .slice A n c]) N T rows) (t0 : w.cell? ⟨tb, 0, none⟩ = some (.int .i64 (N : Int))) (t1 : w.cell? ⟨tb, 1, none⟩ = some u1) (tf : ∀ o, w.frozen? ⟨tb, o, none⟩ = false) (tl : tb < w.heap.size) (e : Ext W w)
    (n1 : nb ≠ tb) (n2 : tg ≠ tb) (n3 : rb ≠ tb) (n4 : lb ≠ tb) (n5 : mb ≠ tb) (hW : W.heap.size ≤ tb) : Pst W B nb tg rb lb mb N M tb lo rows T A n c ((w.setCell ⟨tb, 0, none⟩ (.int .i64 (N : Int))).setCell ⟨tb, 1, none⟩ (.slice A n c)) := by
  have k := (Kc.setAny (ob := tb) w 0 (.int .i64 (N : Int))).trans (Kc.setAny (ob := tb) (w.setCell ⟨tb, 0, none⟩ (.int .i64 (N : Int))) 1 (.slice A n c))
  refine ⟨L.kc (by omega) (by omega) k n1 n2 n3 n4 n5, F.kept (fun y hy hlt => by rw [Below.heap_setCell _ _ _ _ hy.2, Below.heap_setCell _ _ _ _ hy.2]), ?_, ?_, fun o => by rw [World.frozen?_setCell, World.frozen?_setCell]; exact tf o, by simpa using tl, (e.setCell (p := ⟨tb, 0, none⟩) hW (.int .i64 (N : Int))).setCell (p := ⟨tb, 1, none⟩) hW (.slice A n c)⟩
  · rw [World.cell?_setCell_other _ _ _ _ (by simp)]
    exact World.cell?_setCell_same _ _ _ t0
  · exact World.cell?_setCell_same (u := u1) _ _ _ ((World.cell?_setCell_other _ _ _ _ (by simp)).trans t1)
end

theorem plays_far (A : Option Addr) (n c : Nat) (x y : Int) (hnc : n ≤ c) (hc63 : c ≤ 9223372036854775807) (hf : 50 < n) (W : World) :
    Calls Try.prog 5 #[.int .i64 x, .int .i64 y, .slice A n c] W fun e W' => e = .returned (.bool true) ∧ Ext W W' := by
  have q : (50 : Int) < (n : Int) := by omega
  go_enter Try.func5, Try.ntmps5
  go_wp2_with fail
  refine (awake_any _).mono ?_
  rintro e w1 ⟨rfl, he1⟩
  go_wp2_with fail
  refine (awake_any _).mono ?_
  rintro e w2 ⟨rfl, he2⟩
  go_wp2_with fail
  go_ret
  exact ⟨rfl, he1.trans he2⟩
set_option maxRecDepth 100000 in
theorem plays_bad (A : Option Addr) (n c : Nat) (x y : Int) (h : x < 1 ∨ 64 < x ∨ y < 1 ∨ 64 < y) (hnc : n ≤ c) (hc63 : c ≤ 9223372036854775807) (hf : n ≤ 50) (W : World) :
    Calls Try.prog 5 #[.int .i64 x, .int .i64 y, .slice A n c] W fun e W' => e = .returned (.bool true) ∧ Ext W W' := by
  have q : (n : Int) ≤ 50 := by omega
  have HH := Lib.hid h
  have HH' := Lib.hid (show y < 1 ∨ 64 < y ∨ x < 1 ∨ 64 < x by omega)
  clear h
  go_enter Try.func5, Try.ntmps5
  go_wp2_with fail
  refine (awake_any _).mono ?_
  rintro e w1 ⟨rfl, he1⟩
  go_wp2_with fail
  refine (LNew_bad y x HH'.out w1).mono ?_
  rintro e w2 ⟨rfl, e2⟩
  go_wp2_with fail
  refine (RNew_bad x y HH.out w2).mono ?_
  rintro e w3 ⟨rfl, e3⟩
  go_wp2_with fail
  go_ret
  exact ⟨rfl, ((he1.trans e2).trans e3).alloc _⟩

set_option maxRecDepth 100000 in
set_option maxHeartbeats 1600000 in
theorem plays_ok (A : Option Addr) (n c : Nat) (l : List Ac) (N M : Nat) (hN1 : 1 ≤ N) (hN2 : N ≤ 64) (hM1 : 1 ≤ M) (hM2 : M ≤ 64) (hnc : n ≤ c) (hc63 : c ≤ 9223372036854775807) (hf : n ≤ 50) (W : World) (hl : AL W W.heap.size A n l) :
    Calls Try.prog 5 #[.int .i64 (M : Int), .int .i64 (N : Int), .slice A n c] W fun e W' => e = .returned (.bool true) ∧ Ext W W' := by
  have q : (n : Int) ≤ 50 := by omega
  have HL := Lib.hid hl
  clear hl
  go_enter Try.func5, Try.ntmps5
  go_wp2_with fail
  refine (awake_any _).mono ?_
  rintro e w1 ⟨rfl, he1⟩
  go_wp2_with fail
  refine (LNew_ok N M hN1 hN2 hM1 hM2 w1).mono ?_
  rintro e w2 ⟨nb, tg, rb, lb, mb, rfl, L2, e2⟩
  obtain ⟨p0, p1, p2, p3, p4⟩ := L2.lts
  go_wp2_with fail
  refine (RNew_ok N M hN1 hN2 hM1 hM2 w2).mono ?_
  rintro e w3 ⟨v3, rfl, F3, e3⟩
  obtain ⟨A4, n4, c4, rfl, -⟩ := id F3
  have L3 := L2.kept e3
  have E3 : Ext W w3 := (he1.trans e2).trans e3
  obtain ⟨tb, htb⟩ : ∃ tb, tb = w3.heap.size := ⟨_, rfl⟩
  have hs2 := e3.sz
  have hs1 := e2.sz
  have hs0 := he1.sz
  have f3 : RefL w3 (fun x => w2.heap.size ≤ x ∧ x ≠ tb) (.agg #[.int .i64 (N : Int), .slice A4 n4 c4]) N (fun _ => 0) (List.replicate M []) := F3.mono (fun x hx hlt => ⟨hx, by omega⟩)
  have D := Lib.hid (show nb ≠ tb ∧ tg ≠ tb ∧ rb ≠ tb ∧ lb ≠ tb ∧ mb ≠ tb ∧ W.heap.size ≤ tb ∧ w2.heap.size ≤ tb ∧ nb < w2.heap.size ∧ tg < w2.heap.size ∧ rb < w2.heap.size ∧ lb < w2.heap.size ∧ mb < w2.heap.size ∧ W.heap.size ≤ w1.heap.size from ⟨by omega, by omega, by omega, by omega, by omega, by omega, by omega, by omega, by omega, by omega, by omega, by omega, by omega⟩)
  go_wp2_with fail
  rw [← htb]
  refine wp_abs (fun Wx => Pst W w1.heap.size nb tg rb lb mb N M tb w2.heap.size (List.replicate M []) (fun _ => 0) A4 n4 c4 Wx)
    ⟨L3.kept ((Ext.refl _).alloc _), f3.ext ((Ext.refl _).alloc _), by rw [htb]; simp, by rw [htb]; simp, fun o => by rw [htb]; simp, by rw [htb]; simp, E3.alloc _⟩ ?_
  rintro w4 S4
  clear L3 F3 f3 E3 L2 htb hs2 hs1 hs0 p0 p1 p2 p3 p4
  go_loopw [48] (fun i wr => ∃ (j : Nat) (rows : List (List Nat)) (T : Nat → Int) (A5 : Option Addr) (n5 c5 : Nat), j ≤ n ∧ i = .int .i64 (j : Int) ∧ Pst W w1.heap.size nb tg rb lb mb N M tb w2.heap.size rows T A5 n5 c5 wr) (fun i _ => n - (intOf i).toNat)
  case atStart => exact ⟨0, _, _, A4, n4, c4, by omega, rfl, S4⟩
  case round =>
    obtain ⟨j, rows, T, A5, n5, c5, hj, rfl, S⟩ := hrel
    clear S4
    by_cases hjn : j < n
    · obtain ⟨h1, h3⟩ := HL.out
      obtain ⟨x, o, rfl, hx, hcell⟩ := h3 (by omega)
      obtain ⟨k0, k1, k2, k3⟩ := hcell j hjn
      have hcw : ∀ i, wr.cell? ⟨x, i, none⟩ = W.cell? ⟨x, i, none⟩ := fun i => S.e.cell (p := ⟨x, i, none⟩) hx
      rw [← hcw] at k0 k1 k2 k3
      obtain ⟨⟨ad, aa, an, at_⟩, hgx⟩ : ∃ g, g = l.getD j default := ⟨_, rfl⟩
      rw [← hgx] at k0 k1 k2 k3
      dsimp only at k0 k1 k2 k3
      have q3 : (j : Int) < (n : Int) := by omega
      obtain ⟨kb, hkb⟩ : ∃ kb, kb = wr.heap.size := ⟨_, rfl⟩
      have Stl := S.tl
      have Sl := S.L.lts
      have G := Lib.hid (show kb ≠ tb ∧ kb ≠ tg ∧ kb ≠ lb ∧ kb ≠ mb from ⟨by omega, by omega, by omega, by omega⟩)
      clear hgx h3 hcell hcw Sl
      cases ad with
      | true =>
        go_wp2_with fail
        rw [← hkb]
        refine wp_abs (fun Wx => Pst W w1.heap.size nb tg rb lb mb N M tb w2.heap.size rows T A5 n5 c5 Wx ∧ Wx.cell? ⟨kb, 1, none⟩ = some (.int .i64 aa) ∧ Wx.cell? ⟨kb, 2, none⟩ = some (.int .i64 an) ∧ Wx.cell? ⟨kb, 3, none⟩ = some (.int .i64 at_))
          ⟨S.ext ((Ext.refl _).alloc _), by rw [hkb]; simp, by rw [hkb]; simp, by rw [hkb]; simp⟩ ?_
        rintro Wx ⟨⟨SL, SF, st0, st1, stf, stl, SE⟩, xk1, xk2, xk3⟩
        have xc0 := SL.c0
        clear S Stl k0 k1 k2 k3 hkb
        go_still_tail 6, (by kernel_rfl)
        change wpList _ _ _ _ _ Wx.drew
        go_wp2_with fail
        refine (Drop_any an Wx.drew (SL.rr.kept (Ext.refl _).drew)).mono ?_
        rintro e w5 ⟨rfl, R5, C5⟩
        have L5 := (SL.kept (Ext.refl _).drew).rc C5 R5
        have C6 : Lc tg lb mb Wx w5 := (Lc.of_ext (Ext.refl _).drew).trans (Lc.of_rc C5)
        clear C5 R5
        have y0 := C6.cellOf st0 (Ne.symm D.out.2.1) (Ne.symm D.out.2.2.2.1) (Ne.symm D.out.2.2.2.2.1)
        have y1 := C6.cellOf st1 (Ne.symm D.out.2.1) (Ne.symm D.out.2.2.2.1) (Ne.symm D.out.2.2.2.2.1)
        have yk1 := C6.cellOf xk1 G.out.2.1 G.out.2.2.1 G.out.2.2.2
        have yk2 := C6.cellOf xk2 G.out.2.1 G.out.2.2.1 G.out.2.2.2
        have yk3 := C6.cellOf xk3 G.out.2.1 G.out.2.2.1 G.out.2.2.2
        have u5 : tb < w5.heap.size := block_lt_of_cell (a := ⟨tb, 0, none⟩) y0
        have kbx : w5.heap[tb]? = Wx.heap[tb]? := C6.blk tb stl (Ne.symm D.out.2.1) (Ne.symm D.out.2.2.2.1) (Ne.symm D.out.2.2.2.2.1)
        have yf : ∀ o, w5.frozen? ⟨tb, o, none⟩ = false := fun o => (World.frozen?_of_block (a := ⟨tb, o, none⟩) kbx).trans (stf o)
        have F5 : RefL w5 (fun x => w2.heap.size ≤ x ∧ x ≠ tb) (.agg #[.int .i64 (N : Int), .slice A5 n5 c5]) N T rows := SF.kept (fun y hy hlt => C6.blk y hlt (by have := D.out; omega) (by have := D.out; omega) (by have := D.out; omega))
        have E5 : Ext W w5 := Lc.ext SE C6 (by have := SL.ge.2; have := D.out; omega) (by have := SL.rr.ge; have := D.out; omega) (by have := SL.rr.ge; have := D.out; omega)
        have hLx : ∀ y, w5.heap.size ≤ y → w2.heap.size ≤ y ∧ y ≠ tb := fun y hy => by have := D.out; exact ⟨by omega, by omega⟩
        have gk := G.out
        clear kbx C6 SE st0 st1 stf stl xk1 xk2 xk3 xc0
        go_wp2_with fail
        refine (RDrop_any _ an Wx w5 SL.rr hLx F5).mono ?_
        rintro e w6 ⟨v6, rfl, F6, e6⟩
        clear F5 SL SF
        have L6 := L5.kept e6
        have z0 : w6.cell? ⟨tb, 0, none⟩ = some (.int .i64 (N : Int)) := (e6.cell (p := ⟨tb, 0, none⟩) u5).trans y0
        have z1 : w6.cell? ⟨tb, 1, none⟩ = some (.slice A5 n5 c5) := (e6.cell (p := ⟨tb, 1, none⟩) u5).trans y1
        have zf : ∀ o, w6.frozen? ⟨tb, o, none⟩ = false := fun o => (e6.cells.2 tb o u5).trans (yf o)
        have zk : w6.cell? ⟨kb, 3, none⟩ = some (.int .i64 at_) := (e6.cell (p := ⟨kb, 3, none⟩) (block_lt_of_cell (a := ⟨kb, 3, none⟩) yk3)).trans yk3
        have E6 := E5.trans e6
        have u6 : tb < w6.heap.size := block_lt_of_cell (a := ⟨tb, 0, none⟩) z0
        obtain ⟨A6, n6, c6, rfl, -⟩ := id F6
        obtain ⟨rows', hrows⟩ : ∃ rows', rows' = (dropS N rows an).1 := ⟨_, rfl⟩
        obtain ⟨T', hTT⟩ : ∃ T' : Nat → Int, T' = T := ⟨_, rfl⟩
        obtain ⟨cd, hcd⟩ : ∃ cd, cd = (dropS N rows an).2 := ⟨_, rfl⟩
        rw [← hcd]
        rw [← hrows, ← hTT] at F6 L6
        have fk0 := zf 0
        have fk1 := zf 1
        have e3' : (w6.setCell ⟨tb, 0, none⟩ (.int .i64 (N : Int))).cell? ⟨tb, 1, none⟩ = some (.slice A5 n5 c5) := (World.cell?_setCell_other _ _ _ _ (by simp)).trans z1
        have S7 : Pst W w1.heap.size nb tg rb lb mb N M tb w2.heap.size rows' T' A6 n6 c6 ((w6.setCell ⟨tb, 0, none⟩ (.int .i64 (N : Int))).setCell ⟨tb, 1, none⟩ (.slice A6 n6 c6)) := Pst.put hN1 hM1 L6 F6 z0 z1 zf u6 E6 D.out.1 D.out.2.1 D.out.2.2.1 D.out.2.2.2.1 D.out.2.2.2.2.1 D.out.2.2.2.2.2.1
        have zk7 : ((w6.setCell ⟨tb, 0, none⟩ (.int .i64 (N : Int))).setCell ⟨tb, 1, none⟩ (.slice A6 n6 c6)).cell? ⟨kb, 3, none⟩ = some (.int .i64 at_) := by
          rw [World.cell?_setCell_other _ _ _ _ (by simp), World.cell?_setCell_other _ _ _ _ (by simp)]
          exact zk
        have z07 := S7.t0
        have z17 := S7.t1
        have HS7 := Lib.hid S7
        clear S7 L6 F6 E6 E5 L5 y0 y1 yf yk3 e6 hrows hTT hcd zf
        go_wp2_with fail
        refine (is_any _ _ at_ (1 + (j : Int) % 3) (by omega) (by omega) (by omega) (by omega) hN2 _ HS7.out.L HS7.out.F).mono ?_
        rintro e w9 ⟨rfl, e9⟩
        have S9 := HS7.out.ext e9
        clear z07 z17 zk7 e9
        go_wp2_with fail
        go_roundw
        case rel => exact ⟨j + 1, rows', T', A6, n6, c6, by omega, by go_num, S9⟩
        case measure => simp [intOf]; omega
      | false =>
        go_wp2_with fail
        rw [← hkb]
        obtain ⟨Wx, hWx⟩ : ∃ Wx, Wx = wr.alloc (.cells #[.bool false, .int .i64 aa, .int .i64 an, .int .i64 at_] 48) := ⟨_, rfl⟩
        rw [← hWx]
        have HX : Pst W w1.heap.size nb tg rb lb mb N M tb w2.heap.size rows T A5 n5 c5 Wx ∧ Wx.cell? ⟨kb, 1, none⟩ = some (.int .i64 aa) ∧ Wx.cell? ⟨kb, 2, none⟩ = some (.int .i64 an) ∧ Wx.cell? ⟨kb, 3, none⟩ = some (.int .i64 at_) := by
          rw [hWx]
          exact ⟨S.ext ((Ext.refl _).alloc _), by rw [hkb]; simp, by rw [hkb]; simp, by rw [hkb]; simp⟩
        obtain ⟨⟨SL, SF, st0, st1, stf, stl, SE⟩, xk1, xk2, xk3⟩ := HX
        have xc0 := SL.c0
        clear S Stl k0 k1 k2 k3 hkb hWx
        refine (Put_any aa an at_ Wx SL).mono ?_
        rintro e w5 ⟨rfl, L5, C6⟩
        have y0 := C6.cellOf st0 (Ne.symm D.out.2.1) (Ne.symm D.out.2.2.2.1) (Ne.symm D.out.2.2.2.2.1)
        have y1 := C6.cellOf st1 (Ne.symm D.out.2.1) (Ne.symm D.out.2.2.2.1) (Ne.symm D.out.2.2.2.2.1)
        have yk1 := C6.cellOf xk1 G.out.2.1 G.out.2.2.1 G.out.2.2.2
        have yk2 := C6.cellOf xk2 G.out.2.1 G.out.2.2.1 G.out.2.2.2
        have yk3 := C6.cellOf xk3 G.out.2.1 G.out.2.2.1 G.out.2.2.2
        have u5 : tb < w5.heap.size := block_lt_of_cell (a := ⟨tb, 0, none⟩) y0
        have kbx : w5.heap[tb]? = Wx.heap[tb]? := C6.blk tb stl (Ne.symm D.out.2.1) (Ne.symm D.out.2.2.2.1) (Ne.symm D.out.2.2.2.2.1)
        have yf : ∀ o, w5.frozen? ⟨tb, o, none⟩ = false := fun o => (World.frozen?_of_block (a := ⟨tb, o, none⟩) kbx).trans (stf o)
        have F5 : RefL w5 (fun x => w2.heap.size ≤ x ∧ x ≠ tb) (.agg #[.int .i64 (N : Int), .slice A5 n5 c5]) N T rows := SF.kept (fun y hy hlt => C6.blk y hlt (by have := D.out; omega) (by have := D.out; omega) (by have := D.out; omega))
        have E5 : Ext W w5 := Lc.ext SE C6 (by have := SL.ge.2; have := D.out; omega) (by have := SL.rr.ge; have := D.out; omega) (by have := SL.rr.ge; have := D.out; omega)
        have hLx : ∀ y, w5.heap.size ≤ y → w2.heap.size ≤ y ∧ y ≠ tb := fun y hy => by have := D.out; exact ⟨by omega, by omega⟩
        have gk := G.out
        clear kbx C6 SE st0 st1 stf stl xk1 xk2 xk3 xc0
        go_wp2_with fail
        refine (RPut_any _ aa an at_ Wx w5 SL.rr hLx F5).mono ?_
        rintro e w6 ⟨v6, rfl, F6, e6⟩
        clear F5 SL SF
        have L6 := L5.kept e6
        have z0 : w6.cell? ⟨tb, 0, none⟩ = some (.int .i64 (N : Int)) := (e6.cell (p := ⟨tb, 0, none⟩) u5).trans y0
        have z1 : w6.cell? ⟨tb, 1, none⟩ = some (.slice A5 n5 c5) := (e6.cell (p := ⟨tb, 1, none⟩) u5).trans y1
        have zf : ∀ o, w6.frozen? ⟨tb, o, none⟩ = false := fun o => (e6.cells.2 tb o u5).trans (yf o)
        have zk : w6.cell? ⟨kb, 3, none⟩ = some (.int .i64 at_) := (e6.cell (p := ⟨kb, 3, none⟩) (block_lt_of_cell (a := ⟨kb, 3, none⟩) yk3)).trans yk3
        have E6 := E5.trans e6
        have u6 : tb < w6.heap.size := block_lt_of_cell (a := ⟨tb, 0, none⟩) z0
        obtain ⟨A6, n6, c6, rfl, -⟩ := id F6
        obtain ⟨rows', hrows⟩ : ∃ rows', rows' = (laneS N rows T aa an at_).1 := ⟨_, rfl⟩
        obtain ⟨T', hTT⟩ : ∃ T' : Nat → Int, T' = laneT N rows T aa an at_ := ⟨_, rfl⟩
        obtain ⟨cd, hcd⟩ : ∃ cd, cd = (laneS N rows T aa an at_).2 := ⟨_, rfl⟩
        rw [← hcd]
        rw [← hrows, ← hTT] at F6 L6
        have fk0 := zf 0
        have fk1 := zf 1
        have e3' : (w6.setCell ⟨tb, 0, none⟩ (.int .i64 (N : Int))).cell? ⟨tb, 1, none⟩ = some (.slice A5 n5 c5) := (World.cell?_setCell_other _ _ _ _ (by simp)).trans z1
        have S7 : Pst W w1.heap.size nb tg rb lb mb N M tb w2.heap.size rows' T' A6 n6 c6 ((w6.setCell ⟨tb, 0, none⟩ (.int .i64 (N : Int))).setCell ⟨tb, 1, none⟩ (.slice A6 n6 c6)) := Pst.put hN1 hM1 L6 F6 z0 z1 zf u6 E6 D.out.1 D.out.2.1 D.out.2.2.1 D.out.2.2.2.1 D.out.2.2.2.2.1 D.out.2.2.2.2.2.1
        have zk7 : ((w6.setCell ⟨tb, 0, none⟩ (.int .i64 (N : Int))).setCell ⟨tb, 1, none⟩ (.slice A6 n6 c6)).cell? ⟨kb, 3, none⟩ = some (.int .i64 at_) := by
          rw [World.cell?_setCell_other _ _ _ _ (by simp), World.cell?_setCell_other _ _ _ _ (by simp)]
          exact zk
        have z07 := S7.t0
        have z17 := S7.t1
        have HS7 := Lib.hid S7
        clear S7 L6 F6 E6 E5 L5 y0 y1 yf yk3 e6 hrows hTT hcd zf
        go_wp2_with fail
        refine (is_any _ _ at_ (1 + (j : Int) % 3) (by omega) (by omega) (by omega) (by omega) hN2 _ HS7.out.L HS7.out.F).mono ?_
        rintro e w9 ⟨rfl, e9⟩
        have S9 := HS7.out.ext e9
        clear z07 z17 zk7 e9
        go_wp2_with fail
        go_roundw
        case rel => exact ⟨j + 1, rows', T', A6, n6, c6, by omega, by go_num, S9⟩
        case measure => simp [intOf]; omega
    · obtain rfl : j = n := by omega
      go_wp2_with fail
      go_ret
      exact ⟨rfl, S.e⟩
end Go.Proofs.Ytnlcbilmalfjaaa
