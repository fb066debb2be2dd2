/- A part of the proof of a law of roundel: contracts of functions and lemmas, each true as it stands; no condition beyond those that its theorems state. -/
import Derived.Test.YtpcmfgkbfamdoaaIs1
namespace Go.Proofs.Ytpcmfgkbfamdoaa
set_option linter.unusedSimpArgs false
set_option linter.unusedVariables false
open Go.RowKit

theorem four1z (W : World) (a b c d : Array Value) (ta tb tc td : TypeId) (i : Nat) : ((((W.alloc (.cells a ta)).alloc (.cells b tb)).alloc (.cells c tc)).alloc (.cells d td)).frozen? ⟨W.heap.size, i, none⟩ = false := by
  rw [World.frozen?_alloc_past _ _ _ (by simp <;> omega), az1]
theorem four2z (W : World) (a b c d : Array Value) (ta tb tc td : TypeId) (i : Nat) : ((((W.alloc (.cells a ta)).alloc (.cells b tb)).alloc (.cells c tc)).alloc (.cells d td)).frozen? ⟨W.heap.size + 1, i, none⟩ = false := by
  rw [World.frozen?_alloc_past _ _ _ (by simp <;> omega), three2z]

set_option maxRecDepth 100000 in
set_option maxHeartbeats 3200000 in
theorem is_any {B rb lb mb N M : Nat} {rows : List (List Nat)} (P : Nat → Prop) (v : Value) (W : World) (HR : Rr W B rb lb mb N M rows) (H : RefAt W P v N rows) :
    Calls Try.prog 23 #[.pointer (some ⟨rb, 0, none⟩), v] W fun e W' => e = .returned (.bool true) ∧ Ext W W' := by
  have H0 := Lib.hid H
  have HR0 := Lib.hid HR
  obtain ⟨hM, hM64, hR64⟩ := HR.small
  have hN : N ≤ 64 := HR.elim fun g h => h.1.sm.1
  obtain ⟨A, m, c, rfl, h1, h2, h3, h4, h5⟩ := H
  have hmM : M = m := by omega
  subst hmM
  have HC := Lib.hid h5
  clear h5
  obtain ⟨W1, hW1⟩ : ∃ W1, W1 = W.alloc (.cells #[.int .i64 (N : Int), .slice A M c] 30) := ⟨_, rfl⟩
  have E0 : Ext W W1 := by rw [hW1]; exact (Ext.refl W).alloc _
  have t0 : W1.cell? ⟨W.heap.size, 0, none⟩ = some (.int .i64 (N : Int)) := by rw [hW1]; simp
  have t1 : W1.cell? ⟨W.heap.size, 1, none⟩ = some (.slice A M c) := by rw [hW1]; simp
  have s1 : W1.heap.size = W.heap.size + 1 := by rw [hW1]; simp
  have HT := Lib.hid (show ∀ W' : World, Ext W1 W' → W'.cell? ⟨W.heap.size, 0, none⟩ = some (.int .i64 (N : Int)) ∧ W'.cell? ⟨W.heap.size, 1, none⟩ = some (.slice A M c) from fun W' he => ⟨(he.cell (p := ⟨W.heap.size, 0, none⟩) (show W.heap.size < _ by omega)).trans t0, (he.cell (p := ⟨W.heap.size, 1, none⟩) (show W.heap.size < _ by omega)).trans t1⟩)
  have R1 := HR.kept E0
  have F1 := H0.out.ext E0
  have HW1 := Lib.hid hW1
  go_enter Try.func23, Try.ntmps23
  go_wp2_with fail
  rw [← hW1]
  clear hW1 t0 t1 HR
  go_loopw [5] (fun i wr => ∃ z : Int, -1 ≤ z ∧ z ≤ (M : Int) + 1 ∧ i = .int .i64 z ∧ Ext W1 wr) (fun i _ => ((M : Int) + 1 - intOf i).toNat)
  case atStart => exact ⟨-1, by omega, by omega, rfl, Ext.refl _⟩
  case round =>
    obtain ⟨z, hz1, hz2, rfl, er⟩ := hrel
    have b0 := (HT.out wr er).1
    have b1 := (HT.out wr er).2
    by_cases hzM : z ≤ (M : Int)
    · have q1 : z ≤ (M : Int) := by omega
      have Rw := R1.kept er
      have xsw : W.heap.size < wr.heap.size := by have := er.sz; omega
      have Fw := F1.ext er
      have wz : IntKind.i64.wrap (z + 1) = z + 1 := IntWalk.i64_in _ (by omega)
      have HRr := Lib.hid (show rb < wr.heap.size ∧ lb < wr.heap.size ∧ mb < wr.heap.size from Rw.elim fun g h => h.1.lt)
      by_cases hin : 0 ≤ z ∧ z < (M : Int)
      · obtain ⟨l, rfl⟩ := Int.eq_ofNat_of_zero_le hin.1
        have hl : l < M := by omega
        have hl' : (l : Int) < (M : Int) := by omega
        obtain ⟨x, rfl, hx, hc⟩ := HC.out (by omega)
        obtain ⟨GA, gn, gc, k1, k2⟩ := hc l hl
        have k1' := ((E0.trans er).cell (p := ⟨x, l, none⟩) (block_lt_of_cell k1)).trans k1
        have xb := block_lt_of_cell k1'
        have k2' : RowAt wr (fun y => P y ∧ y < wr.heap.size) GA gn gc (rowAt rows l) := (k2.mono (L' := fun y => P y ∧ y < wr.heap.size) (fun y hy hlt => ⟨hy, Nat.lt_of_lt_of_le hlt (E0.trans er).sz⟩)).ext (E0.trans er)
        have hgn := k2.1
        obtain ⟨row, hrow⟩ : ∃ row, row = rowAt rows l := ⟨_, rfl⟩
        rw [← hrow] at k2' hgn
        have HRW := Lib.hid (show row = rowI rows (l : Int) by rw [hrow, rowI_in])
        have g64 : gn ≤ 64 := by have := hR64 l; rw [← hrow] at this; omega
        clear hc k1 k2 hrow
        by_cases hg0 : 0 < gn
        · have hg0' : (0 : Int) < (gn : Int) := by omega
          obtain ⟨y, rfl, hy, hyc⟩ := k2'.2.2.2.2 hg0
          have y0 := hyc 0 hg0
          have y1 := hyc (gn - 1) (by omega)
          have ef : ((row.getD 0 0 : Nat) : Int) = firstI row := by
            have := firstI_drop (r := row) (i := 0) (by omega)
            rw [List.drop_zero] at this
            exact this.symm
          have el : ((row.getD (gn - 1) 0 : Nat) : Int) = lastI row := by
            have := lastI_take (r := row) (i := gn - 1) (by omega)
            rw [show gn - 1 + 1 = gn by omega, ← hgn, List.take_length] at this
            rw [← hgn]
            exact this.symm
          rw [ef] at y0
          rw [el] at y1
          have wg : IntKind.i64.wrap ((gn : Int) - 1) = (gn : Int) - 1 := IntWalk.i64_in _ (by omega)
          have tg : ((gn : Int) - 1).toNat = gn - 1 := by omega
          have r0 : 0 ≤ (gn : Int) - 1 := by omega
          have r1 : (gn : Int) - 1 < (gn : Int) := by omega
          obtain ⟨fi, hfi⟩ : ∃ fi, fi = firstI row := ⟨_, rfl⟩
          obtain ⟨la, hla⟩ : ∃ la, la = lastI row := ⟨_, rfl⟩
          rw [← hfi] at y0
          rw [← hla] at y1
          have HFL := Lib.hid (And.intro hfi hla)
          have yb := block_lt_of_cell y0
          clear ef el hfi hla hyc
          go_wp2_with fail
          go_quiet (fail)
          go_wp2_with fail
          refine wp_abs (fun Wx => Rr Wx B rb lb mb N M rows ∧ RefAt Wx P (.agg #[.int .i64 (N : Int), .slice (some ⟨x, 0, none⟩) M c]) N rows ∧ RowAt Wx (fun x => P x ∧ x < wr.heap.size) (some ⟨y, 0, none⟩) gn gc row ∧ Wx.cell? ⟨wr.heap.size, 0, none⟩ = some (.slice (some ⟨y, 0, none⟩) gn gc) ∧ wr.heap.size < Wx.heap.size ∧ Ext W1 Wx ∧ Ext wr Wx) ⟨Rw.kept (((Ext.refl wr).alloc _).drewN _), Fw.ext (((Ext.refl wr).alloc _).drewN _), RowAt.ext k2' (((Ext.refl wr).alloc _).drewN _), by simp, by simp, er.trans (((Ext.refl wr).alloc _).drewN _), (((Ext.refl wr).alloc _).drewN _)⟩ ?_
          rintro wx ⟨Rx, Fx, Gx, cx, lx, ex, ey⟩
          have HS := Lib.hid (show ∀ W' : World, Ext wx W' → W'.cell? ⟨wr.heap.size, 0, none⟩ = some (.slice (some ⟨y, 0, none⟩) gn gc) from fun W' he => (he.cell (p := ⟨wr.heap.size, 0, none⟩) lx).trans cx)
          go_region_held3 (fun W' => W'.cell? ⟨wr.heap.size, 0, none⟩ = some (.slice (some ⟨y, 0, none⟩) gn gc))
            (exact HS.out _ (by (repeat (first | with_reducible exact Ext.refl _ | with_reducible assumption | with_reducible apply Ext.drew | with_reducible apply Ext.drewN | with_reducible apply Ext.alloc | (with_reducible refine Ext.setCell ?_ (by simp <;> omega) _) | (with_reducible refine Ext.trans ?_ (by with_reducible assumption))))))
            (first
              | (go_at_call 18; (with_reducible refine (Len_any (l : Int) wx.drew (Rx.kept (Ext.refl wx).drew)).mono ?_); rintro e z1 ⟨he, hz1⟩; have hz2 := hz1.symm; clear hz1; subst hz2; rw [← HRW.out, hgn] at he; subst he)
              | (go_at_call 19; (with_reducible refine (First_any (l : Int) wx.drew (Rx.kept (Ext.refl wx).drew)).mono ?_); rintro e y1 ⟨he, yy1⟩; rw [← HRW.out, HFL.out.1.symm] at he; subst he; have Y1 : Ext wx y1 := (Ext.refl wx).drew.trans yy1)
              | (go_at_call 22; (with_reducible refine (Last_any (l : Int) y1 (Rx.kept Y1)).mono ?_); rintro e y2 ⟨he, yy2⟩; rw [← HRW.out, HFL.out.2.symm] at he; subst he; have Y2 : Ext wx y2 := Y1.trans yy2))
          rename_i hH
          clear hH
          have Ry := Rx.kept Y2
          have Fy := Fx.ext Y2
          have Gy := Gx.ext Y2
          have cy := HS.out y2 Y2
          have ly : wr.heap.size < y2.heap.size := Nat.lt_of_lt_of_le lx Y2.sz
          have sw : wr.heap.size ≤ y2.heap.size := (ey.trans Y2).sz
          have nbk : rb < wr.heap.size ∧ lb < wr.heap.size ∧ mb < wr.heap.size := HRr.out
          have E1 : Ext W1 y2 := ex.trans Y2
          clear Rx Fx Gx cx lx ex ey Y1 HS
          go_wp2_with fail
          refine (nodes_fn rb (l : Int) _).mono ?_
          rintro e z1 ⟨rfl, hz1⟩
          subst hz1
          have E4 : Ext y2 ((((y2.alloc (.cells #[.int .i64 0] 3)).alloc (.cells #[.bool true] 4)).alloc (.cells #[.pointer (some ⟨rb, 0, none⟩)] 24)).alloc (.cells #[.int .i64 (l : Int)] 3)) := ((((Ext.refl y2).alloc _).alloc _).alloc _).alloc _
          go_wp2_with fail
          refine (nodes_is (rows := rows) (l : Int) (y2.heap.size + 1) y2.heap.size wr.heap.size (y2.heap.size + 1 + 1) (y2.heap.size + 1 + 1 + 1) (fun x => P x ∧ x < wr.heap.size) (some ⟨y, 0, none⟩) gn gc _ (Ry.kept E4) (by rw [← HRW.out]; exact Gy.ext E4) (fun h => by have := h.2; omega) (fun h => by have := h.2; omega) ((four2 ..).trans rfl) ((four1 ..).trans rfl) ((E4.cell (p := ⟨wr.heap.size, 0, none⟩) ly).trans cy) (four2z ..) (four1z ..) ((four3 ..).trans rfl) ((four4 ..).trans rfl) (by omega) ⟨by omega, by omega⟩ ⟨by omega, by omega⟩ ⟨by omega, by omega⟩ ⟨by omega, by omega⟩ ⟨by omega, by omega⟩ ⟨by omega, by omega⟩).mono ?_
          rintro e w9 ⟨rfl, o9, k9, C9⟩
          have hb9 : ∀ x, x < y2.heap.size → w9.heap[x]? = y2.heap[x]? := fun x hx => (C9.blk x (by simp; omega) (by omega) (by omega)).trans (E4.blk hx)
          have e9 : Ext W1 w9 := E1.step ((E4.below.mono (Nat.le_refl _)).trans (C9.below (B := y2.heap.size) E4.sz (by omega) (by omega))) E1.sz
          have c9 : w9.cell? ⟨wr.heap.size, 0, none⟩ = some (.slice (some ⟨y, 0, none⟩) gn gc) := (World.cell?_of_block (a := ⟨wr.heap.size, 0, none⟩) (hb9 wr.heap.size ly)).trans cy
          clear Ry Fy Gy cy E1 E4 hb9
          go_wp2_with fail
          go_roundw
          case rel => exact ⟨(l : Int) + 1, by omega, by omega, rfl, e9⟩
          case measure => simp [intOf]; omega
        · have hg00 : gn = 0 := by omega
          subst hg00
          have hrow0 : row = [] := List.eq_nil_of_length_eq_zero hgn
          have ef : firstI row = -1 := by rw [hrow0]; rfl
          have el : lastI row = -1 := by rw [hrow0]; rfl
          have HFL := Lib.hid (And.intro ef el)
          clear ef el hrow0 hg0
          go_wp2_with fail
          refine wp_abs (fun Wx => Rr Wx B rb lb mb N M rows ∧ RefAt Wx P (.agg #[.int .i64 (N : Int), .slice (some ⟨x, 0, none⟩) M c]) N rows ∧ RowAt Wx (fun x => P x ∧ x < wr.heap.size) GA 0 gc row ∧ Wx.cell? ⟨wr.heap.size, 0, none⟩ = some (.slice GA 0 gc) ∧ wr.heap.size < Wx.heap.size ∧ Ext W1 Wx ∧ Ext wr Wx) ⟨Rw.kept ((Ext.refl wr).alloc _), Fw.ext ((Ext.refl wr).alloc _), RowAt.ext k2' ((Ext.refl wr).alloc _), by simp, by simp, er.trans ((Ext.refl wr).alloc _), ((Ext.refl wr).alloc _)⟩ ?_
          rintro wx ⟨Rx, Fx, Gx, cx, lx, ex, ey⟩
          have HS := Lib.hid (show ∀ W' : World, Ext wx W' → W'.cell? ⟨wr.heap.size, 0, none⟩ = some (.slice GA 0 gc) from fun W' he => (he.cell (p := ⟨wr.heap.size, 0, none⟩) lx).trans cx)
          go_region_held3 (fun W' => W'.cell? ⟨wr.heap.size, 0, none⟩ = some (.slice GA 0 gc))
            (exact HS.out _ (by (repeat (first | with_reducible exact Ext.refl _ | with_reducible assumption | with_reducible apply Ext.drew | with_reducible apply Ext.drewN | with_reducible apply Ext.alloc | (with_reducible refine Ext.setCell ?_ (by simp <;> omega) _) | (with_reducible refine Ext.trans ?_ (by with_reducible assumption))))))
            (first
              | (go_at_call 18; (with_reducible refine (Len_any (l : Int) wx.drew (Rx.kept (Ext.refl wx).drew)).mono ?_); rintro e z1 ⟨he, hz1⟩; have hz2 := hz1.symm; clear hz1; subst hz2; rw [← HRW.out, hgn] at he; subst he)
              | (go_at_call 19; (with_reducible refine (First_any (l : Int) wx.drew (Rx.kept (Ext.refl wx).drew)).mono ?_); rintro e y1 ⟨he, yy1⟩; rw [← HRW.out, HFL.out.1] at he; subst he; have Y1 : Ext wx y1 := (Ext.refl wx).drew.trans yy1)
              | (go_at_call 22; (with_reducible refine (Last_any (l : Int) y1 (Rx.kept Y1)).mono ?_); rintro e y2 ⟨he, yy2⟩; rw [← HRW.out, HFL.out.2] at he; subst he; have Y2 : Ext wx y2 := Y1.trans yy2))
          rename_i hH
          clear hH
          have Ry := Rx.kept Y2
          have Fy := Fx.ext Y2
          have Gy := Gx.ext Y2
          have cy := HS.out y2 Y2
          have ly : wr.heap.size < y2.heap.size := Nat.lt_of_lt_of_le lx Y2.sz
          have sw : wr.heap.size ≤ y2.heap.size := (ey.trans Y2).sz
          have nbk : rb < wr.heap.size ∧ lb < wr.heap.size ∧ mb < wr.heap.size := HRr.out
          have E1 : Ext W1 y2 := ex.trans Y2
          clear Rx Fx Gx cx lx ex ey Y1 HS
          go_wp2_with fail
          refine (nodes_fn rb (l : Int) _).mono ?_
          rintro e z1 ⟨rfl, hz1⟩
          subst hz1
          have E4 : Ext y2 ((((y2.alloc (.cells #[.int .i64 0] 3)).alloc (.cells #[.bool true] 4)).alloc (.cells #[.pointer (some ⟨rb, 0, none⟩)] 24)).alloc (.cells #[.int .i64 (l : Int)] 3)) := ((((Ext.refl y2).alloc _).alloc _).alloc _).alloc _
          go_wp2_with fail
          refine (nodes_is (rows := rows) (l : Int) (y2.heap.size + 1) y2.heap.size wr.heap.size (y2.heap.size + 1 + 1) (y2.heap.size + 1 + 1 + 1) (fun x => P x ∧ x < wr.heap.size) GA 0 gc _ (Ry.kept E4) (by rw [← HRW.out]; exact Gy.ext E4) (fun h => by have := h.2; omega) (fun h => by have := h.2; omega) ((four2 ..).trans rfl) ((four1 ..).trans rfl) ((E4.cell (p := ⟨wr.heap.size, 0, none⟩) ly).trans cy) (four2z ..) (four1z ..) ((four3 ..).trans rfl) ((four4 ..).trans rfl) (by omega) ⟨by omega, by omega⟩ ⟨by omega, by omega⟩ ⟨by omega, by omega⟩ ⟨by omega, by omega⟩ ⟨by omega, by omega⟩ ⟨by omega, by omega⟩).mono ?_
          rintro e w9 ⟨rfl, o9, k9, C9⟩
          have hb9 : ∀ x, x < y2.heap.size → w9.heap[x]? = y2.heap[x]? := fun x hx => (C9.blk x (by simp; omega) (by omega) (by omega)).trans (E4.blk hx)
          have e9 : Ext W1 w9 := E1.step ((E4.below.mono (Nat.le_refl _)).trans (C9.below (B := y2.heap.size) E4.sz (by omega) (by omega))) E1.sz
          have c9 : w9.cell? ⟨wr.heap.size, 0, none⟩ = some (.slice GA 0 gc) := (World.cell?_of_block (a := ⟨wr.heap.size, 0, none⟩) (hb9 wr.heap.size ly)).trans cy
          clear Ry Fy Gy cy E1 E4 hb9
          go_wp2_with fail
          go_roundw
          case rel => exact ⟨(l : Int) + 1, by omega, by omega, rfl, e9⟩
          case measure => simp [intOf]; omega
      · have hrow0 : rowI rows z = [] := rowI_out (by rw [hM]; exact hin)
        obtain ⟨row, hrow⟩ : ∃ row : List Nat, row = [] := ⟨_, rfl⟩
        have HRW := Lib.hid (show row = rowI rows z by rw [hrow, hrow0])
        have ef : firstI row = -1 := by rw [hrow]; rfl
        have el : lastI row = -1 := by rw [hrow]; rfl
        have hgn : row.length = 0 := by rw [hrow]; rfl
        have HFL := Lib.hid (And.intro ef el)
        obtain ⟨GA, hGA⟩ : ∃ GA : Option Addr, GA = none := ⟨_, rfl⟩
        obtain ⟨gn, hgn0⟩ : ∃ gn : Nat, gn = 0 := ⟨_, rfl⟩
        obtain ⟨gc, hgc0⟩ : ∃ gc : Nat, gc = 0 := ⟨_, rfl⟩
        have k2' : RowAt wr (fun y => P y ∧ y < wr.heap.size) none 0 0 row := ⟨hgn, Nat.le_refl _, by omega, fun _ => rfl, by omega⟩
        subst hGA hgn0 hgc0
        clear ef el hrow hrow0
        by_cases hzn : z < 0
        · have hzn' : ¬ 0 ≤ z := by omega
          go_wp2_with fail
          refine wp_abs (fun Wx => Rr Wx B rb lb mb N M rows ∧ RefAt Wx P (.agg #[.int .i64 (N : Int), .slice A M c]) N rows ∧ RowAt Wx (fun x => P x ∧ x < wr.heap.size) none 0 0 row ∧ Wx.cell? ⟨wr.heap.size, 0, none⟩ = some (.slice none 0 0) ∧ wr.heap.size < Wx.heap.size ∧ Ext W1 Wx ∧ Ext wr Wx) ⟨Rw.kept ((Ext.refl wr).alloc _), Fw.ext ((Ext.refl wr).alloc _), RowAt.ext k2' ((Ext.refl wr).alloc _), by simp, by simp, er.trans ((Ext.refl wr).alloc _), ((Ext.refl wr).alloc _)⟩ ?_
          rintro wx ⟨Rx, Fx, Gx, cx, lx, ex, ey⟩
          have HS := Lib.hid (show ∀ W' : World, Ext wx W' → W'.cell? ⟨wr.heap.size, 0, none⟩ = some (.slice none 0 0) from fun W' he => (he.cell (p := ⟨wr.heap.size, 0, none⟩) lx).trans cx)
          go_region_held3 (fun W' => W'.cell? ⟨wr.heap.size, 0, none⟩ = some (.slice none 0 0))
            (exact HS.out _ (by (repeat (first | with_reducible exact Ext.refl _ | with_reducible assumption | with_reducible apply Ext.drew | with_reducible apply Ext.drewN | with_reducible apply Ext.alloc | (with_reducible refine Ext.setCell ?_ (by simp <;> omega) _) | (with_reducible refine Ext.trans ?_ (by with_reducible assumption))))))
            (first
              | (go_at_call 18; (with_reducible refine (Len_any z wx.drew (Rx.kept (Ext.refl wx).drew)).mono ?_); rintro e z1 ⟨he, hz1⟩; have hz2 := hz1.symm; clear hz1; subst hz2; rw [← HRW.out, hgn] at he; subst he)
              | (go_at_call 19; (with_reducible refine (First_any z wx.drew (Rx.kept (Ext.refl wx).drew)).mono ?_); rintro e y1 ⟨he, yy1⟩; rw [← HRW.out, HFL.out.1] at he; subst he; have Y1 : Ext wx y1 := (Ext.refl wx).drew.trans yy1)
              | (go_at_call 22; (with_reducible refine (Last_any z y1 (Rx.kept Y1)).mono ?_); rintro e y2 ⟨he, yy2⟩; rw [← HRW.out, HFL.out.2] at he; subst he; have Y2 : Ext wx y2 := Y1.trans yy2))
          rename_i hH
          clear hH
          have Ry := Rx.kept Y2
          have Fy := Fx.ext Y2
          have Gy := Gx.ext Y2
          have cy := HS.out y2 Y2
          have ly : wr.heap.size < y2.heap.size := Nat.lt_of_lt_of_le lx Y2.sz
          have sw : wr.heap.size ≤ y2.heap.size := (ey.trans Y2).sz
          have nbk : rb < wr.heap.size ∧ lb < wr.heap.size ∧ mb < wr.heap.size := HRr.out
          have E1 : Ext W1 y2 := ex.trans Y2
          clear Rx Fx Gx cx lx ex ey Y1 HS
          go_wp2_with fail
          refine (nodes_fn rb z _).mono ?_
          rintro e z1 ⟨rfl, hz1⟩
          subst hz1
          have E4 : Ext y2 ((((y2.alloc (.cells #[.int .i64 0] 3)).alloc (.cells #[.bool true] 4)).alloc (.cells #[.pointer (some ⟨rb, 0, none⟩)] 24)).alloc (.cells #[.int .i64 z] 3)) := ((((Ext.refl y2).alloc _).alloc _).alloc _).alloc _
          go_wp2_with fail
          refine (nodes_is (rows := rows) z (y2.heap.size + 1) y2.heap.size wr.heap.size (y2.heap.size + 1 + 1) (y2.heap.size + 1 + 1 + 1) (fun x => P x ∧ x < wr.heap.size) none 0 0 _ (Ry.kept E4) (by rw [← HRW.out]; exact Gy.ext E4) (fun h => by have := h.2; omega) (fun h => by have := h.2; omega) ((four2 ..).trans rfl) ((four1 ..).trans rfl) ((E4.cell (p := ⟨wr.heap.size, 0, none⟩) ly).trans cy) (four2z ..) (four1z ..) ((four3 ..).trans rfl) ((four4 ..).trans rfl) (by omega) ⟨by omega, by omega⟩ ⟨by omega, by omega⟩ ⟨by omega, by omega⟩ ⟨by omega, by omega⟩ ⟨by omega, by omega⟩ ⟨by omega, by omega⟩).mono ?_
          rintro e w9 ⟨rfl, o9, k9, C9⟩
          have hb9 : ∀ x, x < y2.heap.size → w9.heap[x]? = y2.heap[x]? := fun x hx => (C9.blk x (by simp; omega) (by omega) (by omega)).trans (E4.blk hx)
          have e9 : Ext W1 w9 := E1.step ((E4.below.mono (Nat.le_refl _)).trans (C9.below (B := y2.heap.size) E4.sz (by omega) (by omega))) E1.sz
          have c9 : w9.cell? ⟨wr.heap.size, 0, none⟩ = some (.slice none 0 0) := (World.cell?_of_block (a := ⟨wr.heap.size, 0, none⟩) (hb9 wr.heap.size ly)).trans cy
          clear Ry Fy Gy cy E1 E4 hb9
          go_wp2_with fail
          go_roundw
          case rel => exact ⟨z + 1, by omega, by omega, rfl, e9⟩
          case measure => simp [intOf]; omega
        · have hz0 : 0 ≤ z := by omega
          have hzM2 : ¬ z < (M : Int) := by omega
          have hzM3 : (M : Int) ≤ z := by omega
          go_wp2_with fail
          refine wp_abs (fun Wx => Rr Wx B rb lb mb N M rows ∧ RefAt Wx P (.agg #[.int .i64 (N : Int), .slice A M c]) N rows ∧ RowAt Wx (fun x => P x ∧ x < wr.heap.size) none 0 0 row ∧ Wx.cell? ⟨wr.heap.size, 0, none⟩ = some (.slice none 0 0) ∧ wr.heap.size < Wx.heap.size ∧ Ext W1 Wx ∧ Ext wr Wx) ⟨Rw.kept ((Ext.refl wr).alloc _), Fw.ext ((Ext.refl wr).alloc _), RowAt.ext k2' ((Ext.refl wr).alloc _), by simp, by simp, er.trans ((Ext.refl wr).alloc _), ((Ext.refl wr).alloc _)⟩ ?_
          rintro wx ⟨Rx, Fx, Gx, cx, lx, ex, ey⟩
          have HS := Lib.hid (show ∀ W' : World, Ext wx W' → W'.cell? ⟨wr.heap.size, 0, none⟩ = some (.slice none 0 0) from fun W' he => (he.cell (p := ⟨wr.heap.size, 0, none⟩) lx).trans cx)
          go_region_held3 (fun W' => W'.cell? ⟨wr.heap.size, 0, none⟩ = some (.slice none 0 0))
            (exact HS.out _ (by (repeat (first | with_reducible exact Ext.refl _ | with_reducible assumption | with_reducible apply Ext.drew | with_reducible apply Ext.drewN | with_reducible apply Ext.alloc | (with_reducible refine Ext.setCell ?_ (by simp <;> omega) _) | (with_reducible refine Ext.trans ?_ (by with_reducible assumption))))))
            (first
              | (go_at_call 18; (with_reducible refine (Len_any z wx.drew (Rx.kept (Ext.refl wx).drew)).mono ?_); rintro e z1 ⟨he, hz1⟩; have hz2 := hz1.symm; clear hz1; subst hz2; rw [← HRW.out, hgn] at he; subst he)
              | (go_at_call 19; (with_reducible refine (First_any z wx.drew (Rx.kept (Ext.refl wx).drew)).mono ?_); rintro e y1 ⟨he, yy1⟩; rw [← HRW.out, HFL.out.1] at he; subst he; have Y1 : Ext wx y1 := (Ext.refl wx).drew.trans yy1)
              | (go_at_call 22; (with_reducible refine (Last_any z y1 (Rx.kept Y1)).mono ?_); rintro e y2 ⟨he, yy2⟩; rw [← HRW.out, HFL.out.2] at he; subst he; have Y2 : Ext wx y2 := Y1.trans yy2))
          rename_i hH
          clear hH
          have Ry := Rx.kept Y2
          have Fy := Fx.ext Y2
          have Gy := Gx.ext Y2
          have cy := HS.out y2 Y2
          have ly : wr.heap.size < y2.heap.size := Nat.lt_of_lt_of_le lx Y2.sz
          have sw : wr.heap.size ≤ y2.heap.size := (ey.trans Y2).sz
          have nbk : rb < wr.heap.size ∧ lb < wr.heap.size ∧ mb < wr.heap.size := HRr.out
          have E1 : Ext W1 y2 := ex.trans Y2
          clear Rx Fx Gx cx lx ex ey Y1 HS
          go_wp2_with fail
          refine (nodes_fn rb z _).mono ?_
          rintro e z1 ⟨rfl, hz1⟩
          subst hz1
          have E4 : Ext y2 ((((y2.alloc (.cells #[.int .i64 0] 3)).alloc (.cells #[.bool true] 4)).alloc (.cells #[.pointer (some ⟨rb, 0, none⟩)] 24)).alloc (.cells #[.int .i64 z] 3)) := ((((Ext.refl y2).alloc _).alloc _).alloc _).alloc _
          go_wp2_with fail
          refine (nodes_is (rows := rows) z (y2.heap.size + 1) y2.heap.size wr.heap.size (y2.heap.size + 1 + 1) (y2.heap.size + 1 + 1 + 1) (fun x => P x ∧ x < wr.heap.size) none 0 0 _ (Ry.kept E4) (by rw [← HRW.out]; exact Gy.ext E4) (fun h => by have := h.2; omega) (fun h => by have := h.2; omega) ((four2 ..).trans rfl) ((four1 ..).trans rfl) ((E4.cell (p := ⟨wr.heap.size, 0, none⟩) ly).trans cy) (four2z ..) (four1z ..) ((four3 ..).trans rfl) ((four4 ..).trans rfl) (by omega) ⟨by omega, by omega⟩ ⟨by omega, by omega⟩ ⟨by omega, by omega⟩ ⟨by omega, by omega⟩ ⟨by omega, by omega⟩ ⟨by omega, by omega⟩).mono ?_
          rintro e w9 ⟨rfl, o9, k9, C9⟩
          have hb9 : ∀ x, x < y2.heap.size → w9.heap[x]? = y2.heap[x]? := fun x hx => (C9.blk x (by simp; omega) (by omega) (by omega)).trans (E4.blk hx)
          have e9 : Ext W1 w9 := E1.step ((E4.below.mono (Nat.le_refl _)).trans (C9.below (B := y2.heap.size) E4.sz (by omega) (by omega))) E1.sz
          have c9 : w9.cell? ⟨wr.heap.size, 0, none⟩ = some (.slice none 0 0) := (World.cell?_of_block (a := ⟨wr.heap.size, 0, none⟩) (hb9 wr.heap.size ly)).trans cy
          clear Ry Fy Gy cy E1 E4 hb9
          go_wp2_with fail
          go_roundw
          case rel => exact ⟨z + 1, by omega, by omega, rfl, e9⟩
          case measure => simp [intOf]; omega
    · obtain rfl : z = (M : Int) + 1 := by omega
      have q9 : ¬ (M : Int) + 1 ≤ (M : Int) := by omega
      have Rw := R1.kept er
      have Fw := F1.ext er
      clear R1 F1
      generalize wr = w2 at *
      go_wp2_with fail
      go_loopw [11] (fun i wr' => ∃ z : Int, -1 ≤ z ∧ z ≤ (N : Int) + 1 ∧ i = .int .i64 z ∧ Ext w2 wr') (fun i _ => ((N : Int) + 1 - intOf i).toNat)
      case atStart => exact ⟨-1, by omega, by omega, rfl, Ext.refl _⟩
      case round =>
        obtain ⟨z, hz1, hz2, rfl, ex⟩ := hrel
        have b0 := (HT.out wr (er.trans ex)).1
        have b1 := (HT.out wr (er.trans ex)).2
        by_cases hzN : z ≤ (N : Int)
        · have Rx := Rw.kept ex
          have Fx := Fw.ext ex
          have wz : IntKind.i64.wrap (z + 1) = z + 1 := IntWalk.i64_in _ (by omega)
          by_cases hin : 0 ≤ z ∧ z.toNat ∈ rows.flatten
          · obtain ⟨x, rfl⟩ := Int.eq_ofNat_of_zero_le hin.1
            have hxf : x ∈ rows.flatten := by simpa using hin.2
            obtain ⟨l, hl⟩ : ∃ l, l = listOf rows x := ⟨_, rfl⟩
            obtain ⟨i, hi⟩ : ∃ i, i = posOf rows x := ⟨_, rfl⟩
            obtain ⟨row, hrow⟩ : ∃ row, row = rowAt rows l := ⟨_, rfl⟩
            have hfind : findS rows (x : Int) = ((l : Int), (i : Int)) := by unfold findS; rw [if_pos hin, Int.toNat_natCast, ← hl, ← hi]
            have elist : listS rows (x : Int) = (l : Int) := by unfold listS; rw [if_pos hin, Int.toNat_natCast, ← hl]
            have enext : nextS rows (x : Int) = firstI (row.drop (i + 1)) := by unfold nextS; rw [if_pos hin, Int.toNat_natCast, ← hl, ← hi, ← hrow]
            have eprev : prevS rows (x : Int) = lastI (row.take i) := by unfold prevS; rw [if_pos hin, Int.toNat_natCast, ← hl, ← hi, ← hrow]
            have hlM : l < M := by rw [hl, ← hM]; exact listOf_lt hxf
            have hir : i < row.length := by rw [hi, hrow]; unfold posOf; rw [← hl]; exact List.idxOf_lt_length_of_mem (by rw [hl]; exact listOf_mem hxf)
            have hlM' : (l : Int) < (M : Int) := by omega
            obtain ⟨xo, rfl, hx, hc⟩ := HC.out (by omega)
            obtain ⟨GA, gn, gc, k1, k2⟩ := hc l hlM
            rw [← hrow] at k2
            have E2 := (E0.trans er).trans ex
            have k1' := (E2.cell (p := ⟨xo, l, none⟩) (block_lt_of_cell k1)).trans k1
            have hgn := k2.1
            have hgc := k2.2.1
            obtain ⟨y, rfl, hy, hyc⟩ := k2.2.2.2.2 (by omega)
            have HY := Lib.hid (show ∀ j, j < gn → wr.cell? ⟨y, j, none⟩ = some (.int .i64 ((row.getD j 0 : Nat) : Int)) from fun j hj => (E2.cell (p := ⟨y, j, none⟩) (block_lt_of_cell (hyc j hj))).trans (hyc j hj))
            have g64 : gn ≤ 64 := by have := hR64 l; rw [← hrow] at this; omega
            have wi : IntKind.i64.wrap ((i : Int) + 1) = (i : Int) + 1 := IntWalk.i64_in _ (by omega)
            have HE := Lib.hid (And.intro elist (And.intro enext eprev))
            have HF := Lib.hid hfind
            have hif := firstI_drop (r := row) (i := i + 1)
            have hle := firstI_end (r := row) (i := i + 1)
            have hlt := lastI_take (r := row) (i := i - 1)
            have HI := Lib.hid (And.intro hif (And.intro hle hlt))
            have hx0 : (0 : Int) ≤ (l : Int) := by omega
            clear hin hxf hl hi hrow hfind elist enext eprev hc k1 k2 hyc hif hle hlt
            by_cases i0 : 0 < i
            · have y0 := HY.out (i - 1) (by omega)
              have hpv := HI.out.2.2 (by omega)
              rw [show i - 1 + 1 = i by omega] at hpv
              rw [← hpv] at y0
              obtain ⟨pv, hpv2⟩ : ∃ pv, pv = lastI (row.take i) := ⟨_, rfl⟩
              rw [← hpv2] at y0
              have HP := Lib.hid hpv2
              have i0' : (0 : Int) < (i : Int) := by omega
              have wj : IntKind.i64.wrap ((i : Int) - 1) = (i : Int) - 1 := IntWalk.i64_in _ (by omega)
              have tj : ((i : Int) - 1).toNat = i - 1 := by omega
              have j0 : 0 ≤ (i : Int) - 1 := by omega
              have j1 : (i : Int) - 1 < (gn : Int) := by omega
              clear hpv hpv2
              by_cases i1 : i + 1 < gn
              · have i1' : (i : Int) + 1 < (gn : Int) := by omega
                have y1 := HY.out (i + 1) i1
                rw [← HI.out.1 (by omega)] at y1
                obtain ⟨nx, hnx⟩ : ∃ nx, nx = firstI (row.drop (i + 1)) := ⟨_, rfl⟩
                rw [← hnx] at y1
                have HN := Lib.hid hnx
                clear hnx
                go_wp2_with fail
                refine (Find_any (rows := rows) (L := P) (N := N) _ (x : Int) wr Fx).mono ?_
                rintro e w4 ⟨he, y4⟩
                rw [HF.out] at he
                dsimp only at he
                subst he
                have Ry := Rx.kept y4
                have b0' := (HT.out w4 ((er.trans ex).trans y4)).1
                have b1' := (HT.out w4 ((er.trans ex).trans y4)).2
                have k1'' := (y4.cell (p := ⟨xo, l, none⟩) (block_lt_of_cell k1')).trans k1'
                first | have y0' := (y4.cell (p := ⟨y, i - 1, none⟩) (block_lt_of_cell y0)).trans y0 | skip
                first | have y1' := (y4.cell (p := ⟨y, i + 1, none⟩) (block_lt_of_cell y1)).trans y1 | have y1' := (y4.cell (p := ⟨y, 0 + 1, none⟩) (block_lt_of_cell y1)).trans y1 | skip
                go_wp2_with fail
                refine (List_any (x : Int) w4 Ry).mono ?_
                rintro e z1 ⟨he, hz1⟩
                have hz2 := hz1.symm; clear hz1; subst hz2
                rw [HE.out.1] at he
                subst he
                go_wp2_with fail
                refine (Next_any (x : Int) w4 Ry).mono ?_
                rintro e z1 ⟨he, hz1⟩
                have hz2 := hz1.symm; clear hz1; subst hz2
                rw [HE.out.2.1, HN.out.symm] at he
                subst he
                go_wp2_with fail
                refine (Prev_any (x : Int) w4 Ry).mono ?_
                rintro e z1 ⟨he, hz1⟩
                have hz2 := hz1.symm; clear hz1; subst hz2
                rw [HE.out.2.2, HP.out.symm] at he
                subst he
                go_wp2_with fail
                go_roundw
                case rel => exact ⟨(x : Int) + 1, by omega, by omega, rfl, ex.trans y4⟩
                case measure => simp [intOf]; omega
              · have i1' : (gn : Int) ≤ (i : Int) + 1 := by omega
                have HN := Lib.hid (HI.out.2.1 (by omega))
                go_wp2_with fail
                refine (Find_any (rows := rows) (L := P) (N := N) _ (x : Int) wr Fx).mono ?_
                rintro e w4 ⟨he, y4⟩
                rw [HF.out] at he
                dsimp only at he
                subst he
                have Ry := Rx.kept y4
                have b0' := (HT.out w4 ((er.trans ex).trans y4)).1
                have b1' := (HT.out w4 ((er.trans ex).trans y4)).2
                have k1'' := (y4.cell (p := ⟨xo, l, none⟩) (block_lt_of_cell k1')).trans k1'
                first | have y0' := (y4.cell (p := ⟨y, i - 1, none⟩) (block_lt_of_cell y0)).trans y0 | skip
                first | have y1' := (y4.cell (p := ⟨y, i + 1, none⟩) (block_lt_of_cell y1)).trans y1 | have y1' := (y4.cell (p := ⟨y, 0 + 1, none⟩) (block_lt_of_cell y1)).trans y1 | skip
                go_wp2_with fail
                refine (List_any (x : Int) w4 Ry).mono ?_
                rintro e z1 ⟨he, hz1⟩
                have hz2 := hz1.symm; clear hz1; subst hz2
                rw [HE.out.1] at he
                subst he
                go_wp2_with fail
                refine (Next_any (x : Int) w4 Ry).mono ?_
                rintro e z1 ⟨he, hz1⟩
                have hz2 := hz1.symm; clear hz1; subst hz2
                rw [HE.out.2.1, HN.out] at he
                subst he
                go_wp2_with fail
                refine (Prev_any (x : Int) w4 Ry).mono ?_
                rintro e z1 ⟨he, hz1⟩
                have hz2 := hz1.symm; clear hz1; subst hz2
                rw [HE.out.2.2, HP.out.symm] at he
                subst he
                go_wp2_with fail
                go_roundw
                case rel => exact ⟨(x : Int) + 1, by omega, by omega, rfl, ex.trans y4⟩
                case measure => simp [intOf]; omega
            · obtain rfl : i = 0 := by omega
              have hp0 : lastI (row.take 0) = -1 := rfl
              have HP := Lib.hid hp0
              clear hp0 i0
              by_cases i1 : 0 + 1 < gn
              · have i1' : (1 : Int) < (gn : Int) := by omega
                have y1 := HY.out (0 + 1) i1
                rw [← HI.out.1 (by omega)] at y1
                obtain ⟨nx, hnx⟩ : ∃ nx, nx = firstI (row.drop (0 + 1)) := ⟨_, rfl⟩
                rw [← hnx] at y1
                have HN := Lib.hid hnx
                clear hnx
                go_wp2_with fail
                refine (Find_any (rows := rows) (L := P) (N := N) _ (x : Int) wr Fx).mono ?_
                rintro e w4 ⟨he, y4⟩
                rw [HF.out] at he
                dsimp only at he
                subst he
                have Ry := Rx.kept y4
                have b0' := (HT.out w4 ((er.trans ex).trans y4)).1
                have b1' := (HT.out w4 ((er.trans ex).trans y4)).2
                have k1'' := (y4.cell (p := ⟨xo, l, none⟩) (block_lt_of_cell k1')).trans k1'
                first | have y0' := (y4.cell (p := ⟨y, i - 1, none⟩) (block_lt_of_cell y0)).trans y0 | skip
                first | have y1' := (y4.cell (p := ⟨y, i + 1, none⟩) (block_lt_of_cell y1)).trans y1 | have y1' := (y4.cell (p := ⟨y, 0 + 1, none⟩) (block_lt_of_cell y1)).trans y1 | skip
                go_wp2_with fail
                refine (List_any (x : Int) w4 Ry).mono ?_
                rintro e z1 ⟨he, hz1⟩
                have hz2 := hz1.symm; clear hz1; subst hz2
                rw [HE.out.1] at he
                subst he
                go_wp2_with fail
                refine (Next_any (x : Int) w4 Ry).mono ?_
                rintro e z1 ⟨he, hz1⟩
                have hz2 := hz1.symm; clear hz1; subst hz2
                rw [HE.out.2.1, HN.out.symm] at he
                subst he
                go_wp2_with fail
                refine (Prev_any (x : Int) w4 Ry).mono ?_
                rintro e z1 ⟨he, hz1⟩
                have hz2 := hz1.symm; clear hz1; subst hz2
                rw [HE.out.2.2, HP.out] at he
                subst he
                go_wp2_with fail
                go_roundw
                case rel => exact ⟨(x : Int) + 1, by omega, by omega, rfl, ex.trans y4⟩
                case measure => simp [intOf]; omega
              · have i1' : (gn : Int) ≤ 1 := by omega
                have HN := Lib.hid (HI.out.2.1 (by omega))
                go_wp2_with fail
                refine (Find_any (rows := rows) (L := P) (N := N) _ (x : Int) wr Fx).mono ?_
                rintro e w4 ⟨he, y4⟩
                rw [HF.out] at he
                dsimp only at he
                subst he
                have Ry := Rx.kept y4
                have b0' := (HT.out w4 ((er.trans ex).trans y4)).1
                have b1' := (HT.out w4 ((er.trans ex).trans y4)).2
                have k1'' := (y4.cell (p := ⟨xo, l, none⟩) (block_lt_of_cell k1')).trans k1'
                first | have y0' := (y4.cell (p := ⟨y, i - 1, none⟩) (block_lt_of_cell y0)).trans y0 | skip
                first | have y1' := (y4.cell (p := ⟨y, i + 1, none⟩) (block_lt_of_cell y1)).trans y1 | have y1' := (y4.cell (p := ⟨y, 0 + 1, none⟩) (block_lt_of_cell y1)).trans y1 | skip
                go_wp2_with fail
                refine (List_any (x : Int) w4 Ry).mono ?_
                rintro e z1 ⟨he, hz1⟩
                have hz2 := hz1.symm; clear hz1; subst hz2
                rw [HE.out.1] at he
                subst he
                go_wp2_with fail
                refine (Next_any (x : Int) w4 Ry).mono ?_
                rintro e z1 ⟨he, hz1⟩
                have hz2 := hz1.symm; clear hz1; subst hz2
                rw [HE.out.2.1, HN.out] at he
                subst he
                go_wp2_with fail
                refine (Prev_any (x : Int) w4 Ry).mono ?_
                rintro e z1 ⟨he, hz1⟩
                have hz2 := hz1.symm; clear hz1; subst hz2
                rw [HE.out.2.2, HP.out] at he
                subst he
                go_wp2_with fail
                go_roundw
                case rel => exact ⟨(x : Int) + 1, by omega, by omega, rfl, ex.trans y4⟩
                case measure => simp [intOf]; omega
          · have hfind : findS rows z = (-1, -1) := by unfold findS; rw [if_neg hin]
            have elist : listS rows z = -1 := by unfold listS; rw [if_neg hin]
            have enext : nextS rows z = -1 := by unfold nextS; rw [if_neg hin]
            have eprev : prevS rows z = -1 := by unfold prevS; rw [if_neg hin]
            have HE := Lib.hid (And.intro elist (And.intro enext eprev))
            have HF := Lib.hid hfind
            clear hin hfind elist enext eprev
            go_wp2_with fail
            refine (Find_any (rows := rows) (L := P) (N := N) _ z wr Fx).mono ?_
            rintro e w4 ⟨he, y4⟩
            rw [HF.out] at he
            dsimp only at he
            subst he
            have Ry := Rx.kept y4
            go_wp2_with fail
            refine (List_any z w4 Ry).mono ?_
            rintro e z1 ⟨he, hz1⟩
            have hz2 := hz1.symm; clear hz1; subst hz2
            rw [HE.out.1] at he
            subst he
            go_wp2_with fail
            refine (Next_any z w4 Ry).mono ?_
            rintro e z1 ⟨he, hz1⟩
            have hz2 := hz1.symm; clear hz1; subst hz2
            rw [HE.out.2.1] at he
            subst he
            go_wp2_with fail
            refine (Prev_any z w4 Ry).mono ?_
            rintro e z1 ⟨he, hz1⟩
            have hz2 := hz1.symm; clear hz1; subst hz2
            rw [HE.out.2.2] at he
            subst he
            go_wp2_with fail
            go_roundw
            case rel => exact ⟨z + 1, by omega, by omega, rfl, ex.trans y4⟩
            case measure => simp [intOf]; omega
        · obtain rfl : z = (N : Int) + 1 := by omega
          have q8 : ¬ (N : Int) + 1 ≤ (N : Int) := by omega
          go_wp2_with fail
          go_ret
          exact ⟨rfl, (E0.trans er).trans ex⟩
end Go.Proofs.Ytpcmfgkbfamdoaa
