/- A part of the proof of a law of roundel: contracts of functions and lemmas, each true as it stands; no condition beyond those that its theorems state. -/
import Derived.Test.YtnlcbilmalfjaaaRd
import Derived.Test.YtnlcbilmalfjaaaLp1
namespace Go.Proofs.Ytnlcbilmalfjaaa
set_option linter.unusedSimpArgs false
set_option linter.unusedVariables false
open Go.RowKit

section
variable {B nb tg rb lb mb N M : Nat} {rows : List (List Nat)} {T : Nat → Int}
theorem tag_in {x : Nat} (hxm : x ∈ rows.flatten) : tagS rows T (x : Int) = T x := by
  have e : listS rows (x : Int) = (listOf rows x : Int) := by
    unfold listS
    rw [if_pos ⟨by omega, by simpa using hxm⟩, Int.toNat_natCast]
  unfold tagS
  rw [e, if_neg (by omega), Int.toNat_natCast]
set_option maxRecDepth 100000 in
set_option maxHeartbeats 1600000 in
theorem is2_any (x i l ob kb wb bl bc gn gc y : Nat) (V : World) (hi : i < gn) (hg : gn ≤ 64) (hgc : gn ≤ gc) (hxm : x ∈ rows.flatten) (hl : listS rows (x : Int) = (l : Int)) (H : Ls V B nb tg rb lb mb N M rows T)
    (c1 : V.cell? ⟨ob, 0, none⟩ = some (.bool true)) (c2 : V.cell? ⟨kb, 0, none⟩ = some (.int .i64 (i : Int))) (c3 : V.cell? ⟨wb, 0, none⟩ = some (.slice (some ⟨y, 0, none⟩) gn gc)) (c4 : V.cell? ⟨bl, 0, none⟩ = some (.pointer (some ⟨nb, 0, none⟩))) (c5 : V.cell? ⟨bc, 0, none⟩ = some (.int .i64 (l : Int)))
    (y0 : V.cell? ⟨y, i * 2, none⟩ = some (.int .i64 (x : Int))) (y1 : V.cell? ⟨y, i * 2 + 1, none⟩ = some (.int .i64 (T x)))
    (f1 : V.frozen? ⟨ob, 0, none⟩ = false) (f2 : V.frozen? ⟨kb, 0, none⟩ = false) (n1 : ob ≠ kb) :
    Calls Try.prog 43 #[.int .i64 (x : Int), .pointer (some ⟨ob, 0, none⟩), .pointer (some ⟨kb, 0, none⟩), .pointer (some ⟨wb, 0, none⟩), .pointer (some ⟨bl, 0, none⟩), .pointer (some ⟨bc, 0, none⟩)] V fun e W' => e = .returned (.bool true) ∧
      ∃ q, W' = ((V.drewN q).setCell ⟨ob, 0, none⟩ (.bool true)).setCell ⟨kb, 0, none⟩ (.int .i64 ((i : Int) + 1)) := by
  have ht := tag_in (T := T) hxm
  have tsay : ∀ k, CallsIn Fence.wide 4 Try.prog 14 #[.pointer (some ⟨nb, 0, none⟩), .int .i64 (x : Int)] (V.drewN k) fun e w'' => e = .returned (.int .i64 (T x)) ∧ ∃ m, w'' = V.drewN m := fun k =>
    (callsIn_wide.2 (Tag_any (x : Int) _ (H.kept ((Ext.refl V).drewN k)))).mono (fun e w'' h => ⟨by rw [← ht]; exact h.1, k, h.2⟩)
  have csay : ∀ k, CallsIn Fence.wide 4 Try.prog 24 #[.pointer (some ⟨nb, 0, none⟩), .int .i64 (x : Int)] (V.drewN k) fun e w'' => e = .returned (.int .i64 (l : Int)) ∧ ∃ m, w'' = V.drewN m := fun k =>
    (callsIn_wide.2 (Core_any (x : Int) _ (H.kept ((Ext.refl V).drewN k)))).mono (fun e w'' h => ⟨by rw [← hl]; exact h.1, k, h.2⟩)
  have hfa : ∀ k, Fence.wide.fn k := fun _ => trivial
  have q1 : (i : Int) < (gn : Int) := by omega
  clear H hxm ht hl
  go_enter Try.func43, Try.ntmps43
  go_wp2_with fail
  refine region_tail_plain (n := 5) 34 (by kernel_rfl) (by kernel_rfl) ?_
  simp only [List.take_succ_cons, List.take_zero, List.drop_succ_cons, List.drop_zero]
  repeat (gi_big_quiet_step (first | exact tsay _ | exact csay _))
  refine wpQuietIn_nil ?_
  rintro w' ⟨q, rfl⟩
  have hcut : (V.drewN q).cell? ⟨ob, 0, none⟩ = some (.bool true) := c1
  gi_wp2_with fail
  obtain ⟨Wx, hWx⟩ : ∃ Wx, Wx = (V.drewN q).setCell ⟨ob, 0, none⟩ (.bool true) := ⟨_, rfl⟩
  rw [← hWx]
  have e2 : Wx.cell? ⟨ob, 0, none⟩ = some (.bool true) := by rw [hWx]; exact World.cell?_setCell_same (u := .bool true) _ _ _ c1
  have e3 : Wx.cell? ⟨kb, 0, none⟩ = some (.int .i64 (i : Int)) := by rw [hWx, World.cell?_setCell_other _ _ _ _ (by simp [n1])]; exact c2
  have g3 : Wx.frozen? ⟨kb, 0, none⟩ = false := by rw [hWx, World.frozen?_setCell]; exact f2
  have e4 : (Wx.setCell ⟨kb, 0, none⟩ (.int .i64 ((i : Int) + 1))).cell? ⟨ob, 0, none⟩ = some (.bool true) := (World.cell?_setCell_other _ _ _ _ (by simp [Ne.symm n1])).trans e2
  have HX := Lib.hid hWx
  clear hWx hcut c1 c2 c3 c4 c5 f1 f2 y0 y1 tsay csay
  go_wp2_with fail
  go_ret
  exact ⟨rfl, q, by rw [← HX.out]⟩

set_option maxHeartbeats 1600000 in
theorem nodes_is (z : Int) (ob kb wb b1 b2 bl bc : Nat) (P : Nat → Prop) (GA : Option Addr) (gn gc : Nat) (W : World) (row : List Nat) (hrow : row = rowI rows z) (hM : 0 < M) (hN : 0 < N) (H : Ls W B nb tg rb lb mb N M rows T) (hr : RowL W P GA gn gc T row) (hP1 : ¬ P ob) (hP2 : ¬ P kb)
    (h1 : W.cell? ⟨ob, 0, none⟩ = some (.bool true)) (h2 : W.cell? ⟨kb, 0, none⟩ = some (.int .i64 0)) (h3 : W.cell? ⟨wb, 0, none⟩ = some (.slice GA gn gc)) (h4 : W.cell? ⟨bl, 0, none⟩ = some (.pointer (some ⟨nb, 0, none⟩))) (h5 : W.cell? ⟨bc, 0, none⟩ = some (.int .i64 z)) (f1 : W.frozen? ⟨ob, 0, none⟩ = false) (f2 : W.frozen? ⟨kb, 0, none⟩ = false)
    (hb1 : W.cell? ⟨b1, 0, none⟩ = some (.pointer (some ⟨rb, 0, none⟩))) (hb2 : W.cell? ⟨b2, 0, none⟩ = some (.int .i64 z)) (n0 : ob ≠ kb) (n1 : ob ≠ wb ∧ kb ≠ wb) (n2 : ob ≠ b1 ∧ kb ≠ b1) (n3 : ob ≠ bl ∧ kb ≠ bl) (n3' : ob ≠ bc ∧ kb ≠ bc) (n4 : ob ≠ rb ∧ kb ≠ rb) (n5 : ob ≠ lb ∧ kb ≠ lb) (n6 : ob ≠ mb ∧ kb ≠ mb) (n7 : ob ≠ nb ∧ kb ≠ nb) (n8 : ob ≠ tg ∧ kb ≠ tg) :
    Calls Try.prog 33 #[.func (.func 43) #[] #[.pointer (some ⟨ob, 0, none⟩), .pointer (some ⟨kb, 0, none⟩), .pointer (some ⟨wb, 0, none⟩), .pointer (some ⟨bl, 0, none⟩), .pointer (some ⟨bc, 0, none⟩)], .pointer (some ⟨b1, 0, none⟩), .pointer (some ⟨b2, 0, none⟩)] W fun e W' => (∃ v, e = .returned v) ∧ W'.cell? ⟨ob, 0, none⟩ = some (.bool true) ∧ W'.cell? ⟨kb, 0, none⟩ = some (.int .i64 (gn : Int)) ∧ Rc ob kb W W' := by
  have hlen := hr.1
  have hin : ∀ x ∈ row, x ∈ rows.flatten ∧ listS rows (x : Int) = z ∧ ∃ l : Nat, z = (l : Int) := fun x hx => by
    by_cases hz : 0 ≤ z
    · obtain ⟨k, rfl⟩ := Int.eq_ofNat_of_zero_le hz
      rw [hrow, rowI_in] at hx
      by_cases hk : k < rows.length
      · have hxf := rowAt_mem hk hx
        refine ⟨hxf, ?_, k, rfl⟩
        obtain ⟨j, hj, hjx⟩ := List.getElem_of_mem hx
        obtain ⟨-, m2, -, -⟩ := H.rr.spot (l := k) (i := j) (x := x) (by rw [H.rr.small.1] at hk; exact hk) hj (by simp [List.getD, hj, hjx])
        unfold listS
        rw [if_pos ⟨by omega, by simpa using hxf⟩, Int.toNat_natCast, m2]
      · rw [rowAt_out (by omega)] at hx; simp at hx
    · rw [hrow, rowI_out (by omega)] at hx; simp at hx
  have hg64 : gn ≤ 64 := by
    rw [← hlen, hrow]
    by_cases hz : 0 ≤ z
    · obtain ⟨k, rfl⟩ := Int.eq_ofNat_of_zero_le hz
      rw [rowI_in]
      exact H.rr.small.2.2 k
    · rw [rowI_out (by omega)]; simp
  have keep : ∀ V, Rc ob kb W V → Ls V B nb tg rb lb mb N M rows T := fun V C => by
    obtain ⟨p0, p1, p2, p3, p4⟩ := H.lts
    have k1 := C.blk nb p0 (Ne.symm n7.1) (Ne.symm n7.2)
    have k2 := C.blk tg p1 (Ne.symm n8.1) (Ne.symm n8.2)
    exact ⟨H.rr.blk C.size (C.blk rb p2 (Ne.symm n4.1) (Ne.symm n4.2)) (C.blk lb p3 (Ne.symm n5.1) (Ne.symm n5.2)) (C.blk mb p4 (Ne.symm n6.1) (Ne.symm n6.2)), (World.cell?_of_block (a := ⟨nb, 0, none⟩) k1).trans H.c0, (World.cell?_of_block (a := ⟨nb, 1, none⟩) k1).trans H.c1, fun i hi => (World.cell?_of_block (a := ⟨tg, i, none⟩) k2).trans (H.t i hi), fun o => (World.frozen?_of_block (a := ⟨tg, o, none⟩) k2).trans (H.ft o), H.d1, H.d2, H.ge, ⟨Nat.lt_of_lt_of_le H.lt.1 C.size, Nat.lt_of_lt_of_le H.lt.2 C.size⟩⟩
  have cell : ∀ V, Rc ob kb W V → ∀ {b o : Nat} {v : Value}, W.cell? ⟨b, o, none⟩ = some v → ob ≠ b → kb ≠ b → V.cell? ⟨b, o, none⟩ = some v := fun V C b o v hc h1 h2 => (World.cell?_of_block (a := ⟨b, o, none⟩) (C.blk b (block_lt_of_cell hc) (Ne.symm h1) (Ne.symm h2))).trans hc
  refine (nodes_call 43 _ (enters_of Try.func43 (by kernel_rfl) rfl) z b1 b2 W row hrow
    (fun pre V => Rc ob kb W V ∧ V.cell? ⟨ob, 0, none⟩ = some (.bool true) ∧ V.cell? ⟨kb, 0, none⟩ = some (.int .i64 ((pre.length : Nat) : Int)) ∧ V.frozen? ⟨ob, 0, none⟩ = false ∧ V.frozen? ⟨kb, 0, none⟩ = false)
    (fun _ _ => False) H.rr ?_ hb1 hb2 ?_ ?_).mono ?_
  · rintro pre V ⟨C, -⟩
    exact ⟨(keep V C).rr, cell V C hb1 n2.1 n2.2⟩
  · rintro pre x V ⟨C, v1, v2, g1, g2⟩ hpre hx
    have hxr : x ∈ row := hpre.subset (by simp)
    obtain ⟨hxf, hls, l, rfl⟩ := hin x hxr
    have hpl : pre.length < gn := by have := hpre.length_le; simp at this; omega
    obtain ⟨y, rfl, hy, hyc⟩ := hr.2.2.2.2 (by omega)
    obtain ⟨y0, y1⟩ := hyc pre.length hpl
    have ey : row.getD pre.length 0 = x := by
      obtain ⟨t, ht⟩ := hpre
      rw [← ht]
      simp [List.getD]
    rw [ey] at y0 y1
    have ny1 : ob ≠ y := fun e => hP1 (e ▸ hy)
    have ny2 : kb ≠ y := fun e => hP2 (e ▸ hy)
    refine (is2_any x pre.length l ob kb wb bl bc gn gc y V hpl hg64 hr.2.1 hxf hls (keep V C) v1 v2 (cell V C h3 n1.1 n1.2) (cell V C h4 n3.1 n3.2) (cell V C h5 n3'.1 n3'.2) (cell V C y0 ny1 ny2) (cell V C y1 ny1 ny2) g1 g2 n0).mono ?_
    rintro e V' ⟨rfl, q, rfl⟩
    refine ⟨true, rfl, .inl ⟨rfl, ?_, ?_, ?_, by simpa using g1, by simpa using g2⟩⟩
    · have s1 : ∀ (U : World) (b : Nat) (v : Value), b = ob ∨ b = kb → Rc ob kb U (U.setCell ⟨b, 0, none⟩ v) := fun U b v hb => ⟨rfl, rfl, rfl, by simp, fun x hx e1 e2 => Below.heap_setCell _ _ _ _ (by rcases hb with h | h <;> simp [h] <;> assumption)⟩
      exact ((C.trans (Rc.of_ext ob kb ((Ext.refl V).drewN q))).trans (s1 _ _ _ (.inl rfl))).trans (s1 _ _ _ (.inr rfl))
    · rw [World.cell?_setCell_other _ _ _ _ (by simp [Ne.symm n0])]
      exact World.cell?_setCell_same (u := .bool true) _ _ _ v1
    · rw [List.length_append]
      refine (World.cell?_setCell_same (u := .int .i64 (pre.length : Int)) _ _ _ ?_).trans (by simp)
      rw [World.cell?_setCell_other _ _ _ _ (by simp [n0])]
      exact v2
  · intro W' he
    exact ⟨Rc.of_ext ob kb he, (he.cell (p := ⟨ob, 0, none⟩) (block_lt_of_cell h1)).trans h1, (he.cell (p := ⟨kb, 0, none⟩) (block_lt_of_cell h2)).trans h2, (he.cells.2 _ _ (block_lt_of_cell h1)).trans f1, (he.cells.2 _ _ (block_lt_of_cell h2)).trans f2⟩
  · rintro e V ⟨hv, ⟨C, v1, v2, -⟩ | ⟨pre, -, h⟩⟩
    · exact ⟨hv, v1, by rw [v2, hlen], C⟩
    · exact h.elim
end
end Go.Proofs.Ytnlcbilmalfjaaa
