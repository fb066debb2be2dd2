/- A part of the proof of a law of roundel: contracts of functions and lemmas, each true as it stands; no condition beyond those that its theorems state. -/
import Derived.Test.YtpcmfgkbfamdoaaRDrop
namespace Go.Proofs.Ytpcmfgkbfamdoaa
set_option linter.unusedSimpArgs false
set_option linter.unusedVariables false
open Go.RowKit

theorem after3 (W w4 : World) {N n c l : Nat} {x : Nat} {a : Option Addr} {u0 : Value} (hx : x < W.heap.size) (h : Ext W w4 ∧ w4.cell? ⟨W.heap.size, 0, none⟩ = some (.int .i64 (N : Int)) ∧ w4.cell? ⟨W.heap.size, 1, none⟩ = some (.slice a n c) ∧ w4.cell? ⟨x, l, none⟩ = some u0) (u v : Value) :
    Ext W ((w4.setCell ⟨W.heap.size + 1, 0, none⟩ u).setCell ⟨W.heap.size + 1, 1, none⟩ v) ∧ ((w4.setCell ⟨W.heap.size + 1, 0, none⟩ u).setCell ⟨W.heap.size + 1, 1, none⟩ v).cell? ⟨W.heap.size, 0, none⟩ = some (.int .i64 (N : Int)) ∧ ((w4.setCell ⟨W.heap.size + 1, 0, none⟩ u).setCell ⟨W.heap.size + 1, 1, none⟩ v).cell? ⟨W.heap.size, 1, none⟩ = some (.slice a n c) ∧ ((w4.setCell ⟨W.heap.size + 1, 0, none⟩ u).setCell ⟨W.heap.size + 1, 1, none⟩ v).cell? ⟨x, l, none⟩ = some u0 := by
  have hne : W.heap.size + 1 ≠ x := by omega
  refine ⟨(h.1.setCell (p := ⟨W.heap.size + 1, 0, none⟩) (by simp) u).setCell (p := ⟨W.heap.size + 1, 1, none⟩) (by simp) v, ?_, ?_, ?_⟩
  · rw [World.cell?_setCell_other _ _ _ _ (by simp), World.cell?_setCell_other _ _ _ _ (by simp)]; exact h.2.1
  · rw [World.cell?_setCell_other _ _ _ _ (by simp), World.cell?_setCell_other _ _ _ _ (by simp)]; exact h.2.2.1
  · rw [World.cell?_setCell_other _ _ _ _ (by simp [hne]), World.cell?_setCell_other _ _ _ _ (by simp [hne])]; exact h.2.2.2
/-- The document's lists behind an error: those that came in. -/
theorem RefAt.after {W u : World} {L : Nat → Prop} {N n c : Nat} {A : Option Addr} {rows : List (List Nat)} (H : RefAt W L (.agg #[.int .i64 (N : Int), .slice A n c]) N rows) (e : Ext W u) (x y : Value) :
    RefAt ((u.setCell ⟨W.heap.size + 1, 0, none⟩ x).setCell ⟨W.heap.size + 1, 1, none⟩ y) L (.agg #[.int .i64 (N : Int), .slice A n c]) N rows ∧ Ext W ((u.setCell ⟨W.heap.size + 1, 0, none⟩ x).setCell ⟨W.heap.size + 1, 1, none⟩ y) := by
  have e2 := (e.setCell (p := ⟨W.heap.size + 1, 0, none⟩) (by simp) x).setCell (p := ⟨W.heap.size + 1, 1, none⟩) (by simp) y
  exact ⟨H.ext e2, e2⟩

set_option maxRecDepth 100000 in
set_option maxHeartbeats 1600000 in
theorem RPush_any (L : Nat → Prop) (N : Nat) (rows : List (List Nat)) (v : Value) (list node : Int) (lead : Bool) (hM : rows.length ≤ 64) (hR : ∀ l, (rowAt rows l).length ≤ 64) (W : World) (hL : ∀ x, W.heap.size ≤ x → L x) (H : RefAt W L v N rows) :
    Calls Try.prog 25 #[v, .int .i64 list, .int .i64 node, .bool lead] W fun e W' => ∃ v', e = .returned (.tuple #[v', .int .i64 (pushS N rows list node lead).2]) ∧ RefAt W' L v' N (pushS N rows list node lead).1 ∧ Ext W W' := by
  have H0 := Lib.hid H
  obtain ⟨A, n, c, rfl, h1, h2, h3, h4, h5⟩ := H
  have E2 : Ext W ((W.alloc (.cells #[.int .i64 (N : Int), .slice A n c] 30)).alloc (.cells #[.int .i64 0, .slice none 0 0] 30)) := ((Ext.refl W).alloc _).alloc _
  have E3 : Ext W ((W.alloc (.cells #[.int .i64 (N : Int), .slice A n c] 30)).alloc (.cells #[.int .i64 (N : Int), .slice A n c] 30)) := ((Ext.refl W).alloc _).alloc _
  by_cases p1 : 0 ≤ list ∧ list < (rows.length : Int)
  · obtain ⟨l, rfl⟩ := Int.eq_ofNat_of_zero_le p1.1
    have hl : l < rows.length := by omega
    have q1 : (l : Int) < (n : Int) := by omega
    by_cases p2 : 0 ≤ node ∧ node < (N : Int)
    · obtain ⟨m, rfl⟩ := Int.eq_ofNat_of_zero_le p2.1
      have hm : m < N := by omega
      by_cases p3 : m ∈ rows.flatten
      · have hs : pushS N rows (l : Int) (m : Int) lead = (rows, 10) := by
          unfold pushS
          rw [if_pos p1, if_pos p2, if_pos (by simpa using p3)]
        rw [hs]
        have HDc := Lib.hid (decide_eq_true p3)
        clear p1 p2 p3 hs h5
        go_enter Try.func25, Try.ntmps25
        go_wp2_with fail
        refine (wrong_in (rows := rows) (L := L) _ m false hm _ (H0.out.ext E2)).mono ?_
        rintro e u1 ⟨he, y1⟩
        obtain ⟨z0, z0f⟩ := Ext.cells y1
        have zs := y1.sz
        have b0 : u1.cell? ⟨W.heap.size, 0, none⟩ = some (.int .i64 (N : Int)) := (z0 _ _ (by simp <;> omega)).trans ((two1 ..).trans rfl)
        have b1 : u1.cell? ⟨W.heap.size, 1, none⟩ = some (.slice A n c) := (z0 _ _ (by simp <;> omega)).trans ((two1 ..).trans rfl)
        have d0 : u1.cell? ⟨W.heap.size + 1, 0, none⟩ = some (.int .i64 0) := (z0 _ _ (by simp <;> omega)).trans ((two2 ..).trans rfl)
        have d1 : u1.cell? ⟨W.heap.size + 1, 1, none⟩ = some (.slice none 0 0) := (z0 _ _ (by simp <;> omega)).trans ((two2 ..).trans rfl)
        have fz : ∀ o, u1.frozen? ⟨W.heap.size + 1, o, none⟩ = false := fun o => (z0f _ _ (by simp <;> omega)).trans (two2z ..)
        have ex : Ext W u1 := E2.trans y1
        rw [HDc.out] at he
        simp only [Bool.true_eq_false, if_false] at he
        subst he
        go_wp2_with fail
        (try simp only [Exit.inBlock, Exit.then])
        refine bodyPost_ret (v := .tuple #[.agg #[.int .i64 (N : Int), .slice A n c], .int .i64 10]) (by rw [results_cell_tmp rfl]; go_simp) rfl ?_
        exact ⟨_, rfl, (H0.out.after ex _ _).1, (H0.out.after ex _ _).2⟩
      · have hs : pushS N rows (l : Int) (m : Int) lead = (rows.set l (if lead then m :: rowAt rows l else rowAt rows l ++ [m]), 0) := by
          unfold pushS
          rw [if_pos p1, if_pos p2, if_neg (by simpa using p3)]
          simp
        rw [hs]
        have HDc := Lib.hid (decide_eq_false p3)
        obtain ⟨x, rfl, hx, hc⟩ := h5 (by omega)
        obtain ⟨GA, gn, gc, k1, k2⟩ := hc l (by omega)
        have hgn := k2.1
        have hxl := block_lt_of_cell k1
        have K2 := Lib.hid k2
        clear p1 p2 p3 hs h5 hc k2
        cases lead with
        | true =>
          go_enter Try.func25, Try.ntmps25
          go_wp2_with fail
          refine (wrong_in (rows := rows) (L := L) _ m false hm _ (H0.out.ext E2)).mono ?_
          rintro e u1 ⟨he, y1⟩
          obtain ⟨z0, z0f⟩ := Ext.cells y1
          have zs := y1.sz
          have b0 : u1.cell? ⟨W.heap.size, 0, none⟩ = some (.int .i64 (N : Int)) := (z0 _ _ (by simp <;> omega)).trans ((two1 ..).trans rfl)
          have b1 : u1.cell? ⟨W.heap.size, 1, none⟩ = some (.slice (some ⟨x, 0, none⟩) n c) := (z0 _ _ (by simp <;> omega)).trans ((two1 ..).trans rfl)
          have d0 : u1.cell? ⟨W.heap.size + 1, 0, none⟩ = some (.int .i64 0) := (z0 _ _ (by simp <;> omega)).trans ((two2 ..).trans rfl)
          have d1 : u1.cell? ⟨W.heap.size + 1, 1, none⟩ = some (.slice none 0 0) := (z0 _ _ (by simp <;> omega)).trans ((two2 ..).trans rfl)
          have fz : ∀ o, u1.frozen? ⟨W.heap.size + 1, o, none⟩ = false := fun o => (z0f _ _ (by simp <;> omega)).trans (two2z ..)
          have ex : Ext W u1 := E2.trans y1
          rw [HDc.out] at he
          simp only [if_true] at he
          subst he
          go_wp2_with fail
          refine (rput_any (fun y => L y ∧ y ≠ W.heap.size + 1) N l 0 m rows _ hl hM (by omega) (hR l) u1 (fun y hy => ⟨hL y (by simp at zs; omega), by simp at zs; omega⟩) ((H0.out.mono (fun y hy hlt => ⟨hy, by omega⟩)).ext ex)).mono ?_
          rintro e w4 ⟨v4, rfl, R4, e4⟩
          obtain ⟨A4, n4, c4, rfl, -⟩ := id R4
          have sz1 : W.heap.size + 1 < u1.heap.size := by simp at zs; omega
          have d0' := (e4.cell (p := ⟨W.heap.size + 1, 0, none⟩) sz1).trans d0
          have d1' := (e4.cell (p := ⟨W.heap.size + 1, 1, none⟩) sz1).trans d1
          have fz' := fun o => (Below.frozen (p := ⟨W.heap.size + 1, o, none⟩) e4 sz1).trans (fz o)
          go_wp2_with fail
          (try simp only [Exit.inBlock, Exit.then])
          refine bodyPost_ret (v := .tuple #[.agg #[.int .i64 (N : Int), .slice A4 n4 c4], .int .i64 0]) (by rw [results_cell_tmp rfl]; go_simp) rfl ?_
          refine ⟨_, rfl, ?_, ((ex.trans e4).setCell (p := ⟨W.heap.size + 1, 0, none⟩) (by simp) _).setCell (p := ⟨W.heap.size + 1, 1, none⟩) (by simp) _⟩
          refine (R4.kept (fun y hy hlt => ?_)).mono (fun y hy _ => hy.1)
          rw [Below.heap_setCell _ _ _ _ hy.2, Below.heap_setCell _ _ _ _ hy.2]
        | false =>
          go_enter Try.func25, Try.ntmps25
          go_wp2_with fail
          refine (wrong_in (rows := rows) (L := L) _ m false hm _ (H0.out.ext E2)).mono ?_
          rintro e u1 ⟨he, y1⟩
          obtain ⟨z0, z0f⟩ := Ext.cells y1
          have zs := y1.sz
          have b0 : u1.cell? ⟨W.heap.size, 0, none⟩ = some (.int .i64 (N : Int)) := (z0 _ _ (by simp <;> omega)).trans ((two1 ..).trans rfl)
          have b1 : u1.cell? ⟨W.heap.size, 1, none⟩ = some (.slice (some ⟨x, 0, none⟩) n c) := (z0 _ _ (by simp <;> omega)).trans ((two1 ..).trans rfl)
          have d0 : u1.cell? ⟨W.heap.size + 1, 0, none⟩ = some (.int .i64 0) := (z0 _ _ (by simp <;> omega)).trans ((two2 ..).trans rfl)
          have d1 : u1.cell? ⟨W.heap.size + 1, 1, none⟩ = some (.slice none 0 0) := (z0 _ _ (by simp <;> omega)).trans ((two2 ..).trans rfl)
          have fz : ∀ o, u1.frozen? ⟨W.heap.size + 1, o, none⟩ = false := fun o => (z0f _ _ (by simp <;> omega)).trans (two2z ..)
          have ex : Ext W u1 := E2.trans y1
          rw [HDc.out] at he
          simp only [if_true] at he
          subst he
          have sz1 : W.heap.size + 1 < u1.heap.size := by simp at zs; omega
          have k1' := (ex.cell (p := ⟨x, l, none⟩) hxl).trans k1
          have HB := Lib.hid (show ∀ W' : World, Ext u1 W' → Ext W W' ∧ W'.cell? ⟨W.heap.size, 0, none⟩ = some (.int .i64 (N : Int)) ∧ W'.cell? ⟨W.heap.size, 1, none⟩ = some (.slice (some ⟨x, 0, none⟩) n c) ∧ W'.cell? ⟨x, l, none⟩ = some (.slice GA gn gc) from fun W' he => ⟨ex.trans he, (he.cell (p := ⟨W.heap.size, 0, none⟩) (show W.heap.size < _ by omega)).trans b0, (he.cell (p := ⟨W.heap.size, 1, none⟩) (show W.heap.size < _ by omega)).trans b1, (he.cell (p := ⟨x, l, none⟩) (show x < _ by omega)).trans k1'⟩)
          go_wp2_with fail
          go_region_held3 (fun W' => Ext W W' ∧ W'.cell? ⟨W.heap.size, 0, none⟩ = some (.int .i64 (N : Int)) ∧ W'.cell? ⟨W.heap.size, 1, none⟩ = some (.slice (some ⟨x, 0, none⟩) n c) ∧ W'.cell? ⟨x, l, none⟩ = some (.slice GA gn gc))
            (first | exact HE _ _ | exact HB.out _ (by (repeat (first | with_reducible exact Ext.refl _ | with_reducible assumption | with_reducible apply Ext.drew | with_reducible apply Ext.drewN | with_reducible apply Ext.alloc | (with_reducible refine Ext.setCell ?_ (by simp <;> omega) _) | (with_reducible refine Ext.trans ?_ (by with_reducible assumption))))))
            (first
              | (go_at_call 37; refine (rput_any (fun y => L y ∧ y ≠ W.heap.size + 1) N l gn m rows _ hl hM (by omega) (hR l) u1.drew (fun y hy => ⟨hL y (by simp at hy; omega), by simp at hy; omega⟩) ((H0.out.mono (fun y hy hlt => ⟨hy, by omega⟩)).ext ex.drew)).mono ?_; rintro e w4 ⟨v4, rfl, R4, e4⟩; obtain ⟨A4, n4, c4, rfl, -⟩ := id R4; have E4 : Ext u1 w4 := (Ext.refl u1).drew.trans e4; have d0' := (E4.cell (p := ⟨W.heap.size + 1, 0, none⟩) sz1).trans d0; have d1' := (E4.cell (p := ⟨W.heap.size + 1, 1, none⟩) sz1).trans d1; have fz' := fun o => (Below.frozen (p := ⟨W.heap.size + 1, o, none⟩) E4 sz1).trans (fz o); have HE := after3 W w4 hxl (HB.out _ E4)))
          all_goals
            go_wp2_with fail
            (try simp only [Exit.inBlock, Exit.then])
            refine bodyPost_ret (v := .tuple #[.agg #[.int .i64 (N : Int), .slice A4 n4 c4], .int .i64 0]) (by rw [results_cell_tmp rfl]; go_simp) rfl ?_
            refine ⟨_, rfl, ?_, (after3 W w4 hxl (HB.out _ E4) _ _).1⟩
            have e7 : (rowAt rows l).take gn ++ m :: (rowAt rows l).drop gn = rowAt rows l ++ [m] := by rw [← hgn]; simp
            rw [e7] at R4
            refine (R4.kept (fun y hy hlt => ?_)).mono (fun y hy _ => hy.1)
            rw [Below.heap_setCell _ _ _ _ hy.2, Below.heap_setCell _ _ _ _ hy.2]
    · have hs : pushS N rows (l : Int) node lead = (rows, 14) := by
        unfold pushS
        rw [if_pos p1, if_neg p2]
      rw [hs]
      clear p1 hs h5
      go_enter Try.func25, Try.ntmps25
      go_wp2_with fail
      refine (wrong_out (rows := rows) (L := L) _ node false p2 _ (H0.out.ext E2)).mono ?_
      rintro e u1 ⟨he, y1⟩
      obtain ⟨z0, z0f⟩ := Ext.cells y1
      have zs := y1.sz
      have b0 : u1.cell? ⟨W.heap.size, 0, none⟩ = some (.int .i64 (N : Int)) := (z0 _ _ (by simp <;> omega)).trans ((two1 ..).trans rfl)
      have b1 : u1.cell? ⟨W.heap.size, 1, none⟩ = some (.slice A n c) := (z0 _ _ (by simp <;> omega)).trans ((two1 ..).trans rfl)
      have d0 : u1.cell? ⟨W.heap.size + 1, 0, none⟩ = some (.int .i64 0) := (z0 _ _ (by simp <;> omega)).trans ((two2 ..).trans rfl)
      have d1 : u1.cell? ⟨W.heap.size + 1, 1, none⟩ = some (.slice none 0 0) := (z0 _ _ (by simp <;> omega)).trans ((two2 ..).trans rfl)
      have fz : ∀ o, u1.frozen? ⟨W.heap.size + 1, o, none⟩ = false := fun o => (z0f _ _ (by simp <;> omega)).trans (two2z ..)
      have ex : Ext W u1 := E2.trans y1
      subst he
      go_wp2_with fail
      (try simp only [Exit.inBlock, Exit.then])
      refine bodyPost_ret (v := .tuple #[.agg #[.int .i64 (N : Int), .slice A n c], .int .i64 14]) (by rw [results_cell_tmp rfl]; go_simp) rfl ?_
      exact ⟨_, rfl, (H0.out.after ex _ _).1, (H0.out.after ex _ _).2⟩
  · have hs : pushS N rows list node lead = (rows, 14) := by
      unfold pushS
      rw [if_neg p1]
    rw [hs]
    go_enter Try.func25, Try.ntmps25
    by_cases p4 : list < 0
    · clear p1 hs h5
      go_wp2_with fail
      (try simp only [Exit.inBlock, Exit.then])
      refine bodyPost_ret (v := .tuple #[.agg #[.int .i64 (N : Int), .slice A n c], .int .i64 14]) (by rw [results_cell_tmp rfl]; go_simp) rfl ?_
      exact ⟨_, rfl, H0.out.ext E3, E3⟩
    · have p5 : 0 ≤ list := by omega
      have p6 : (n : Int) ≤ list := by omega
      clear p1 hs h5 p4
      go_wp2_with fail
      (try simp only [Exit.inBlock, Exit.then])
      refine bodyPost_ret (v := .tuple #[.agg #[.int .i64 (N : Int), .slice A n c], .int .i64 14]) (by rw [results_cell_tmp rfl]; go_simp) rfl ?_
      exact ⟨_, rfl, H0.out.ext E3, E3⟩
end Go.Proofs.Ytpcmfgkbfamdoaa
