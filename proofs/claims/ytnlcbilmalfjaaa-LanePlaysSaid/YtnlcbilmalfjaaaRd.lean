/- A part of the proof of a law of roundel: contracts of functions and lemmas, each true as it stands; no condition beyond those that its theorems state. -/
import Derived.Test.YtnlcbilmalfjaaaRp
namespace Go.Proofs.Ytnlcbilmalfjaaa
set_option linter.unusedSimpArgs false
set_option linter.unusedVariables false
open Go.RowKit
section
variable {L : Nat → Prop} {N : Nat} {T : Nat → Int} {rows : List (List Nat)}
set_option maxRecDepth 100000 in
theorem rdrop_out (v : Value) (node : Int) (hn : ¬ (0 ≤ node ∧ node < (N : Int))) (W : World) (H : RefL W L v N T rows) :
    Calls Try.prog 21 #[v, .int .i64 node] W fun e W' => e = .returned (.tuple #[v, .int .i64 14]) ∧ Ext W W' := by
  obtain ⟨A, n, c, rfl, h1, h2, h3, -⟩ := H
  go_enter Try.func21, Try.ntmps21
  by_cases p0 : node < 0
  · go_wp2_with fail
    (try simp only [Exit.inBlock, Exit.then])
    refine bodyPost_ret (v := .tuple #[.agg #[.int .i64 (N : Int), .slice A n c], .int .i64 14]) (by rw [results_cell_tmp rfl]; go_simp) rfl ?_
    exact ⟨rfl, ((Ext.refl W).alloc _).alloc _⟩
  · have p0' : 0 ≤ node := by omega
    have p1 : (N : Int) ≤ node := by omega
    clear hn
    go_wp2_with fail
    (try simp only [Exit.inBlock, Exit.then])
    refine bodyPost_ret (v := .tuple #[.agg #[.int .i64 (N : Int), .slice A n c], .int .i64 14]) (by rw [results_cell_tmp rfl]; go_simp) rfl ?_
    exact ⟨rfl, ((Ext.refl W).alloc _).alloc _⟩
set_option maxRecDepth 100000 in
theorem rdrop_free (v : Value) (node : Nat) (hn : node < N) (hin : node ∉ rows.flatten) (W : World) (H : RefL W L v N T rows) :
    Calls Try.prog 21 #[v, .int .i64 (node : Int)] W fun e W' => e = .returned (.tuple #[v, .int .i64 10]) ∧ Ext W W' := by
  have H0 := Lib.hid H
  obtain ⟨A, n, c, rfl, h1, h2, h3, h4, h5⟩ := H
  have E2 : Ext W ((W.alloc (.cells #[.int .i64 (N : Int), .slice A n c] 44)).alloc (.cells #[.int .i64 0, .slice none 0 0] 44)) := ((Ext.refl W).alloc _).alloc _
  have q2 : (node : Int) < (N : Int) := by omega
  have hfind : findS rows (node : Int) = (-1, -1) := by
    unfold findS
    rw [if_neg (fun h => hin (by simpa using h.2))]
  have HF := Lib.hid hfind
  clear h5 hfind hin h1
  go_enter Try.func21, Try.ntmps21
  go_wp2_with fail
  refine (Find_any (rows := rows) (T := T) (L := L) (N := N) _ (node : Int) _ (H0.out.ext E2)).mono ?_
  rintro e u1 ⟨he, y1⟩
  rw [HF.out] at he
  dsimp only at he
  subst he
  obtain ⟨z0, z0f⟩ := Ext.cells y1
  have zs := y1.sz
  have b0 : u1.cell? ⟨W.heap.size, 0, none⟩ = some (.int .i64 (N : Int)) := (z0 _ _ (by simp <;> omega)).trans ((two1 ..).trans rfl)
  have d0 : u1.cell? ⟨W.heap.size + 1, 0, none⟩ = some (.int .i64 0) := (z0 _ _ (by simp <;> omega)).trans ((two2 ..).trans rfl)
  have d1 : u1.cell? ⟨W.heap.size + 1, 1, none⟩ = some (.slice none 0 0) := (z0 _ _ (by simp <;> omega)).trans ((two2 ..).trans rfl)
  have fz : ∀ o, u1.frozen? ⟨W.heap.size + 1, o, none⟩ = false := fun o => (z0f _ _ (by simp <;> omega)).trans (two2z ..)
  have ex1 : Ext W u1 := E2.trans y1
  have sz2 : W.heap.size + 1 < u1.heap.size := by simp at zs; omega
  have b1 : u1.cell? ⟨W.heap.size, 1, none⟩ = some (.slice A n c) := (z0 _ _ (by simp <;> omega)).trans ((two1 ..).trans rfl)
  clear z0 z0f zs y1
  go_wp2_with fail
  (try simp only [Exit.inBlock, Exit.then])
  refine bodyPost_ret (v := .tuple #[.agg #[.int .i64 (N : Int), .slice A n c], .int .i64 10]) (by rw [results_cell_tmp rfl]; go_simp) rfl ?_
  exact ⟨rfl, (ex1.setCell (p := ⟨W.heap.size + 1, 0, none⟩) (by simp) _).setCell (p := ⟨W.heap.size + 1, 1, none⟩) (by simp) _⟩

theorem put_row2 {W : World} {base : Nat} {v : Value} {a d : List Nat} {m : Nat} {xs : List Value} (o : OwnS W base 72 2 v m xs) (hx : xs = pairs T (a ++ d)) (hm : (a ++ d).length = m) (hL : ∀ x, base ≤ x → L x) : ∃ A m c, v = .slice A m c ∧ RowL W L A m c T (a ++ d) := by
  subst hx
  obtain ⟨A, c, h⟩ := o.rowL hm hL
  exact ⟨A, _, c, h⟩

set_option maxRecDepth 100000 in
set_option maxHeartbeats 1600000 in
theorem rdrop_in (v : Value) (l i node : Nat) (hn : node < N) (hin : node ∈ rows.flatten) (hl : listOf rows node = l) (hp : posOf rows node = i) (hM : rows.length ≤ 64) (hr : (rowAt rows l).length ≤ 64) (W : World) (hL : ∀ x, W.heap.size ≤ x → L x) (H : RefL W L v N T rows) :
    Calls Try.prog 21 #[v, .int .i64 (node : Int)] W fun e W' => ∃ v', e = .returned (.tuple #[v', .int .i64 0]) ∧ RefL W' L v' N T (rows.set l ((rowAt rows l).take i ++ (rowAt rows l).drop (i + 1))) ∧ Ext W W' := by
  have hll : l < rows.length := by rw [← hl]; exact listOf_lt hin
  have hil : i < (rowAt rows l).length := by rw [← hp]; unfold posOf; rw [hl]; exact List.idxOf_lt_length_of_mem (by rw [← hl]; exact listOf_mem hin)
  have H0 := Lib.hid H
  obtain ⟨A, n, c, rfl, h1, h2, h3, h4, h5⟩ := H
  obtain ⟨x, rfl, hx, hc⟩ := h5 (by omega)
  obtain ⟨GA, gn, gc, k1, k2⟩ := hc l (by omega)
  have hgn := k2.1
  have hxl := block_lt_of_cell k1
  have q1 : (l : Int) < (n : Int) := by omega
  have qn : (node : Int) < (N : Int) := by omega
  obtain ⟨AX, hsl1, hsl2, hlX⟩ := row_rest GA gn gc (i + 1) (by omega) k2.2.1
  rw [show ((i + 1 : Nat) : Int) = (i : Int) + 1 by omega] at hsl1 hsl2
  have q2 : (i : Int) ≤ (gc : Int) := by have := k2.2.1; omega
  have w1 : IntKind.i64.wrap ((i : Int) + 1) = (i : Int) + 1 := IntWalk.i64_in _ (by omega)
  have hfind : findS rows (node : Int) = ((l : Int), (i : Int)) := by
    unfold findS
    rw [if_pos ⟨by omega, by simpa using hin⟩, Int.toNat_natCast, hl, hp]
  have K2 := Lib.hid k2
  have HC := Lib.hid hc
  have HF := Lib.hid hfind
  clear h5 hc k2 hfind hl hp hin
  have E2 : Ext W ((W.alloc (.cells #[.int .i64 (N : Int), .slice (some ⟨x, 0, none⟩) n c] 44)).alloc (.cells #[.int .i64 0, .slice none 0 0] 44)) := ((Ext.refl W).alloc _).alloc _
  go_enter Try.func21, Try.ntmps21
  go_wp2_with fail
  refine (Find_any (rows := rows) (T := T) (L := L) (N := N) _ (node : Int) _ (H0.out.ext E2)).mono ?_
  rintro e u1 ⟨he, y1⟩
  rw [HF.out] at he
  dsimp only at he
  subst he
  obtain ⟨z0, z0f⟩ := Ext.cells y1
  have zs := y1.sz
  have b0 : u1.cell? ⟨W.heap.size, 0, none⟩ = some (.int .i64 (N : Int)) := (z0 _ _ (by simp <;> omega)).trans ((two1 ..).trans rfl)
  have d0 : u1.cell? ⟨W.heap.size + 1, 0, none⟩ = some (.int .i64 0) := (z0 _ _ (by simp <;> omega)).trans ((two2 ..).trans rfl)
  have d1 : u1.cell? ⟨W.heap.size + 1, 1, none⟩ = some (.slice none 0 0) := (z0 _ _ (by simp <;> omega)).trans ((two2 ..).trans rfl)
  have fz : ∀ o, u1.frozen? ⟨W.heap.size + 1, o, none⟩ = false := fun o => (z0f _ _ (by simp <;> omega)).trans (two2z ..)
  have ex1 : Ext W u1 := E2.trans y1
  have sz2 : W.heap.size + 1 < u1.heap.size := by simp at zs; omega
  have b1 : u1.cell? ⟨W.heap.size, 1, none⟩ = some (.slice (some ⟨x, 0, none⟩) n c) := (z0 _ _ (by simp <;> omega)).trans ((two1 ..).trans rfl)
  go_wp2_with fail
  refine wp_abs (fun Wx => Ext W Wx ∧ W.heap.size + 1 < Wx.heap.size ∧ Wx.cell? ⟨W.heap.size, 0, none⟩ = some (.int .i64 (N : Int)) ∧ Wx.cell? ⟨W.heap.size, 1, none⟩ = some (.slice (some ⟨x, 0, none⟩) n c) ∧ Wx.cell? ⟨W.heap.size + 1, 0, none⟩ = some (.int .i64 0) ∧ Wx.cell? ⟨W.heap.size + 1, 1, none⟩ = some (.slice none 0 0) ∧ ∀ o, Wx.frozen? ⟨W.heap.size + 1, o, none⟩ = false) ⟨ex1, sz2, b0, b1, d0, d1, fz⟩ ?_
  clear b0 b1 d0 d1 fz z0 z0f y1 ex1 zs sz2 E2
  rintro wx ⟨ex, xs1, b0, b1, d0, d1, fz⟩
  have hsx := ex.sz
  have k1' := (ex.cell (p := ⟨x, l, none⟩) hxl).trans k1
  have HB := Lib.hid (show ∀ W' : World, Ext wx W' → Ext W W' ∧ W'.cell? ⟨W.heap.size, 0, none⟩ = some (.int .i64 (N : Int)) ∧ W'.cell? ⟨W.heap.size, 1, none⟩ = some (.slice (some ⟨x, 0, none⟩) n c) ∧ W'.cell? ⟨x, l, none⟩ = some (.slice GA gn gc) from fun W' he => ⟨ex.trans he, (he.cell (p := ⟨W.heap.size, 0, none⟩) (show W.heap.size < _ by omega)).trans b0, (he.cell (p := ⟨W.heap.size, 1, none⟩) (show W.heap.size < _ by omega)).trans b1, (he.cell (p := ⟨x, l, none⟩) (block_lt_of_cell k1')).trans k1'⟩)
  have HD := Lib.hid (show ∀ W' : World, Ext wx W' → W'.cell? ⟨W.heap.size + 1, 0, none⟩ = some (.int .i64 0) ∧ W'.cell? ⟨W.heap.size + 1, 1, none⟩ = some (.slice none 0 0) ∧ ∀ o, W'.frozen? ⟨W.heap.size + 1, o, none⟩ = false from fun W' he => ⟨(he.cell (p := ⟨W.heap.size + 1, 0, none⟩) xs1).trans d0, (he.cell (p := ⟨W.heap.size + 1, 1, none⟩) xs1).trans d1, fun o => ((Below.frozen (p := ⟨W.heap.size + 1, o, none⟩) he xs1)).trans (fz o)⟩)
  have HR1 := Lib.hid (show ∀ W' : World, Ext wx W' → (0 < i → ∃ y oy, GA = some ⟨y, oy, none⟩ ∧ ∀ j, j < i * 2 → W'.cell? ⟨y, oy + j, none⟩ = some ((pairs T ((rowAt rows l).take i)).getD j undef)) from fun W' he => ((K2.out.ext (ex.trans he)).head (by omega)).2)
  have HR2 := Lib.hid (show ∀ W' : World, Ext wx W' → (AX = none → gc - (i + 1) = 0) ∧ (0 < gn - (i + 1) → ∃ y oy, AX = some ⟨y, oy, none⟩ ∧ ∀ j, j < (gn - (i + 1)) * 2 → W'.cell? ⟨y, oy + j, none⟩ = some ((pairs T ((rowAt rows l).drop (i + 1))).getD j undef)) from fun W' he => hlX _ _ _ _ (K2.out.ext (ex.trans he)))
  have hG0 := K2.out.2.2.2.1
  have lt1 : (pairs T ((rowAt rows l).take i)).length = i * 2 := by rw [pairs_len, List.length_take]; omega
  have lt2 : (pairs T ((rowAt rows l).drop (i + 1))).length = (gn - (i + 1)) * 2 := by rw [pairs_len, List.length_drop]; omega
  have HP := Lib.hid (And.intro (show ((rowAt rows l).take i ++ (rowAt rows l).drop (i + 1)).length = 0 + i + (gn - (i + 1)) by rw [List.length_append, List.length_take, List.length_drop]; omega) (show [] ++ pairs T ((rowAt rows l).take i) ++ pairs T ((rowAt rows l).drop (i + 1)) = pairs T ((rowAt rows l).take i ++ (rowAt rows l).drop (i + 1)) by rw [pairs_append, List.nil_append]))
  clear hlX d0 d1 fz b0 b1 k1'
  go_region_held3 (fun W' => Ext W W' ∧ W'.cell? ⟨W.heap.size, 0, none⟩ = some (.int .i64 (N : Int)) ∧ W'.cell? ⟨W.heap.size, 1, none⟩ = some (.slice (some ⟨x, 0, none⟩) n c) ∧ W'.cell? ⟨x, l, none⟩ = some (.slice GA gn gc))
    (first | exact HE _ _ | exact HB.out _ (by (repeat (first | with_reducible exact Ext.refl _ | with_reducible assumption | with_reducible apply Ext.drew | with_reducible apply Ext.drewN | with_reducible apply Ext.alloc | (with_reducible refine Ext.setCell ?_ (by simp <;> omega) _) | (with_reducible refine Ext.trans ?_ (by with_reducible assumption))))))
    (first
      | (refine step_append_sz rfl (.tmp 28) (.tmp 35) rfl Try.underlying69 infoN rfl (by omega) (by omega) rfl (OwnS.nil (base := wx.heap.size) ?_ ?_) rfl hG0 lt1 (fun hn => HR1.out _ (by (repeat (first | with_reducible exact Ext.refl _ | with_reducible assumption | with_reducible apply Ext.drew | with_reducible apply Ext.drewN | with_reducible apply Ext.alloc | (with_reducible refine Ext.setCell ?_ (by simp <;> omega) _) | (with_reducible refine Ext.trans ?_ (by with_reducible assumption))))) hn) (pairs_one _ _) (by omega) (by simp <;> omega) ?_; (first | exact Nat.le_refl _ | exact Nat.le_succ _); (first | exact heap_alloc_new _ _ | exact heap_alloc2_new _ _ _ | exact (Below.heap_alloc _ _ _ (by simp <;> omega)).trans (heap_alloc_new _ _)); intro v1 w1 o1 g1; have e1 : Ext wx w1 := Ext.grown (by (repeat (first | with_reducible exact Ext.refl _ | with_reducible assumption | with_reducible apply Ext.drew | with_reducible apply Ext.drewN | with_reducible apply Ext.alloc | (with_reducible refine Ext.setCell ?_ (by simp <;> omega) _) | (with_reducible refine Ext.trans ?_ (by with_reducible assumption))))) g1 (fun k hk => own_row_ge hk (by first | exact Nat.le_refl _ | exact Nat.le_succ _)))
      | (refine step_append_sz rfl (.tmp 36) (.tmp 44) rfl Try.underlying69 infoN rfl (by omega) (by omega) rfl o1 rfl (HR2.out _ e1).1 lt2 (HR2.out _ e1).2 (pairs_one _ _) (by omega) e1.sz ?_; intro v3 w3 o3 g3; have e3 : Ext wx w3 := Ext.grown e1 g3 (fun k hk => o1.base_le k hk); obtain ⟨A3, m3, c3, rfl, R3⟩ := put_row2 o3 HP.out.2 HP.out.1 (L := fun x => L x ∧ x ≠ W.heap.size + 1) (fun y hy => ⟨hL y (by omega), by omega⟩))
      | (go_at_call 40; refine (with_any (fun x => L x ∧ x ≠ W.heap.size + 1) N l rows _ A3 m3 c3 _ T hll hM w3 (fun y hy => ⟨hL y (by have := e3.sz; omega), by have := e3.sz; omega⟩) ((H0.out.mono (fun y hy hlt => ⟨hy, by omega⟩)).ext (ex.trans e3)) R3).mono ?_; rintro e w4 ⟨v4, rfl, R4, e4⟩; obtain ⟨A4, n4, c4, rfl, -⟩ := id R4; have E4 := e3.trans e4; obtain ⟨d0, d1, fz⟩ := HD.out _ E4; have HE := after3 (x := x) (k := l) W w4 (ex.trans E4) (HB.out _ E4).2.1 (HB.out _ E4).2.2.1 (HB.out _ E4).2.2.2 (by omega)))
  all_goals
    go_wp2_with fail
    (try simp only [Exit.inBlock, Exit.then])
    refine bodyPost_ret (v := .tuple #[.agg #[.int .i64 (N : Int), .slice A4 n4 c4], .int .i64 0]) (by rw [results_cell_tmp rfl]; go_simp) rfl ?_
    refine ⟨_, rfl, ?_, (HE _ _).1⟩
    refine (R4.kept (fun y hy hlt => ?_)).mono (fun y hy _ => hy.1)
    rw [Below.heap_setCell _ _ _ _ hy.2, Below.heap_setCell _ _ _ _ hy.2]
end
end Go.Proofs.Ytnlcbilmalfjaaa
