/- A part of the proof of a law of roundel: contracts of functions and lemmas, each true as it stands; no condition beyond those that its theorems state. -/
import Derived.Test.YtnlcbilmalfjaaaRin
namespace Go.Proofs.Ytnlcbilmalfjaaa
set_option linter.unusedSimpArgs false
set_option linter.unusedVariables false
open Go.RowKit

theorem after2 (W w4 : World) {N n c : Nat} {x : Addr} (e : Ext W w4) (c0 : w4.cell? ⟨W.heap.size, 0, none⟩ = some (.int .i64 (N : Int))) (c1 : w4.cell? ⟨W.heap.size, 1, none⟩ = some (.slice (some x) n c)) (u v : Value) :
    Ext W ((w4.setCell ⟨W.heap.size + 1, 0, none⟩ u).setCell ⟨W.heap.size + 1, 1, none⟩ v) ∧ ((w4.setCell ⟨W.heap.size + 1, 0, none⟩ u).setCell ⟨W.heap.size + 1, 1, none⟩ v).cell? ⟨W.heap.size, 0, none⟩ = some (.int .i64 (N : Int)) ∧ ((w4.setCell ⟨W.heap.size + 1, 0, none⟩ u).setCell ⟨W.heap.size + 1, 1, none⟩ v).cell? ⟨W.heap.size, 1, none⟩ = some (.slice (some x) n c) := by
  refine ⟨(e.setCell (p := ⟨W.heap.size + 1, 0, none⟩) (by simp) u).setCell (p := ⟨W.heap.size + 1, 1, none⟩) (by simp) v, ?_, ?_⟩
  · rw [World.cell?_setCell_other _ _ _ _ (by simp), World.cell?_setCell_other _ _ _ _ (by simp)]; exact c0
  · rw [World.cell?_setCell_other _ _ _ _ (by simp), World.cell?_setCell_other _ _ _ _ (by simp)]; exact c1

theorem after3 (W w4 : World) {N n c x k : Nat} {g : Value} (e : Ext W w4) (c0 : w4.cell? ⟨W.heap.size, 0, none⟩ = some (.int .i64 (N : Int))) (c1 : w4.cell? ⟨W.heap.size, 1, none⟩ = some (.slice (some ⟨x, 0, none⟩) n c)) (c2 : w4.cell? ⟨x, k, none⟩ = some g) (hx : x ≠ W.heap.size + 1) (u v : Value) :
    Ext W ((w4.setCell ⟨W.heap.size + 1, 0, none⟩ u).setCell ⟨W.heap.size + 1, 1, none⟩ v) ∧ ((w4.setCell ⟨W.heap.size + 1, 0, none⟩ u).setCell ⟨W.heap.size + 1, 1, none⟩ v).cell? ⟨W.heap.size, 0, none⟩ = some (.int .i64 (N : Int)) ∧ ((w4.setCell ⟨W.heap.size + 1, 0, none⟩ u).setCell ⟨W.heap.size + 1, 1, none⟩ v).cell? ⟨W.heap.size, 1, none⟩ = some (.slice (some ⟨x, 0, none⟩) n c) ∧ ((w4.setCell ⟨W.heap.size + 1, 0, none⟩ u).setCell ⟨W.heap.size + 1, 1, none⟩ v).cell? ⟨x, k, none⟩ = some g := by
  obtain ⟨h1, h2, h3⟩ := after2 W w4 e c0 c1 u v
  refine ⟨h1, h2, h3, ?_⟩
  rw [World.cell?_setCell_other _ _ _ _ (by simp [hx]), World.cell?_setCell_other _ _ _ _ (by simp [hx])]
  exact c2

section
variable {L : Nat → Prop} {N : Nat} {T : Nat → Int} {rows : List (List Nat)}
set_option maxRecDepth 100000 in
theorem rput_out (v : Value) (core node tag : Int) (hn : ¬ ((0 ≤ core ∧ core < (rows.length : Int)) ∧ (0 ≤ node ∧ node < (N : Int)))) (W : World) (H : RefL W L v N T rows) :
    Calls Try.prog 22 #[v, .int .i64 core, .int .i64 node, .int .i64 tag] W fun e W' => e = .returned (.tuple #[v, .int .i64 14]) ∧ Ext W W' := by
  obtain ⟨A, n, c, rfl, h1, h2, h3, -⟩ := H
  rw [h1] at hn
  clear h1
  have E2 : Ext W ((W.alloc (.cells #[.int .i64 (N : Int), .slice A n c] 44)).alloc (.cells #[.int .i64 0, .slice none 0 0] 44)) := ((Ext.refl W).alloc _).alloc _
  have HN := Lib.hid hn
  clear hn
  go_enter Try.func22, Try.ntmps22
  by_cases p0 : core < 0
  · go_wp2_with fail
    (try simp only [Exit.inBlock, Exit.then])
    refine bodyPost_ret (v := .tuple #[.agg #[.int .i64 (N : Int), .slice A n c], .int .i64 14]) (by rw [results_cell_tmp rfl]; go_simp) rfl ?_
    exact ⟨rfl, ((Ext.refl W).alloc _).alloc _⟩
  · have p0' : 0 ≤ core := by omega
    by_cases p1 : (n : Int) ≤ core
    · go_wp2_with fail
      (try simp only [Exit.inBlock, Exit.then])
      refine bodyPost_ret (v := .tuple #[.agg #[.int .i64 (N : Int), .slice A n c], .int .i64 14]) (by rw [results_cell_tmp rfl]; go_simp) rfl ?_
      exact ⟨rfl, ((Ext.refl W).alloc _).alloc _⟩
    · have p1' : core < (n : Int) := by omega
      by_cases p2 : node < 0
      · go_wp2_with fail
        (try simp only [Exit.inBlock, Exit.then])
        refine bodyPost_ret (v := .tuple #[.agg #[.int .i64 (N : Int), .slice A n c], .int .i64 14]) (by rw [results_cell_tmp rfl]; go_simp) rfl ?_
        exact ⟨rfl, ((Ext.refl W).alloc _).alloc _⟩
      · have p2' : 0 ≤ node := by omega
        have p3 : (N : Int) ≤ node := by have := HN.out; omega
        go_wp2_with fail
        (try simp only [Exit.inBlock, Exit.then])
        refine bodyPost_ret (v := .tuple #[.agg #[.int .i64 (N : Int), .slice A n c], .int .i64 14]) (by rw [results_cell_tmp rfl]; go_simp) rfl ?_
        exact ⟨rfl, ((Ext.refl W).alloc _).alloc _⟩

set_option maxRecDepth 100000 in
theorem rput_held (v : Value) (core node : Nat) (tag : Int) (hc : core < rows.length) (hn : node < N) (hin : node ∈ rows.flatten) (W : World) (H : RefL W L v N T rows) :
    Calls Try.prog 22 #[v, .int .i64 (core : Int), .int .i64 (node : Int), .int .i64 tag] W fun e W' => e = .returned (.tuple #[v, .int .i64 10]) ∧ Ext W W' := by
  have H0 := Lib.hid H
  obtain ⟨A, n, c, rfl, h1, h2, h3, h4, h5⟩ := H
  obtain ⟨x, rfl, hx, hc⟩ := h5 (by omega)
  have E2 : Ext W ((W.alloc (.cells #[.int .i64 (N : Int), .slice (some ⟨x, 0, none⟩) n c] 44)).alloc (.cells #[.int .i64 0, .slice none 0 0] 44)) := ((Ext.refl W).alloc _).alloc _
  have q1 : (core : Int) < (n : Int) := by omega
  have q2 : (node : Int) < (N : Int) := by omega
  obtain ⟨a, ha⟩ : ∃ a, a = listOf rows node := ⟨_, rfl⟩
  obtain ⟨b, hb⟩ : ∃ b, b = posOf rows node := ⟨_, rfl⟩
  have hfind : findS rows (node : Int) = ((a : Int), (b : Int)) := by
    unfold findS
    rw [if_pos ⟨by omega, by simpa using hin⟩, Int.toNat_natCast, ha, hb]
  have HF := Lib.hid hfind
  clear h5 hc hfind ha hb hin h1
  go_enter Try.func22, Try.ntmps22
  go_wp2_with fail
  refine (Find_any (rows := rows) (T := T) (L := L) (N := N) _ (node : Int) _ (H0.out.ext E2)).mono ?_
  rintro e u1 ⟨he, y1⟩
  rw [HF.out] at he
  dsimp only at he
  subst he
  obtain ⟨z0, z0f⟩ := Ext.cells y1
  have zs := y1.sz
  have b0 : u1.cell? ⟨W.heap.size, 0, none⟩ = some (.int .i64 (N : Int)) := (z0 _ _ (by simp <;> omega)).trans ((two1 ..).trans rfl)
  have b1 : u1.cell? ⟨W.heap.size, 1, none⟩ = some (.slice (some ⟨x, 0, none⟩) n c) := (z0 _ _ (by simp <;> omega)).trans ((two1 ..).trans rfl)
  have d0 : u1.cell? ⟨W.heap.size + 1, 0, none⟩ = some (.int .i64 0) := (z0 _ _ (by simp <;> omega)).trans ((two2 ..).trans rfl)
  have d1 : u1.cell? ⟨W.heap.size + 1, 1, none⟩ = some (.slice none 0 0) := (z0 _ _ (by simp <;> omega)).trans ((two2 ..).trans rfl)
  have fz : ∀ o, u1.frozen? ⟨W.heap.size + 1, o, none⟩ = false := fun o => (z0f _ _ (by simp <;> omega)).trans (two2z ..)
  have ex : Ext W u1 := E2.trans y1
  clear z0 z0f zs y1
  go_wp2_with fail
  (try simp only [Exit.inBlock, Exit.then])
  refine bodyPost_ret (v := .tuple #[.agg #[.int .i64 (N : Int), .slice (some ⟨x, 0, none⟩) n c], .int .i64 10]) (by rw [results_cell_tmp rfl]; go_simp) rfl ?_
  exact ⟨rfl, (ex.setCell (p := ⟨W.heap.size + 1, 0, none⟩) (by simp) _).setCell (p := ⟨W.heap.size + 1, 1, none⟩) (by simp) _⟩

set_option maxRecDepth 100000 in
set_option maxHeartbeats 1600000 in
theorem rput_in (T' : Nat → Int) (v : Value) (core node : Nat) (tag : Int) (hc : core < rows.length) (hM : rows.length ≤ 64) (hr : (rowAt rows core).length ≤ 64) (hn : node < N) (hin : node ∉ rows.flatten) (hT : ∀ x ∈ rows.flatten, T' x = T x) (hT' : T' node = tag) (W : World) (hL : ∀ x, W.heap.size ≤ x → L x) (H : RefL W L v N T rows) :
    Calls Try.prog 22 #[v, .int .i64 (core : Int), .int .i64 (node : Int), .int .i64 tag] W fun e W' => ∃ v', e = .returned (.tuple #[v', .int .i64 0]) ∧ RefL W' L v' N T' (rows.set core (insRow T (rowAt rows core) node tag)) ∧ Ext W W' := by
  have H1 := H.tags (T' := T') (fun x hx => (hT x hx).symm)
  have HT1 := Lib.hid H1
  have hTr : ∀ x ∈ rowAt rows core, T' x = T x := fun x hx => hT x (rowAt_mem hc hx)
  clear H1
  have H0 := Lib.hid H
  obtain ⟨A, n, c, rfl, h1, h2, h3, h4, h5⟩ := H
  obtain ⟨x, rfl, hx, hc⟩ := h5 (by omega)
  have E2 : Ext W ((W.alloc (.cells #[.int .i64 (N : Int), .slice (some ⟨x, 0, none⟩) n c] 44)).alloc (.cells #[.int .i64 0, .slice none 0 0] 44)) := ((Ext.refl W).alloc _).alloc _
  have hmM := h1
  obtain ⟨GA, gn, gc, k1, k2⟩ := hc core (by omega)
  have hxl := block_lt_of_cell k1
  have q1 : (core : Int) < (n : Int) := by omega
  have q2 : (node : Int) < (N : Int) := by omega
  have hgn := k2.1
  have hfind : findS rows (node : Int) = (-1, -1) := by
    unfold findS
    rw [if_neg (fun h => hin (by simpa using h.2))]
  have HF := Lib.hid hfind
  have K2 := Lib.hid k2
  have HTT := Lib.hid (And.intro hTr hT')
  have hcl : core < rows.length := by omega
  clear h5 hc hfind hin k2 hT hT' hTr
  go_enter Try.func22, Try.ntmps22
  go_wp2_with fail
  refine (Find_any (rows := rows) (T := T) (L := L) (N := N) _ (node : Int) _ (H0.out.ext E2)).mono ?_
  rintro e u1 ⟨he, y1⟩
  rw [HF.out] at he
  dsimp only at he
  subst he
  obtain ⟨z0, z0f⟩ := Ext.cells y1
  have zs := y1.sz
  have b0 : u1.cell? ⟨W.heap.size, 0, none⟩ = some (.int .i64 (N : Int)) := (z0 _ _ (by simp <;> omega)).trans ((two1 ..).trans rfl)
  have b1 : u1.cell? ⟨W.heap.size, 1, none⟩ = some (.slice (some ⟨x, 0, none⟩) n c) := (z0 _ _ (by simp <;> omega)).trans ((two1 ..).trans rfl)
  have d0 : u1.cell? ⟨W.heap.size + 1, 0, none⟩ = some (.int .i64 0) := (z0 _ _ (by simp <;> omega)).trans ((two2 ..).trans rfl)
  have d1 : u1.cell? ⟨W.heap.size + 1, 1, none⟩ = some (.slice none 0 0) := (z0 _ _ (by simp <;> omega)).trans ((two2 ..).trans rfl)
  have fz : ∀ o, u1.frozen? ⟨W.heap.size + 1, o, none⟩ = false := fun o => (z0f _ _ (by simp <;> omega)).trans (two2z ..)
  have ex1 : Ext W u1 := E2.trans y1
  have sz2 : W.heap.size + 1 < u1.heap.size := by simp at zs; omega
  go_wp2_with fail
  refine wp_abs (fun Wx => Ext W Wx ∧ W.heap.size + 1 < Wx.heap.size ∧ Wx.cell? ⟨W.heap.size, 0, none⟩ = some (.int .i64 (N : Int)) ∧ Wx.cell? ⟨W.heap.size, 1, none⟩ = some (.slice (some ⟨x, 0, none⟩) n c) ∧ Wx.cell? ⟨W.heap.size + 1, 0, none⟩ = some (.int .i64 0) ∧ Wx.cell? ⟨W.heap.size + 1, 1, none⟩ = some (.slice none 0 0) ∧ ∀ o, Wx.frozen? ⟨W.heap.size + 1, o, none⟩ = false) ⟨ex1, sz2, b0, b1, d0, d1, fz⟩ ?_
  clear b0 b1 d0 d1 fz z0 z0f y1 ex1 zs sz2 E2
  rintro wx ⟨ex, xs1, b0, b1, d0, d1, fz⟩
  have hsx := ex.sz
  have k1' := (ex.cell (p := ⟨x, core, none⟩) hxl).trans k1
  have HB := Lib.hid (show ∀ W' : World, Ext wx W' → Ext W W' ∧ W'.cell? ⟨W.heap.size, 0, none⟩ = some (.int .i64 (N : Int)) ∧ W'.cell? ⟨W.heap.size, 1, none⟩ = some (.slice (some ⟨x, 0, none⟩) n c) ∧ W'.cell? ⟨x, core, none⟩ = some (.slice GA gn gc) from fun W' he => ⟨ex.trans he, (he.cell (p := ⟨W.heap.size, 0, none⟩) (show W.heap.size < _ by omega)).trans b0, (he.cell (p := ⟨W.heap.size, 1, none⟩) (show W.heap.size < _ by omega)).trans b1, (he.cell (p := ⟨x, core, none⟩) (block_lt_of_cell k1')).trans k1'⟩)
  have HD := Lib.hid (show ∀ W' : World, Ext wx W' → W'.cell? ⟨W.heap.size + 1, 0, none⟩ = some (.int .i64 0) ∧ W'.cell? ⟨W.heap.size + 1, 1, none⟩ = some (.slice none 0 0) ∧ ∀ o, W'.frozen? ⟨W.heap.size + 1, o, none⟩ = false from fun W' he => ⟨(he.cell (p := ⟨W.heap.size + 1, 0, none⟩) xs1).trans d0, (he.cell (p := ⟨W.heap.size + 1, 1, none⟩) xs1).trans d1, fun o => ((Below.frozen (p := ⟨W.heap.size + 1, o, none⟩) he xs1)).trans (fz o)⟩)
  clear d0 d1 fz b0 b1 k1'
  go_region_held3 (fun W' => Ext W W' ∧ W'.cell? ⟨W.heap.size, 0, none⟩ = some (.int .i64 (N : Int)) ∧ W'.cell? ⟨W.heap.size, 1, none⟩ = some (.slice (some ⟨x, 0, none⟩) n c) ∧ W'.cell? ⟨x, core, none⟩ = some (.slice GA gn gc))
    (first | exact HE _ _ | exact HB.out _ (by (repeat (first | with_reducible exact Ext.refl _ | with_reducible assumption | with_reducible apply Ext.drew | with_reducible apply Ext.drewN | with_reducible apply Ext.alloc | (with_reducible refine Ext.setCell ?_ (by simp <;> omega) _) | (with_reducible refine Ext.trans ?_ (by with_reducible assumption))))))
    (first
      | (go_at_call 41; (with_reducible refine (In_any (fun y => L y ∧ y ≠ W.heap.size + 1) T T' (rowAt rows core) GA gn gc node tag (by omega) HTT.out.1 HTT.out.2 wx.drew (fun y hy => ⟨hL y (by have := hsx; simp at hy; omega), by simp at hy; omega⟩) ((K2.out.mono (fun y hy hlt => ⟨hy, by omega⟩)).ext (ex.trans (Ext.refl wx).drew))).mono ?_); rintro e w3 ⟨A3, m3, c3, rfl, R3, e3'⟩; have e3 : Ext wx w3 := (Ext.refl wx).drew.trans e3')
      | (go_at_call 40; (with_reducible refine (with_any (fun y => L y ∧ y ≠ W.heap.size + 1) N core rows _ A3 m3 c3 _ T' hcl hM w3 (fun y hy => ⟨hL y (by have := e3.sz; omega), by have := e3.sz; omega⟩) ((HT1.out.mono (fun y hy hlt => ⟨hy, by omega⟩)).ext (ex.trans e3)) R3).mono ?_); rintro e w4 ⟨v4, rfl, R4, e4⟩; obtain ⟨A4, n4, c4, rfl, -⟩ := id R4; have E4 := e3.trans e4; obtain ⟨d0, d1, fz⟩ := HD.out _ E4; have HE := after3 (x := x) (k := core) W w4 (ex.trans E4) (HB.out _ E4).2.1 (HB.out _ E4).2.2.1 (HB.out _ E4).2.2.2 (by omega)))
  all_goals
    go_wp2_with fail
    (try simp only [Exit.inBlock, Exit.then])
    refine bodyPost_ret (v := .tuple #[.agg #[.int .i64 (N : Int), .slice A4 n4 c4], .int .i64 0]) (by rw [results_cell_tmp rfl]; go_simp) rfl ?_
    refine ⟨_, rfl, ?_, (HE _ _).1⟩
    refine (R4.kept (fun y hy hlt => ?_)).mono (fun y hy _ => hy.1)
    rw [Below.heap_setCell _ _ _ _ hy.2, Below.heap_setCell _ _ _ _ hy.2]
end
end Go.Proofs.Ytnlcbilmalfjaaa
