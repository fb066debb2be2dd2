/- A part of the proof of a law of roundel: contracts of functions and lemmas, each true as it stands; no condition beyond those that its theorems state. -/
import Derived.Test.YtpcmfgkbfamdoaaWith
namespace Go.Proofs.Ytpcmfgkbfamdoaa
set_option linter.unusedSimpArgs false
set_option linter.unusedVariables false
open Go.RowKit

section
variable (W : World) (a b : Array Value) (ta tb : TypeId) (i : Nat)
theorem two2 : ((W.alloc (.cells a ta)).alloc (.cells b tb)).cell? ⟨W.heap.size + 1, i, none⟩ = b[i]? := by
  have z := World.cell?_alloc_new (W.alloc (.cells a ta)) b tb i
  rwa [show (W.alloc (.cells a ta)).heap.size = W.heap.size + 1 by simp] at z
theorem two1 : ((W.alloc (.cells a ta)).alloc (.cells b tb)).cell? ⟨W.heap.size, i, none⟩ = a[i]? := by
  rw [World.cell?_alloc_past _ _ _ (by simp), World.cell?_alloc_new]
theorem two2z : ((W.alloc (.cells a ta)).alloc (.cells b tb)).frozen? ⟨W.heap.size + 1, i, none⟩ = false := by
  have z := World.frozen?_alloc_new (W.alloc (.cells a ta)) b tb i
  rwa [show (W.alloc (.cells a ta)).heap.size = W.heap.size + 1 by simp] at z
end
theorem after2 (W w4 : World) {N n c : Nat} {x : Addr} (e : Ext W w4) (c0 : w4.cell? ⟨W.heap.size, 0, none⟩ = some (.int .i64 (N : Int))) (c1 : w4.cell? ⟨W.heap.size, 1, none⟩ = some (.slice (some x) n c)) (u v : Value) :
    Ext W ((w4.setCell ⟨W.heap.size + 1, 0, none⟩ u).setCell ⟨W.heap.size + 1, 1, none⟩ v) ∧ ((w4.setCell ⟨W.heap.size + 1, 0, none⟩ u).setCell ⟨W.heap.size + 1, 1, none⟩ v).cell? ⟨W.heap.size, 0, none⟩ = some (.int .i64 (N : Int)) ∧ ((w4.setCell ⟨W.heap.size + 1, 0, none⟩ u).setCell ⟨W.heap.size + 1, 1, none⟩ v).cell? ⟨W.heap.size, 1, none⟩ = some (.slice (some x) n c) := by
  refine ⟨(e.setCell (p := ⟨W.heap.size + 1, 0, none⟩) (by simp) u).setCell (p := ⟨W.heap.size + 1, 1, none⟩) (by simp) v, ?_, ?_⟩
  · rw [World.cell?_setCell_other _ _ _ _ (by simp), World.cell?_setCell_other _ _ _ _ (by simp)]; exact c0
  · rw [World.cell?_setCell_other _ _ _ _ (by simp), World.cell?_setCell_other _ _ _ _ (by simp)]; exact c1
theorem ne_own {k g n c : Nat} (h : k ≠ g) : some k ≠ (Value.slice (some ⟨g, 0, none⟩) n c).ownBlock := fun e => h (Option.some.inj e)
theorem node_at {w0 w1 : World} {k g n c : Nat} {u : Value} (hc : w0.cell? ⟨k, 0, none⟩ = some u) (g1 : w0.drew.grownBy w1 (Value.slice (some ⟨g, 0, none⟩) n c).ownBlock) (h1 : k < w0.heap.size) (h2 : k ≠ g) : w1.cell? ⟨k, 0, none⟩ = some u := by
  have hk : some k ≠ (Value.slice (some ⟨g, 0, none⟩) n c).ownBlock := fun e => h2 (Option.some.inj e)
  exact (World.cell?_of_block (a := ⟨k, 0, none⟩) (g1.block k h1 hk)).trans hc
theorem own_row_ge {g base k n c : Nat} (h : (Value.slice (some ⟨g, 0, none⟩) n c).ownBlock = some k) (hb : base ≤ g) : base ≤ k := by
  injection h with h
  rw [← h]
  exact hb
def vals (r : List Nat) : List Value := r.map (fun (x : Nat) => Value.int .i64 (x : Int))
theorem vals_len (r : List Nat) : (vals r).length = r.length := by simp [vals]
theorem vals_one (r : List Nat) : ∀ u ∈ vals r, u.oneCell' = true := fun u hu => by
  obtain ⟨x, _, rfl⟩ := List.mem_map.1 hu
  rfl
theorem vals_get (r : List Nat) (i : Nat) (h : i < r.length) : (vals r).getD i undef = .int .i64 ((r.getD i 0 : Nat) : Int) := by
  simp [vals, List.getD, h]
/-- A row of the call's own, as the document's. -/
theorem OwnV.row {W : World} {base : Nat} {L : Nat → Prop} {v : Value} {r : List Nat} (h : OwnV W base 3 v (vals r)) (hL : ∀ x, base ≤ x → L x) : ∃ A c, v = .slice A r.length c ∧ RowAt W L A r.length c r := by
  obtain ⟨A, c, hv, h1, h2, h3, h4⟩ := h.cells
  rw [vals_len] at hv h1 h4
  refine ⟨A, c, hv, rfl, h1, h2, h3, fun hn => ?_⟩
  obtain ⟨g, hA, hg, _, hc, _⟩ := h4 hn
  refine ⟨g, hA, hL g hg, fun i hi => ?_⟩
  rw [hc i hi, vals_get r i hi]

theorem put_row {W : World} {base : Nat} {L : Nat → Prop} {v : Value} {a d : List Nat} {n : Nat} (o : OwnV W base 3 v ([] ++ vals a ++ vals [n] ++ vals d)) (hL : ∀ x, base ≤ x → L x) : ∃ A m c, v = .slice A m c ∧ RowAt W L A m c (a ++ n :: d) := by
  have e : [] ++ vals a ++ vals [n] ++ vals d = vals (a ++ n :: d) := by simp [vals]
  rw [e] at o
  obtain ⟨A, c, h⟩ := o.row hL
  exact ⟨A, _, c, h⟩
theorem row_rest (GA : Option Addr) (gn gc i : Nat) (hi : i ≤ gn) (hgc : gn ≤ gc) : ∃ AX, (∀ w, (Instr.slice 41 (.slice GA gn gc) (some (.int .i64 (i : Int))) none none).run Try.prog w = .ok (.slice AX (gn - i) (gc - i)) w) ∧
    (∀ w, (Instr.sliceAt 41 (.slice GA gn gc) (some (.int .i64 (i : Int))) none none).run Try.prog w = .ok (.slice AX (gn - i) (gc - i)) w) ∧ (GA = none → AX = none) ∧
    ∀ (W : World) (L : Nat → Prop) (r : List Nat), RowAt W L GA gn gc r → (AX = none → gc - i = 0) ∧ (0 < gn - i → ∃ y oy, AX = some ⟨y, oy, none⟩ ∧ ∀ j, j < gn - i → W.cell? ⟨y, oy + j, none⟩ = some ((vals (r.drop i)).getD j undef)) := by
  have h1 : ∀ w, (Instr.slice 41 (.slice GA gn gc) (some (.int .i64 (i : Int))) none none).run Try.prog w = .ok (.slice (if gc = i then GA else Option.map (fun x => x.add i) GA) (gn - i) (gc - i)) w := by
    intro w
    rw [Go.run_slice_l (P := Try.prog) w 41 GA gn gc Try.underlying41 .i64 (i : Int) (by omega) (by omega)]
    simp [go_sem]
  refine ⟨_, h1, fun w => ?_, fun h => by rw [h]; split <;> rfl, fun W L r hr => ?_⟩
  · rw [run_sliceAt_slice (P := Try.prog) w 41 _ _ _ _ Try.underlying41]
    exact h1 w
  · obtain ⟨r1, r2, r3, r4, r5⟩ := hr
    refine ⟨fun h => ?_, fun hn => ?_⟩
    · cases GA with
      | none => have := r4 rfl; omega
      | some a =>
        split at h
        · omega
        · cases h
    · obtain ⟨y, rfl, _, hc⟩ := r5 (by omega)
      rw [if_neg (by omega)]
      refine ⟨y, i, by simp [Addr.add]; omega, fun j hj => ?_⟩
      rw [hc (i + j) (by omega), vals_get _ _ (by rw [List.length_drop]; omega)]
      simp [List.getD]
theorem RowAt.head {W : World} {L : Nat → Prop} {GA : Option Addr} {gn gc i : Nat} {r : List Nat} (h : RowAt W L GA gn gc r) (hi : i ≤ gn) : (GA = none → gc = 0) ∧ (0 < i → ∃ y oy, GA = some ⟨y, oy, none⟩ ∧ ∀ j, j < i → W.cell? ⟨y, oy + j, none⟩ = some ((vals (r.take i)).getD j undef)) := by
  obtain ⟨r1, r2, r3, r4, r5⟩ := h
  refine ⟨r4, fun hn => ?_⟩
  obtain ⟨y, rfl, _, hc⟩ := r5 (by omega)
  refine ⟨y, 0, rfl, fun j hj => ?_⟩
  rw [Nat.zero_add, hc j (by omega), vals_get _ _ (by rw [List.length_take]; omega)]
  simp [List.getD, List.getElem?_take, hj]

set_option maxRecDepth 100000 in
set_option maxHeartbeats 400000 in
theorem rput_any (L : Nat → Prop) (N l i node : Nat) (rows : List (List Nat)) (v : Value) (hl : l < rows.length) (hM : rows.length ≤ 64) (hi : i ≤ (rowAt rows l).length) (hr : (rowAt rows l).length ≤ 64) (W : World) (hL : ∀ x, W.heap.size ≤ x → L x) (H : RefAt W L v N rows) :
    Calls Try.prog 37 #[v, .int .i64 (l : Int), .int .i64 (i : Int), .int .i64 (node : Int)] W fun e W' => ∃ v', e = .returned v' ∧ RefAt W' L v' N (rows.set l ((rowAt rows l).take i ++ node :: (rowAt rows l).drop i)) ∧ Ext W W' := by
  have H0 := Lib.hid H
  obtain ⟨A, n, c, rfl, h1, h2, h3, h4, h5⟩ := H
  obtain ⟨x, rfl, hx, hc⟩ := h5 (by omega)
  obtain ⟨GA, gn, gc, k1, k2⟩ := hc l (by omega)
  have hgn := k2.1
  have hxl := block_lt_of_cell k1
  have q1 : (l : Int) < (n : Int) := by omega
  obtain ⟨AX, hsl1, hsl2, -, hlX⟩ := row_rest GA gn gc i (by omega) k2.2.1
  have q2 : (i : Int) ≤ (gc : Int) := by have := k2.2.1; omega
  have K2 := Lib.hid k2
  have HC := Lib.hid hc
  clear h5 hc k2
  go_enter Try.func37, Try.ntmps37
  go_wp2_with fail
  refine wp_abs (fun Wx => Ext W Wx ∧ W.heap.size + 1 < Wx.heap.size ∧ Wx.cell? ⟨W.heap.size, 0, none⟩ = some (.int .i64 (N : Int)) ∧ Wx.cell? ⟨W.heap.size, 1, none⟩ = some (.slice (some ⟨x, 0, none⟩) n c) ∧ Wx.cell? ⟨W.heap.size + 1, 0, none⟩ = some (.int .i64 0) ∧ Wx.cell? ⟨W.heap.size + 1, 1, none⟩ = some (.slice none 0 0) ∧ ∀ o, Wx.frozen? ⟨W.heap.size + 1, o, none⟩ = false) ⟨((Ext.refl W).alloc _).alloc _, by simp, by simp [World.cell?_alloc_past], by simp [World.cell?_alloc_past], two2 .., two2 .., fun o => two2z ..⟩ ?_
  rintro wx ⟨ex, xs1, b0, b1, d0, d1, fz⟩
  have hsx := ex.sz
  have HB := Lib.hid (show ∀ W' : World, Ext wx W' → Ext W W' ∧ W'.cell? ⟨W.heap.size, 0, none⟩ = some (.int .i64 (N : Int)) ∧ W'.cell? ⟨W.heap.size, 1, none⟩ = some (.slice (some ⟨x, 0, none⟩) n c) from fun W' he => ⟨ex.trans he, (he.cell (p := ⟨W.heap.size, 0, none⟩) (show W.heap.size < _ by omega)).trans b0, (he.cell (p := ⟨W.heap.size, 1, none⟩) (show W.heap.size < _ by omega)).trans b1⟩)
  have HD := Lib.hid (show ∀ W' : World, Ext wx W' → W'.cell? ⟨W.heap.size + 1, 0, none⟩ = some (.int .i64 0) ∧ W'.cell? ⟨W.heap.size + 1, 1, none⟩ = some (.slice none 0 0) ∧ ∀ o, W'.frozen? ⟨W.heap.size + 1, o, none⟩ = false from fun W' he => ⟨(he.cell (p := ⟨W.heap.size + 1, 0, none⟩) xs1).trans d0, (he.cell (p := ⟨W.heap.size + 1, 1, none⟩) xs1).trans d1, fun o => ((Below.frozen (p := ⟨W.heap.size + 1, o, none⟩) he xs1)).trans (fz o)⟩)
  have HR1 := Lib.hid (show ∀ W' : World, Ext wx W' → (0 < i → ∃ y oy, GA = some ⟨y, oy, none⟩ ∧ ∀ j, j < i → W'.cell? ⟨y, oy + j, none⟩ = some ((vals ((rowAt rows l).take i)).getD j undef)) from fun W' he => ((K2.out.ext (ex.trans he)).head (by omega)).2)
  have HR2 := Lib.hid (show ∀ W' : World, Ext wx W' → (AX = none → gc - i = 0) ∧ (0 < gn - i → ∃ y oy, AX = some ⟨y, oy, none⟩ ∧ ∀ j, j < gn - i → W'.cell? ⟨y, oy + j, none⟩ = some ((vals ((rowAt rows l).drop i)).getD j undef)) from fun W' he => hlX _ _ _ (K2.out.ext (ex.trans he)))
  have hG0 := K2.out.2.2.2.1
  have lt1 : (vals ((rowAt rows l).take i)).length = i := by rw [vals_len, List.length_take]; omega
  have lt2 : (vals ((rowAt rows l).drop i)).length = gn - i := by rw [vals_len, List.length_drop]; omega
  clear hlX d0 d1 fz b0 b1
  go_region_held3 (fun W' => Ext W W' ∧ W'.cell? ⟨W.heap.size, 0, none⟩ = some (.int .i64 (N : Int)) ∧ W'.cell? ⟨W.heap.size, 1, none⟩ = some (.slice (some ⟨x, 0, none⟩) n c))
    (first | exact HE _ _ | exact HB.out _ (by (repeat (first | with_reducible exact Ext.refl _ | with_reducible assumption | with_reducible apply Ext.drew | with_reducible apply Ext.drewN | with_reducible apply Ext.alloc | (with_reducible refine Ext.setCell ?_ (by simp <;> omega) _) | (with_reducible refine Ext.trans ?_ (by with_reducible assumption))))))
    (first
      | (refine step_append_vals rfl (.tmp 17) (.tmp 20) rfl Try.underlying41 infoInt rfl (by omega) rfl (OwnV.nil (base := wx.heap.size) ?_ ?_) rfl hG0 lt1 (fun hn => HR1.out _ (by (repeat (first | with_reducible exact Ext.refl _ | with_reducible assumption | with_reducible apply Ext.drew | with_reducible apply Ext.drewN | with_reducible apply Ext.alloc | (with_reducible refine Ext.setCell ?_ (by simp <;> omega) _) | (with_reducible refine Ext.trans ?_ (by with_reducible assumption))))) hn) (vals_one _) (by simp; omega) (by simp <;> omega) ?_; (first | exact Nat.le_refl _ | exact Nat.le_succ _); (first | exact heap_alloc_new _ _ | exact heap_alloc2_new _ _ _ | exact (Below.heap_alloc _ _ _ (by simp <;> omega)).trans (heap_alloc_new _ _)); intro v1 w1 o1 g1; have e1 : Ext wx w1 := Ext.grown (by (repeat (first | with_reducible exact Ext.refl _ | with_reducible assumption | with_reducible apply Ext.drew | with_reducible apply Ext.drewN | with_reducible apply Ext.alloc | (with_reducible refine Ext.setCell ?_ (by simp <;> omega) _) | (with_reducible refine Ext.trans ?_ (by with_reducible assumption))))) g1 (fun k hk => own_row_ge hk (by first | exact Nat.le_refl _ | exact Nat.le_succ _)))
      | (refine step_append_vals rfl (.tmp 21) (.tmp 23) rfl Try.underlying41 infoInt rfl (by omega) rfl (OwnV.ext o1 (by (repeat (first | with_reducible exact Ext.refl _ | with_reducible assumption | with_reducible apply Ext.drew | with_reducible apply Ext.drewN | with_reducible apply Ext.alloc | (with_reducible refine Ext.setCell ?_ (by simp <;> omega) _) | (with_reducible refine Ext.trans ?_ (by with_reducible assumption)))))) rfl (by simp) (ys := vals [node]) rfl ?_ (vals_one _) (by simp [vals_len]; omega) (by have := e1.sz; simp; omega) ?_; (exact fun _ => ⟨_, 0, rfl, fun j hj => (by obtain rfl : j = 0 := (by omega); first | exact World.cell?_alloc_new _ _ _ 0 | exact node_at (two2 wx #[] #[.int .i64 (node : Int)] _ _ 0) g1 (by simp <;> omega) (by simp) | exact node_at (two1 wx #[.int .i64 (node : Int)] #[] _ _ 0) g1 (by simp <;> omega) (by simp))⟩); intro v2 w2 o2 g2; have e2 : Ext wx w2 := Ext.grown (by (repeat (first | with_reducible exact Ext.refl _ | with_reducible assumption | with_reducible apply Ext.drew | with_reducible apply Ext.drewN | with_reducible apply Ext.alloc | (with_reducible refine Ext.setCell ?_ (by simp <;> omega) _) | (with_reducible refine Ext.trans ?_ (by with_reducible assumption))))) g2 (fun k hk => o1.base_le k hk))
      | (refine step_append_vals rfl (.tmp 24) (.tmp 27) rfl Try.underlying41 infoInt rfl (by omega) rfl o2 rfl (HR2.out _ e2).1 lt2 (HR2.out _ e2).2 (vals_one _) (by simp [vals_len]; omega) e2.sz ?_; intro v3 w3 o3 g3; have e3 : Ext wx w3 := Ext.grown e2 g3 (fun k hk => o2.base_le k hk); obtain ⟨A3, m3, c3, rfl, R3⟩ := put_row o3 (L := fun x => L x ∧ x ≠ W.heap.size + 1) (fun y hy => ⟨hL y (by omega), by omega⟩))
      | (go_at_call 38; refine (with_any (fun x => L x ∧ x ≠ W.heap.size + 1) N l rows _ A3 m3 c3 _ hl hM w3 (fun y hy => ⟨hL y (by have := e3.sz; omega), by have := e3.sz; omega⟩) ((H0.out.mono (fun y hy hlt => ⟨hy, by omega⟩)).ext (ex.trans e3)) R3).mono ?_; rintro e w4 ⟨v4, rfl, R4, e4⟩; obtain ⟨A4, n4, c4, rfl, -⟩ := id R4; have E4 := e3.trans e4; obtain ⟨d0, d1, fz⟩ := HD.out _ E4; have HE := after2 W w4 (ex.trans E4) (HB.out _ E4).2.1 (HB.out _ E4).2.2))
  all_goals
    go_wp2_with fail
    (try simp only [Exit.inBlock, Exit.then])
    refine bodyPost_ret (v := .agg #[.int .i64 (N : Int), .slice A4 n4 c4]) (results_cell1 rfl rfl (by go_simp)) rfl ?_
    refine ⟨_, rfl, ?_, (after2 W w4 (ex.trans E4) (HB.out _ E4).2.1 (HB.out _ E4).2.2 _ _).1⟩
    refine (R4.kept (fun y hy hlt => ?_)).mono (fun y hy _ => hy.1)
    rw [Below.heap_setCell _ _ _ _ hy.2, Below.heap_setCell _ _ _ _ hy.2]
end Go.Proofs.Ytpcmfgkbfamdoaa
