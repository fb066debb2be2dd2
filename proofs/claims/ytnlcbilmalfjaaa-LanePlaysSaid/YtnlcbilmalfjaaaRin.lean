/- A part of the proof of a law of roundel: contracts of functions and lemmas, each true as it stands; no condition beyond those that its theorems state. -/
import Derived.Test.YtnlcbilmalfjaaaRb
import Derived.Test.YtnlcbilmalfjaaaQt
namespace Go.Proofs.Ytnlcbilmalfjaaa
set_option linter.unusedSimpArgs false
set_option linter.unusedVariables false
open Go.RowKit

theorem upFit_succ (T : Nat → Int) (r : List Nat) (tag : Int) (i : Nat) : upFit T r tag (i + 1) = if tag < T (r.getD i 0) then upFit T r tag i else i + 1 := rfl
theorem RowL.flat {W : World} {L : Nat → Prop} {A : Option Addr} {n c : Nat} {T : Nat → Int} {r : List Nat} (h : RowL W L A n c T r) (hn : 0 < n) : ∃ y, A = some ⟨y, 0, none⟩ ∧ L y ∧ ∀ j, j < n * 2 → W.cell? ⟨y, j, none⟩ = some ((pairs T r).getD j undef) := by
  obtain ⟨y, hA, hL, hc⟩ := h.2.2.2.2 hn
  refine ⟨y, hA, hL, fun j hj => ?_⟩
  have hr := h.1
  obtain ⟨c0, c1⟩ := hc (j / 2) (by omega)
  rcases Nat.mod_two_eq_zero_or_one j with e | e
  · have ej : j = j / 2 * 2 := by omega
    rw [ej, pairs_node T r (j / 2) (by omega)]
    exact c0
  · have ej : j = j / 2 * 2 + 1 := by omega
    rw [ej, pairs_tag T r (j / 2) (by omega)]
    exact c1
theorem pairs_take (T : Nat → Int) : ∀ (r : List Nat) (i j : Nat), j < i * 2 → (pairs T (r.take i)).getD j undef = (pairs T r).getD j undef
  | [], i, j, _ => by simp
  | x :: r, 0, j, h => by omega
  | x :: r, i + 1, 0, _ => rfl
  | x :: r, i + 1, 1, _ => rfl
  | x :: r, i + 1, j + 2, h => by
    have := pairs_take T r i j (by omega)
    simpa [pairs] using this
theorem pairs_drop (T : Nat → Int) : ∀ (r : List Nat) (i j : Nat), (pairs T (r.drop i)).getD j undef = (pairs T r).getD (i * 2 + j) undef
  | [], i, j => by simp [pairs]
  | x :: r, 0, j => by simp
  | x :: r, i + 1, j => by
    have := pairs_drop T r i j
    rw [show (i + 1) * 2 + j = i * 2 + j + 1 + 1 by omega]
    simpa [pairs] using this
theorem row_rest (GA : Option Addr) (gn gc i : Nat) (hi : i ≤ gn) (hgc : gn ≤ gc) : ∃ AX, (∀ w, (Instr.slice 69 (.slice GA gn gc) (some (.int .i64 (i : Int))) none none).run Try.prog w = .ok (.slice AX (gn - i) (gc - i)) w) ∧
    (∀ w, (Instr.sliceAt 69 (.slice GA gn gc) (some (.int .i64 (i : Int))) none none).run Try.prog w = .ok (.slice AX (gn - i) (gc - i)) w) ∧
    ∀ (W : World) (L : Nat → Prop) (T : Nat → Int) (r : List Nat), RowL W L GA gn gc T r → (AX = none → gc - i = 0) ∧ (0 < gn - i → ∃ y oy, AX = some ⟨y, oy, none⟩ ∧ ∀ j, j < (gn - i) * 2 → W.cell? ⟨y, oy + j, none⟩ = some ((pairs T (r.drop i)).getD j undef)) := by
  have h1 : ∀ w, (Instr.slice 69 (.slice GA gn gc) (some (.int .i64 (i : Int))) none none).run Try.prog w = .ok (.slice (if gc = i then GA else Option.map (fun x => x.add (i * 2)) GA) (gn - i) (gc - i)) w := by
    intro w
    rw [Go.run_slice_l (P := Try.prog) w 69 GA gn gc Try.underlying69 .i64 (i : Int) (by omega) (by omega)]
    simp [go_sem]
  refine ⟨_, h1, fun w => ?_, fun W L T r hr => ?_⟩
  · rw [run_sliceAt_slice (P := Try.prog) w 69 _ _ _ _ Try.underlying69]
    exact h1 w
  · have r4 := hr.2.2.2.1
    refine ⟨fun h => ?_, fun hn => ?_⟩
    · cases GA with
      | none => have := r4 rfl; omega
      | some a =>
        split at h
        · omega
        · cases h
    · obtain ⟨y, rfl, _, hc⟩ := hr.flat (by omega)
      rw [if_neg (by omega)]
      refine ⟨y, i * 2, by simp [Addr.add]; omega, fun j hj => ?_⟩
      rw [hc (i * 2 + j) (by omega), pairs_drop]
theorem RowL.head {W : World} {L : Nat → Prop} {GA : Option Addr} {gn gc i : Nat} {T : Nat → Int} {r : List Nat} (h : RowL W L GA gn gc T r) (hi : i ≤ gn) : (GA = none → gc = 0) ∧ (0 < i → ∃ y oy, GA = some ⟨y, oy, none⟩ ∧ ∀ j, j < i * 2 → W.cell? ⟨y, oy + j, none⟩ = some ((pairs T (r.take i)).getD j undef)) := by
  refine ⟨h.2.2.2.1, fun hn => ?_⟩
  obtain ⟨y, rfl, _, hc⟩ := h.flat (by omega)
  refine ⟨y, 0, rfl, fun j hj => ?_⟩
  rw [Nat.zero_add, hc j (by omega), pairs_take T r i j hj]
theorem put_row {W : World} {base : Nat} {L : Nat → Prop} {v : Value} {T : Nat → Int} {a d : List Nat} {n m : Nat} {xs : List Value} (o : OwnS W base 72 2 v m xs) (hx : xs = pairs T (a ++ n :: d)) (hm : (a ++ n :: d).length = m) (hL : ∀ x, base ≤ x → L x) : ∃ A m c, v = .slice A m c ∧ RowL W L A m c T (a ++ n :: d) := by
  subst hx
  obtain ⟨A, c, h⟩ := o.rowL hm hL
  exact ⟨A, _, c, h⟩
theorem own_row_ge {g base k n c : Nat} (h : (Value.slice (some ⟨g, 0, none⟩) n c).ownBlock = some k) (hb : base ≤ g) : base ≤ k := by
  injection h with h
  rw [← h]
  exact hb
theorem node_at {w0 w1 : World} {k o g n c : Nat} {u : Value} (hc : w0.cell? ⟨k, o, none⟩ = some u) (g1 : w0.drew.grownBy w1 (Value.slice (some ⟨g, 0, none⟩) n c).ownBlock) (h1 : k < w0.heap.size) (h2 : k ≠ g) : w1.cell? ⟨k, o, none⟩ = some u := by
  have hk : some k ≠ (Value.slice (some ⟨g, 0, none⟩) n c).ownBlock := fun e => h2 (Option.some.inj e)
  exact (World.cell?_of_block (a := ⟨k, o, none⟩) (g1.block k h1 hk)).trans hc

set_option maxRecDepth 100000 in
set_option maxHeartbeats 1600000 in
theorem In_any (L : Nat → Prop) (T T' : Nat → Int) (r : List Nat) (GA : Option Addr) (gn gc node : Nat) (tag : Int) (h64 : gn ≤ 64) (hT : ∀ x ∈ r, T' x = T x) (hT' : T' node = tag) (W : World) (hL : ∀ x, W.heap.size ≤ x → L x) (HR : RowL W L GA gn gc T r) :
    Calls Try.prog 41 #[.slice GA gn gc, .agg #[.int .i64 (node : Int), .int .i64 tag]] W fun e W' => ∃ A m c, e = .returned (.slice A m c) ∧ RowL W' L A m c T' (insRow T r node tag) ∧ Ext W W' := by
  obtain ⟨k, hk⟩ : ∃ k, k = upFit T r tag r.length := ⟨_, rfl⟩
  have hgn := HR.1
  have hgc := HR.2.1
  have hg63 := HR.2.2.1
  have K2 := Lib.hid HR
  have HK := Lib.hid hk
  obtain ⟨W1, hW1⟩ : ∃ W1, W1 = W.alloc (.cells #[.int .i64 (node : Int), .int .i64 tag] 72) := ⟨_, rfl⟩
  have x1 : Ext W W1 := by rw [hW1]; exact (Ext.refl _).alloc _
  have c0 : W1.cell? ⟨W.heap.size, 0, none⟩ = some (.int .i64 (node : Int)) := by rw [hW1]; exact World.cell?_alloc_new _ _ _ 0
  have c1 : W1.cell? ⟨W.heap.size, 1, none⟩ = some (.int .i64 tag) := by rw [hW1]; exact World.cell?_alloc_new _ _ _ 1
  have z1 : W1.heap.size = W.heap.size + 1 := by rw [hW1]; simp
  have HW1 := Lib.hid hW1
  clear hk HR hW1
  go_enter Try.func41, Try.ntmps41
  go_wp2_with fail
  rw [← HW1.out]
  go_loopw [5] (fun i wr => ∃ j : Nat, j ≤ gn ∧ i = .int .i64 (j : Int) ∧ upFit T r tag j = k ∧ Ext W1 wr) (fun i _ => (intOf i).toNat)
  case atStart => exact ⟨gn, by omega, rfl, by rw [HK.out, hgn], Ext.refl _⟩
  case round =>
    obtain ⟨j, hj, rfl, hu, er⟩ := hrel
    have d0 := (er.cell (p := ⟨W.heap.size, 0, none⟩) (by simp; omega)).trans c0
    have d1 := (er.cell (p := ⟨W.heap.size, 1, none⟩) (by simp; omega)).trans c1
    by_cases hj0 : 0 < j
    · have q0 : (0 : Int) < (j : Int) := by omega
      have qd : decide ((0 : Int) < (j : Int)) = true := decide_eq_true q0
      have wj : IntKind.i64.wrap ((j : Int) - 1) = (j : Int) - 1 := IntWalk.i64_in _ (by omega)
      have tj : ((j : Int) - 1).toNat = j - 1 := by omega
      have j0 : 0 ≤ (j : Int) - 1 := by omega
      have j1 : (j : Int) - 1 < (gn : Int) := by omega
      obtain ⟨y, rfl, hy, hyc⟩ := K2.out.2.2.2.2 (by omega)
      have ya := (hyc (j - 1) (by omega)).2
      obtain ⟨ty, hty⟩ : ∃ ty, ty = T (r.getD (j - 1) 0) := ⟨_, rfl⟩
      rw [← hty] at ya
      have y1 := ((x1.trans er).cell (p := ⟨y, (j - 1) * 2 + 1, none⟩) (block_lt_of_cell ya)).trans ya
      have hu1 : upFit T r tag j = if tag < ty then upFit T r tag (j - 1) else j := by
        rw [hty]
        have := upFit_succ T r tag (j - 1)
        rwa [show j - 1 + 1 = j by omega] at this
      have HU := Lib.hid (And.intro hu hu1)
      clear hyc ya hty hu hu1
      by_cases hg : tag < ty
      · have hd : decide (tag < ty) = true := decide_eq_true hg
        have HG := Lib.hid hg
        clear hg
        go_wp2_with fail
        refine region_quiet_plain (n := 5) (by kernel_rfl) (by kernel_rfl) ?_
        repeat (gi_big_quiet_step (fail))
        refine wpQuietIn_nil ?_
        rintro w' ⟨q, rfl⟩
        simp only [Exit.then]
        go_wp2_with fail
        go_roundw
        case rel => exact ⟨j - 1, by omega, by go_num, by have := HU.out.2; rw [if_pos (by have := HG.out; omega)] at this; rw [← this]; exact HU.out.1, er.drewN q⟩
        case measure => simp [intOf]; omega
      · have hd : decide (tag < ty) = false := decide_eq_false hg
        have HG := Lib.hid hg
        clear hg
        go_wp2_with fail
        refine region_quiet_plain (n := 5) (by kernel_rfl) (by kernel_rfl) ?_
        repeat (gi_big_quiet_step (fail))
        refine wpQuietIn_nil ?_
        rintro w' ⟨q, rfl⟩
        simp only [Exit.then]
        have hkj : j = k := by have := HU.out.2; rw [if_neg (by have := HG.out; omega)] at this; rw [← this]; exact HU.out.1
        subst hkj
        go_wp2_with fail
        obtain ⟨wx, hwx⟩ : ∃ wx, wx = wr.drewN q := ⟨_, rfl⟩
        rw [← hwx]
        have ex : Ext W wx := by rw [hwx]; exact (x1.trans er).drewN q
        have b0 : wx.cell? ⟨W.heap.size, 0, none⟩ = some (.int .i64 (node : Int)) := by rw [hwx]; exact d0
        have b1 : wx.cell? ⟨W.heap.size, 1, none⟩ = some (.int .i64 tag) := by rw [hwx]; exact d1
        have xs1 : W.heap.size < wx.heap.size := block_lt_of_cell b0
        clear hwx d0 d1 er
        obtain ⟨AX, hsl1, hsl2, hlX⟩ := row_rest (some ⟨y, 0, none⟩ : Option Addr) gn gc j hj hgc
        have q2 : ((j : Nat) : Int) ≤ (gc : Int) := by omega
        have q3 : ((j : Nat) : Int) ≤ (gn : Int) := by omega
        have HB := Lib.hid (show ∀ W' : World, Ext wx W' → Ext W W' ∧ W'.cell? ⟨W.heap.size, 0, none⟩ = some (.int .i64 (node : Int)) ∧ W'.cell? ⟨W.heap.size, 1, none⟩ = some (.int .i64 tag) from fun W' he => ⟨ex.trans he, (he.cell (p := ⟨W.heap.size, 0, none⟩) xs1).trans b0, (he.cell (p := ⟨W.heap.size, 1, none⟩) xs1).trans b1⟩)
        have HR1 := Lib.hid (show ∀ W' : World, Ext wx W' → (0 < j → ∃ yy oy, (some ⟨y, 0, none⟩ : Option Addr) = some ⟨yy, oy, none⟩ ∧ ∀ i, i < j * 2 → W'.cell? ⟨yy, oy + i, none⟩ = some ((pairs T (r.take j)).getD i undef)) from fun W' he => ((K2.out.ext (ex.trans he)).head hj).2)
        have HR2 := Lib.hid (show ∀ W' : World, Ext wx W' → (AX = none → gc - j = 0) ∧ (0 < gn - j → ∃ y oy, AX = some ⟨y, oy, none⟩ ∧ ∀ i, i < (gn - j) * 2 → W'.cell? ⟨y, oy + i, none⟩ = some ((pairs T (r.drop j)).getD i undef)) from fun W' he => hlX _ _ _ _ (K2.out.ext (ex.trans he)))
        have hG0 := K2.out.2.2.2.1
        have lt1 : (pairs T (r.take j)).length = j * 2 := by rw [pairs_len, List.length_take]; omega
        have lt2 : (pairs T (r.drop j)).length = (gn - j) * 2 := by rw [pairs_len, List.length_drop]; omega
        have HX := Lib.hid (show insRow T r node tag = r.take j ++ node :: r.drop j by unfold insRow; rw [← HK.out])
        have hpl : (r.take j ++ node :: r.drop j).length = 0 + j + 1 + (gn - j) := by rw [List.length_append, List.length_cons, List.length_take, List.length_drop]; omega
        have HP := Lib.hid (And.intro hpl (show [] ++ pairs T (r.take j) ++ [.int .i64 (node : Int), .int .i64 tag] ++ pairs T (r.drop j) = pairs T' (r.take j ++ node :: r.drop j) by
          rw [pairs_append, List.nil_append, List.append_assoc]
          have e1 : pairs T' (r.take j) = pairs T (r.take j) := pairs_congr (fun x hx => hT x (List.mem_of_mem_take hx))
          have e2 : pairs T' (r.drop j) = pairs T (r.drop j) := pairs_congr (fun x hx => hT x (List.mem_of_mem_drop hx))
          simp only [pairs, e1, e2, hT', List.cons_append, List.nil_append]))
        clear hlX b0 b1 hpl hT hT'
        go_region_held3 (fun W' => Ext W W' ∧ W'.cell? ⟨W.heap.size, 0, none⟩ = some (.int .i64 (node : Int)) ∧ W'.cell? ⟨W.heap.size, 1, none⟩ = some (.int .i64 tag))
          (exact HB.out _ (by (repeat (first | with_reducible exact Ext.refl _ | with_reducible assumption | with_reducible apply Ext.drew | with_reducible apply Ext.drewN | with_reducible apply Ext.alloc | (with_reducible refine Ext.setCell ?_ (by simp <;> omega) _) | (with_reducible refine Ext.trans ?_ (by with_reducible assumption))))))
          (first
            | (refine step_append_sz rfl (.tmp 23) (.tmp 26) rfl Try.underlying69 infoN rfl (by omega) (by omega) rfl (OwnS.nil (base := wx.heap.size) ?_ ?_) rfl hG0 lt1 (fun hn => HR1.out _ (by (repeat (first | with_reducible exact Ext.refl _ | with_reducible assumption | with_reducible apply Ext.drew | with_reducible apply Ext.drewN | with_reducible apply Ext.alloc | (with_reducible refine Ext.setCell ?_ (by simp <;> omega) _) | (with_reducible refine Ext.trans ?_ (by with_reducible assumption))))) hn) (pairs_one _ _) (by simp <;> omega) (by simp <;> omega) ?_; (first | exact Nat.le_refl _ | exact Nat.le_succ _); (first | exact heap_alloc_new _ _ | exact heap_alloc2_new _ _ _ | exact (Below.heap_alloc _ _ _ (by simp <;> omega)).trans (heap_alloc_new _ _)); intro v1 w1 o1 g1; have e1 : Ext wx w1 := Ext.grown (by (repeat (first | with_reducible exact Ext.refl _ | with_reducible assumption | with_reducible apply Ext.drew | with_reducible apply Ext.drewN | with_reducible apply Ext.alloc | (with_reducible refine Ext.setCell ?_ (by simp <;> omega) _) | (with_reducible refine Ext.trans ?_ (by with_reducible assumption))))) g1 (fun k hk => own_row_ge hk (by first | exact Nat.le_refl _ | exact Nat.le_succ _)))
            | (refine step_append_sz rfl (.tmp 27) (.tmp 29) rfl Try.underlying69 infoN rfl (by omega) (by omega) rfl (OwnS.ext o1 (by (repeat (first | with_reducible exact Ext.refl _ | with_reducible assumption | with_reducible apply Ext.drew | with_reducible apply Ext.drewN | with_reducible apply Ext.alloc | (with_reducible refine Ext.setCell ?_ (by simp <;> omega) _) | (with_reducible refine Ext.trans ?_ (by with_reducible assumption)))))) rfl (by simp) (ys := [.int .i64 (node : Int), .int .i64 tag]) rfl ?_ (fun u hu => (by simp at hu; rcases hu with rfl | rfl <;> rfl)) (by omega) (by have := e1.sz; simp; omega) ?_; (exact fun _ => ⟨_, 0, rfl, fun i hi => (by have hi2 : i = 0 ∨ i = 1 := (by omega); rcases hi2 with rfl | rfl <;> (first | exact World.cell?_alloc_new _ _ _ _ | exact node_at (two2 wx #[] #[.int .i64 (node : Int), .int .i64 tag] _ _ _) g1 (by simp <;> omega) (by simp) | exact node_at (two1 wx #[.int .i64 (node : Int), .int .i64 tag] #[] _ _ _) g1 (by simp <;> omega) (by simp)))⟩); intro v2 w2 o2 g2; have e2 : Ext wx w2 := Ext.grown (by (repeat (first | with_reducible exact Ext.refl _ | with_reducible assumption | with_reducible apply Ext.drew | with_reducible apply Ext.drewN | with_reducible apply Ext.alloc | (with_reducible refine Ext.setCell ?_ (by simp <;> omega) _) | (with_reducible refine Ext.trans ?_ (by with_reducible assumption))))) g2 (fun k hk => o1.base_le k hk))
            | (refine step_append_sz rfl (.tmp 30) (.tmp 33) rfl Try.underlying69 infoN rfl (by omega) (by omega) rfl o2 rfl (HR2.out _ e2).1 lt2 (HR2.out _ e2).2 (pairs_one _ _) (by omega) e2.sz ?_; intro v3 w3 o3 g3; have e3 : Ext wx w3 := Ext.grown e2 g3 (fun k hk => o2.base_le k hk); obtain ⟨A3, m3, c3, rfl, R3⟩ := put_row o3 HP.out.2 HP.out.1 (L := L) (fun y hy => hL y (by omega))))
        all_goals
          go_wp2_with fail
          go_ret
          exact ⟨A3, m3, c3, rfl, by rw [HX.out]; exact R3, ex.trans e3⟩
    · obtain rfl : j = 0 := by omega
      go_wp2_with fail
      refine region_quiet_plain (n := 5) (by kernel_rfl) (by kernel_rfl) ?_
      repeat (gi_big_quiet_step (fail))
      refine wpQuietIn_nil ?_
      rintro w' ⟨q, rfl⟩
      simp only [Exit.then]
      have hk0 : 0 = k := hu
      subst hk0
      go_wp2_with fail
      clear hu
      obtain ⟨wx, hwx⟩ : ∃ wx, wx = wr.drewN q := ⟨_, rfl⟩
      rw [← hwx]
      have ex : Ext W wx := by rw [hwx]; exact (x1.trans er).drewN q
      have b0 : wx.cell? ⟨W.heap.size, 0, none⟩ = some (.int .i64 (node : Int)) := by rw [hwx]; exact d0
      have b1 : wx.cell? ⟨W.heap.size, 1, none⟩ = some (.int .i64 tag) := by rw [hwx]; exact d1
      have xs1 : W.heap.size < wx.heap.size := block_lt_of_cell b0
      clear hwx d0 d1 er
      obtain ⟨AX, hsl1, hsl2, hlX⟩ := row_rest GA gn gc 0 hj hgc
      have q2 : ((0 : Nat) : Int) ≤ (gc : Int) := by omega
      have q3 : ((0 : Nat) : Int) ≤ (gn : Int) := by omega
      have HB := Lib.hid (show ∀ W' : World, Ext wx W' → Ext W W' ∧ W'.cell? ⟨W.heap.size, 0, none⟩ = some (.int .i64 (node : Int)) ∧ W'.cell? ⟨W.heap.size, 1, none⟩ = some (.int .i64 tag) from fun W' he => ⟨ex.trans he, (he.cell (p := ⟨W.heap.size, 0, none⟩) xs1).trans b0, (he.cell (p := ⟨W.heap.size, 1, none⟩) xs1).trans b1⟩)
      have HR1 := Lib.hid (show ∀ W' : World, Ext wx W' → (0 < 0 → ∃ yy oy, GA = some ⟨yy, oy, none⟩ ∧ ∀ i, i < 0 * 2 → W'.cell? ⟨yy, oy + i, none⟩ = some ((pairs T (r.take 0)).getD i undef)) from fun W' he => ((K2.out.ext (ex.trans he)).head hj).2)
      have HR2 := Lib.hid (show ∀ W' : World, Ext wx W' → (AX = none → gc - 0 = 0) ∧ (0 < gn - 0 → ∃ y oy, AX = some ⟨y, oy, none⟩ ∧ ∀ i, i < (gn - 0) * 2 → W'.cell? ⟨y, oy + i, none⟩ = some ((pairs T (r.drop 0)).getD i undef)) from fun W' he => hlX _ _ _ _ (K2.out.ext (ex.trans he)))
      have hG0 := K2.out.2.2.2.1
      have lt1 : (pairs T (r.take 0)).length = 0 * 2 := by rw [pairs_len, List.length_take]; omega
      have lt2 : (pairs T (r.drop 0)).length = (gn - 0) * 2 := by rw [pairs_len, List.length_drop]; omega
      have HX := Lib.hid (show insRow T r node tag = r.take 0 ++ node :: r.drop 0 by unfold insRow; rw [← HK.out])
      have hpl : (r.take 0 ++ node :: r.drop 0).length = 0 + 0 + 1 + (gn - 0) := by rw [List.length_append, List.length_cons, List.length_take, List.length_drop]; omega
      have HP := Lib.hid (And.intro hpl (show [] ++ pairs T (r.take 0) ++ [.int .i64 (node : Int), .int .i64 tag] ++ pairs T (r.drop 0) = pairs T' (r.take 0 ++ node :: r.drop 0) by
        rw [pairs_append, List.nil_append, List.append_assoc]
        have e1 : pairs T' (r.take 0) = pairs T (r.take 0) := pairs_congr (fun x hx => hT x (List.mem_of_mem_take hx))
        have e2 : pairs T' (r.drop 0) = pairs T (r.drop 0) := pairs_congr (fun x hx => hT x (List.mem_of_mem_drop hx))
        simp only [pairs, e1, e2, hT', List.cons_append, List.nil_append]))
      clear hlX b0 b1 hpl hT hT'
      go_region_held3 (fun W' => Ext W W' ∧ W'.cell? ⟨W.heap.size, 0, none⟩ = some (.int .i64 (node : Int)) ∧ W'.cell? ⟨W.heap.size, 1, none⟩ = some (.int .i64 tag))
        (exact HB.out _ (by (repeat (first | with_reducible exact Ext.refl _ | with_reducible assumption | with_reducible apply Ext.drew | with_reducible apply Ext.drewN | with_reducible apply Ext.alloc | (with_reducible refine Ext.setCell ?_ (by simp <;> omega) _) | (with_reducible refine Ext.trans ?_ (by with_reducible assumption))))))
        (first
          | (refine step_append_sz rfl (.tmp 23) (.tmp 26) rfl Try.underlying69 infoN rfl (by omega) (by omega) rfl (OwnS.nil (base := wx.heap.size) ?_ ?_) rfl hG0 lt1 (fun hn => HR1.out _ (by (repeat (first | with_reducible exact Ext.refl _ | with_reducible assumption | with_reducible apply Ext.drew | with_reducible apply Ext.drewN | with_reducible apply Ext.alloc | (with_reducible refine Ext.setCell ?_ (by simp <;> omega) _) | (with_reducible refine Ext.trans ?_ (by with_reducible assumption))))) hn) (pairs_one _ _) (by simp <;> omega) (by simp <;> omega) ?_; (first | exact Nat.le_refl _ | exact Nat.le_succ _); (first | exact heap_alloc_new _ _ | exact heap_alloc2_new _ _ _ | exact (Below.heap_alloc _ _ _ (by simp <;> omega)).trans (heap_alloc_new _ _)); intro v1 w1 o1 g1; have e1 : Ext wx w1 := Ext.grown (by (repeat (first | with_reducible exact Ext.refl _ | with_reducible assumption | with_reducible apply Ext.drew | with_reducible apply Ext.drewN | with_reducible apply Ext.alloc | (with_reducible refine Ext.setCell ?_ (by simp <;> omega) _) | (with_reducible refine Ext.trans ?_ (by with_reducible assumption))))) g1 (fun k hk => own_row_ge hk (by first | exact Nat.le_refl _ | exact Nat.le_succ _)))
          | (refine step_append_sz rfl (.tmp 27) (.tmp 29) rfl Try.underlying69 infoN rfl (by omega) (by omega) rfl (OwnS.ext o1 (by (repeat (first | with_reducible exact Ext.refl _ | with_reducible assumption | with_reducible apply Ext.drew | with_reducible apply Ext.drewN | with_reducible apply Ext.alloc | (with_reducible refine Ext.setCell ?_ (by simp <;> omega) _) | (with_reducible refine Ext.trans ?_ (by with_reducible assumption)))))) rfl (by simp) (ys := [.int .i64 (node : Int), .int .i64 tag]) rfl ?_ (fun u hu => (by simp at hu; rcases hu with rfl | rfl <;> rfl)) (by omega) (by have := e1.sz; simp; omega) ?_; (exact fun _ => ⟨_, 0, rfl, fun i hi => (by have hi2 : i = 0 ∨ i = 1 := (by omega); rcases hi2 with rfl | rfl <;> (first | exact World.cell?_alloc_new _ _ _ _ | exact node_at (two2 wx #[] #[.int .i64 (node : Int), .int .i64 tag] _ _ _) g1 (by simp <;> omega) (by simp) | exact node_at (two1 wx #[.int .i64 (node : Int), .int .i64 tag] #[] _ _ _) g1 (by simp <;> omega) (by simp)))⟩); intro v2 w2 o2 g2; have e2 : Ext wx w2 := Ext.grown (by (repeat (first | with_reducible exact Ext.refl _ | with_reducible assumption | with_reducible apply Ext.drew | with_reducible apply Ext.drewN | with_reducible apply Ext.alloc | (with_reducible refine Ext.setCell ?_ (by simp <;> omega) _) | (with_reducible refine Ext.trans ?_ (by with_reducible assumption))))) g2 (fun k hk => o1.base_le k hk))
          | (refine step_append_sz rfl (.tmp 30) (.tmp 33) rfl Try.underlying69 infoN rfl (by omega) (by omega) rfl o2 rfl hG0 (ys := pairs T r) (show (pairs T r).length = gn * 2 by rw [pairs_len]; omega) (fun hn => (by obtain ⟨y, h1, -, h2⟩ := (K2.out.ext (ex.trans e2)).flat hn; exact ⟨y, 0, h1, fun i hi => (by rw [Nat.zero_add]; exact h2 i hi)⟩)) (pairs_one _ _) (by omega) e2.sz ?_; intro v3 w3 o3 g3; have e3 : Ext wx w3 := Ext.grown e2 g3 (fun k hk => o2.base_le k hk); obtain ⟨A3, m3, c3, rfl, R3⟩ := put_row o3 HP.out.2 HP.out.1 (L := L) (fun y hy => hL y (by omega))))
      all_goals
        go_wp2_with fail
        go_ret
        exact ⟨A3, m3, c3, rfl, by rw [HX.out]; exact R3, ex.trans e3⟩
end Go.Proofs.Ytnlcbilmalfjaaa
