/- A part of the proof of a law of roundel: contracts of functions and lemmas, each true as it stands; no condition beyond those that its theorems state. -/
import Derived.Test.YtnlcbilmalfjaaaV
namespace Go.Proofs.Ytnlcbilmalfjaaa
set_option linter.unusedSimpArgs false
set_option linter.unusedVariables false
open Go.RowKit Go.Shelf
attribute [local go_sem] Oper.semAt_some

theorem fitting_fn (nb : Nat) (core tag : Int) (f : Nat) (caps : Array Value) (W : World) : Calls Try.prog 36 #[.pointer (some ⟨nb, 0, none⟩), .int .i64 core, .int .i64 tag, .func (.func f) #[] caps] W fun e W' => e = .returned (.func (.func 50) #[] #[.pointer (some ⟨W.heap.size, 0, none⟩), .pointer (some ⟨W.heap.size + 1, 0, none⟩), .pointer (some ⟨W.heap.size + 1 + 1, 0, none⟩), .pointer (some ⟨W.heap.size + 1 + 1 + 1, 0, none⟩)]) ∧
    W' = (((W.alloc (.cells #[.pointer (some ⟨nb, 0, none⟩)] 24)).alloc (.cells #[.int .i64 core] 3)).alloc (.cells #[.int .i64 tag] 3)).alloc (.cells #[.func (.func f) #[] caps] 35) := by
  have hmf : ∀ (fn : Fn) (first cap : Array Value) (w : World), (Instr.makeFunc fn first cap).run Try.prog w = .ok (.func fn first cap) w := fun _ _ _ _ => rfl
  go_enter Try.func36, Try.ntmps36
  go_wp2
  go_ret
  exact ⟨rfl, rfl⟩
theorem FitOk.step {N f : Nat} {caps : Array Value} {p : Nat → Bool} {ob : Nat} {w w' : World} (h : FitOk N f caps p ob w) (k : Kc ob w w') : FitOk N f caps p ob w' := ⟨h.en, fun x W hx hk => h.says x W hx (k.trans hk)⟩

/-- The nodes of a row that have a tag, and fit. -/
def fitRow (T : Nat → Int) (tag : Int) (p : Nat → Bool) (r : List Nat) : List Nat := r.filter (fun x => T x == tag && p x)

theorem Kc.setOb {ob : Nat} (W : World) (o : Nat) (hob : o = ob) (v : Value) : Kc ob W (W.setCell ⟨o, 0, none⟩ v) := ⟨by simp, fun k x hk _ hn => (Below.heap_setCell _ _ _ _ (by simp; omega)).trans hk⟩
def cnt : Nat → Int
  | 0 => 0
  | k + 1 => wrap64 (cnt k + 1)
theorem cnt_is : ∀ {k : Nat}, k ≤ 64 → cnt k = (k : Int)
  | 0, _ => rfl
  | k + 1, h => by
    rw [cnt, cnt_is (by omega), IntWalk.wrap64_in _ (by omega)]
    omega

section
variable {B nb tg rb lb mb N M : Nat} {rows : List (List Nat)} {T : Nat → Int}
theorem Ls.lts {W : World} (h : Ls W B nb tg rb lb mb N M rows T) : nb < W.heap.size ∧ tg < W.heap.size ∧ rb < W.heap.size ∧ lb < W.heap.size ∧ mb < W.heap.size :=
  ⟨h.lt.1, h.lt.2, h.rr.elim fun _ k => k.1.lt.1, h.rr.ge.2.2.1, h.rr.ge.2.2.2⟩
set_option maxRecDepth 100000 in
set_option maxHeartbeats 1600000 in
theorem LFirst_any (core tag : Int) (f : Nat) (caps : Array Value) (p : Nat → Bool) (W : World) (row : List Nat) (hrow : row = fitRow T tag p (rowI rows core)) (hM : 0 < M) (hN : 0 < N) (H : Ls W B nb tg rb lb mb N M rows T) (hF : FitOk N f caps p W.heap.size W) :
    Calls Try.prog 15 #[.pointer (some ⟨nb, 0, none⟩), .int .i64 core, .int .i64 tag, .func (.func f) #[] caps] W fun e W' => e = .returned (.int .i64 (firstI row)) ∧ Ext W W' := by
  obtain ⟨g0, g1, g2, g3, g4⟩ := H.lts
  have hmf : ∀ (fn : Fn) (first cap : Array Value) (w : World), (Instr.makeFunc fn first cap).run Try.prog w = .ok (.func fn first cap) w := fun _ _ _ _ => rfl
  obtain ⟨W0, hW0⟩ : ∃ W0, W0 = W.alloc (.cells #[.int .i64 0] 3) := ⟨_, rfl⟩
  obtain ⟨Wb, hWb⟩ : ∃ Wb, Wb = (((W0.alloc (.cells #[.pointer (some ⟨nb, 0, none⟩)] 24)).alloc (.cells #[.int .i64 core] 3)).alloc (.cells #[.int .i64 tag] 3)).alloc (.cells #[.func (.func f) #[] caps] 35) := ⟨_, rfl⟩
  have s0 : W0.heap.size = W.heap.size + 1 := by rw [hW0]; simp
  have sb : Wb.heap.size = W.heap.size + 1 + 1 + 1 + 1 + 1 := by rw [hWb]; simp [s0]
  have x0 : Ext W W0 := by rw [hW0]; exact (Ext.refl _).alloc _
  have x1 : Ext W0 Wb := by rw [hWb]; exact ((((Ext.refl _).alloc _).alloc _).alloc _).alloc _
  have c0 : Wb.cell? ⟨W.heap.size, 0, none⟩ = some (.int .i64 0) := (x1.cell (p := ⟨W.heap.size, 0, none⟩) (by simp; omega)).trans (by rw [hW0]; exact World.cell?_alloc_new _ _ _ 0)
  have f0 : Wb.frozen? ⟨W.heap.size, 0, none⟩ = false := (x1.cells.2 W.heap.size 0 (by omega)).trans (by rw [hW0]; exact World.frozen?_alloc_new _ _ _ 0)
  have d1 : Wb.cell? ⟨W0.heap.size, 0, none⟩ = some (.pointer (some ⟨nb, 0, none⟩)) := by rw [hWb, World.cell?_alloc_past _ _ _ (by simp; omega), World.cell?_alloc_past _ _ _ (by simp; omega)]; exact (two1 ..).trans rfl
  have d2 : Wb.cell? ⟨W0.heap.size + 1, 0, none⟩ = some (.int .i64 core) := by rw [hWb, World.cell?_alloc_past _ _ _ (by simp), World.cell?_alloc_past _ _ _ (by simp)]; exact (two2 ..).trans rfl
  have d3 : Wb.cell? ⟨W0.heap.size + 1 + 1, 0, none⟩ = some (.int .i64 tag) := by rw [hWb, World.cell?_alloc_past _ _ _ (by simp)]; exact (al3 ..).trans rfl
  have d4 : Wb.cell? ⟨W0.heap.size + 1 + 1 + 1, 0, none⟩ = some (.func (.func f) #[] caps) := by rw [hWb]; simpa using World.cell?_alloc_new (((W0.alloc (.cells #[.pointer (some ⟨nb, 0, none⟩)] 24)).alloc (.cells #[.int .i64 core] 3)).alloc (.cells #[.int .i64 tag] 3)) #[.func (.func f) #[] caps] 35 0
  have HR := Lib.hid hrow
  have HW0 := Lib.hid hW0
  have HWb := Lib.hid hWb
  clear hrow hW0 hWb
  rw [s0] at d1 d2 d3 d4
  have hFb := hF.step (((Kc.of_ext x0).trans (Kc.of_ext x1)))
  refine (callsIn_wide (n := 8)).1 (callsIn_of_wp_marks Try.func15 rfl trivial ?_ rfl)
  simp only [Try.ntmps15, List.size_toArray, List.length_cons, List.length_nil, Nat.reduceAdd, Nat.reduceSub, Array.replicate_succ, Array.replicate_zero, List.push_toArray, List.append_toArray, List.nil_append, List.cons_append]
  gi_wp2_with fail
  refine ⟨trivial, ?_⟩
  rw [← HW0.out]
  refine (callsIn_wide.2 (fitting_fn nb core tag f caps W0)).mono ?_
  rintro e z1 ⟨rfl, hz1⟩
  rw [← HWb.out, s0] at *
  have hz2 := hz1.symm; clear hz1; subst hz2
  gi_wp2_with fail
  refine wpIn_gives (fitting1_gives core tag W.heap.size (W.heap.size + 1) (W.heap.size + 1 + 1) (W.heap.size + 1 + 1 + 1) (W.heap.size + 1 + 1 + 1 + 1) f caps p Wb row HR.out hM hN (H.kept (x0.trans x1)) hFb d1 d2 d3 d4 (by omega) (by omega) (by omega) (by omega) (by omega) (by omega) (by omega) (by omega) (by omega) (by omega)) (Ext.refl _) rfl (enters_of Try.func50 (by kernel_rfl) rfl) rfl
    (fun pre V => (pre = [] ∧ V.cell? ⟨W.heap.size, 0, none⟩ = some (.int .i64 0) ∧ V.frozen? ⟨W.heap.size, 0, none⟩ = false) ∧ Ext W V)
    (fun c pre V => (c = .ret ∧ ∃ x, pre = [x] ∧ V.cell? ⟨W.heap.size, 0, none⟩ = some (.int .i64 (x : Int))) ∧ Ext W V)
    (OwnFrom.and (Own.from (fun s A B row hs hg hr => ⟨hs.1, cell_kept hs.2.1 hg hr, (frozen_kept hs.2.1 hg hr).trans hs.2.2⟩) _) (ownFrom_below (Nat.le_refl _) (by omega)))
    (fun c => OwnFrom.and (Own.from (fun s A B row hs hg hr => ⟨hs.1, hs.2.elim fun x h => ⟨x, h.1, cell_kept h.2 hg hr⟩⟩) _) (ownFrom_below (Nat.le_refl _) (by omega)))
    ⟨⟨rfl, c0, f0⟩, x0.trans x1⟩
    (fun x => { tmps := #[.pointer (some ⟨nb, 0, none⟩), .int .i64 core, .int .i64 tag, .func (.func f) #[] caps, undef, undef, undef, undef, .pointer (some ⟨W.heap.size, 0, none⟩), .int .i64 (x : Int), .pointer (some ⟨nb, 0, none⟩), .int .i64 core, .int .i64 tag, .func (.func f) #[] caps, .func (.func 50) #[] #[.pointer (some ⟨W.heap.size + 1, 0, none⟩), .pointer (some ⟨W.heap.size + 1 + 1, 0, none⟩), .pointer (some ⟨W.heap.size + 1 + 1 + 1, 0, none⟩), .pointer (some ⟨W.heap.size + 1 + 1 + 1 + 1, 0, none⟩)], .int .i64 (x : Int), undef], defers := [] }) ?assign ?body ?done ?stop
  case assign =>
    intro l2 x V K hK
    gi_wp2
    exact hK
  case body =>
    rintro l2 pre x V hx ⟨⟨rfl, hc, hf⟩, hB⟩
    gi_wp2_with fail
    exact ⟨(KeepsOthers.setCell _ _ _).from _, ⟨rfl, x, rfl, World.cell?_setCell_same' _ _ _ (by rw [hc]; rfl)⟩, hB.setCell (p := ⟨W.heap.size, 0, none⟩) (Nat.le_refl _) _⟩
  case done =>
    rintro D V hD ⟨⟨hp, hc, hf⟩, hB⟩ hd
    gi_wp2_with fail
    have hd' := (KeepsOthers.setCell V ⟨W.heap.size, 0, none⟩ (.int .i64 (-1))).same D _ hd rfl
    refine ⟨by simp, .inl ⟨_, _, rfl, run_takeDeferred hd', ?_⟩⟩
    have hc5 := cell_kept (World.cell?_setCell_same' V ⟨W.heap.size, 0, none⟩ (.int .i64 (-1)) (by rw [hc]; rfl)) (grownBy_putObj' _ D (.deferred none)) (fun r e => by cases e; exact ⟨_, hd', rfl⟩)
    refine ⟨.int .i64 (-1), ?_, by rw [hp]; rfl, (hB.setCell (p := ⟨W.heap.size, 0, none⟩) (Nat.le_refl _) _).step (belowK_b (w := W) (Nat.le_refl _) _ D _ _ (by omega) hd' rfl rfl) (Nat.le_refl _)⟩
    simp [results, Try.f15, go_sem, hc5]
  case stop =>
    rintro D c pre V hD hpre ⟨⟨rfl, x, rfl, hc⟩, hB⟩ hd
    gi_wp2_with fail
    refine ⟨by simp, .inl ⟨_, _, rfl, run_takeDeferred hd, ?_⟩⟩
    have hc5 := cell_kept hc (grownBy_putObj' _ D (.deferred none)) (fun r e => by cases e; exact ⟨_, hd, rfl⟩)
    refine ⟨.int .i64 (x : Int), ?_, by obtain ⟨t, ht⟩ := hpre; rw [← ht]; rfl, hB.step (belowK_b (w := W) (Nat.le_refl _) _ D _ _ (by omega) hd rfl rfl) (Nat.le_refl _)⟩
    simp [results, Try.f15, go_sem, hc5]
set_option maxRecDepth 100000 in
set_option maxHeartbeats 1600000 in
theorem LCount_any (core tag : Int) (f : Nat) (caps : Array Value) (p : Nat → Bool) (W : World) (row : List Nat) (hrow : row = fitRow T tag p (rowI rows core)) (hM : 0 < M) (hN : 0 < N) (H : Ls W B nb tg rb lb mb N M rows T) (hF : FitOk N f caps p W.heap.size W) :
    Calls Try.prog 16 #[.pointer (some ⟨nb, 0, none⟩), .int .i64 core, .int .i64 tag, .func (.func f) #[] caps] W fun e W' => e = .returned (.int .i64 (row.length : Int)) ∧ Ext W W' := by
  obtain ⟨g0, g1, g2, g3, g4⟩ := H.lts
  have hmf : ∀ (fn : Fn) (first cap : Array Value) (w : World), (Instr.makeFunc fn first cap).run Try.prog w = .ok (.func fn first cap) w := fun _ _ _ _ => rfl
  obtain ⟨W0, hW0⟩ : ∃ W0, W0 = W.alloc (.cells #[.int .i64 0] 3) := ⟨_, rfl⟩
  obtain ⟨Wb, hWb⟩ : ∃ Wb, Wb = (((W0.alloc (.cells #[.pointer (some ⟨nb, 0, none⟩)] 24)).alloc (.cells #[.int .i64 core] 3)).alloc (.cells #[.int .i64 tag] 3)).alloc (.cells #[.func (.func f) #[] caps] 35) := ⟨_, rfl⟩
  have s0 : W0.heap.size = W.heap.size + 1 := by rw [hW0]; simp
  have sb : Wb.heap.size = W.heap.size + 1 + 1 + 1 + 1 + 1 := by rw [hWb]; simp [s0]
  have x0 : Ext W W0 := by rw [hW0]; exact (Ext.refl _).alloc _
  have x1 : Ext W0 Wb := by rw [hWb]; exact ((((Ext.refl _).alloc _).alloc _).alloc _).alloc _
  have c0 : Wb.cell? ⟨W.heap.size, 0, none⟩ = some (.int .i64 0) := (x1.cell (p := ⟨W.heap.size, 0, none⟩) (by simp; omega)).trans (by rw [hW0]; exact World.cell?_alloc_new _ _ _ 0)
  have f0 : Wb.frozen? ⟨W.heap.size, 0, none⟩ = false := (x1.cells.2 W.heap.size 0 (by omega)).trans (by rw [hW0]; exact World.frozen?_alloc_new _ _ _ 0)
  have d1 : Wb.cell? ⟨W0.heap.size, 0, none⟩ = some (.pointer (some ⟨nb, 0, none⟩)) := by rw [hWb, World.cell?_alloc_past _ _ _ (by simp; omega), World.cell?_alloc_past _ _ _ (by simp; omega)]; exact (two1 ..).trans rfl
  have d2 : Wb.cell? ⟨W0.heap.size + 1, 0, none⟩ = some (.int .i64 core) := by rw [hWb, World.cell?_alloc_past _ _ _ (by simp), World.cell?_alloc_past _ _ _ (by simp)]; exact (two2 ..).trans rfl
  have d3 : Wb.cell? ⟨W0.heap.size + 1 + 1, 0, none⟩ = some (.int .i64 tag) := by rw [hWb, World.cell?_alloc_past _ _ _ (by simp)]; exact (al3 ..).trans rfl
  have d4 : Wb.cell? ⟨W0.heap.size + 1 + 1 + 1, 0, none⟩ = some (.func (.func f) #[] caps) := by rw [hWb]; simpa using World.cell?_alloc_new (((W0.alloc (.cells #[.pointer (some ⟨nb, 0, none⟩)] 24)).alloc (.cells #[.int .i64 core] 3)).alloc (.cells #[.int .i64 tag] 3)) #[.func (.func f) #[] caps] 35 0
  have hl : row.length ≤ 64 := by
    rw [hrow]
    refine Nat.le_trans (List.length_filter_le _ _) ?_
    by_cases hc : 0 ≤ core
    · obtain ⟨k, rfl⟩ := Int.eq_ofNat_of_zero_le hc
      rw [rowI_in]
      exact H.rr.small.2.2 k
    · rw [rowI_out (by omega)]
      simp
  have HR := Lib.hid hrow
  have HW0 := Lib.hid hW0
  have HWb := Lib.hid hWb
  clear hrow hW0 hWb
  rw [s0] at d1 d2 d3 d4
  have hFb := hF.step (((Kc.of_ext x0).trans (Kc.of_ext x1)))
  refine (callsIn_wide (n := 8)).1 (callsIn_of_wp_marks Try.func16 rfl trivial ?_ rfl)
  simp only [Try.ntmps16, List.size_toArray, List.length_cons, List.length_nil, Nat.reduceAdd, Nat.reduceSub, Array.replicate_succ, Array.replicate_zero, List.push_toArray, List.append_toArray, List.nil_append, List.cons_append]
  gi_wp2_with fail
  refine ⟨trivial, ?_⟩
  rw [← HW0.out]
  refine (callsIn_wide.2 (fitting_fn nb core tag f caps W0)).mono ?_
  rintro e z1 ⟨rfl, hz1⟩
  rw [← HWb.out, s0] at *
  have hz2 := hz1.symm; clear hz1; subst hz2
  gi_wp2_with fail
  refine wpIn_gives (fitting1_gives core tag W.heap.size (W.heap.size + 1) (W.heap.size + 1 + 1) (W.heap.size + 1 + 1 + 1) (W.heap.size + 1 + 1 + 1 + 1) f caps p Wb row HR.out hM hN (H.kept (x0.trans x1)) hFb d1 d2 d3 d4 (by omega) (by omega) (by omega) (by omega) (by omega) (by omega) (by omega) (by omega) (by omega) (by omega)) (Ext.refl _) rfl (enters_of Try.func50 (by kernel_rfl) rfl) rfl
    (fun pre V => (V.cell? ⟨W.heap.size, 0, none⟩ = some (.int .i64 (cnt pre.length)) ∧ V.frozen? ⟨W.heap.size, 0, none⟩ = false) ∧ Ext W V)
    (fun _ _ _ => False)
    (OwnFrom.and (Own.from (fun s A B row hs hg hr => ⟨cell_kept hs.1 hg hr, (frozen_kept hs.1 hg hr).trans hs.2⟩) _) (ownFrom_below (Nat.le_refl _) (by omega)))
    (fun c _ _ _ _ hs _ _ => hs)
    ⟨⟨c0, f0⟩, x0.trans x1⟩
    (fun x => { tmps := #[.pointer (some ⟨nb, 0, none⟩), .int .i64 core, .int .i64 tag, .func (.func f) #[] caps, undef, undef, undef, undef, .int .i64 0, .pointer (some ⟨W.heap.size, 0, none⟩), .pointer (some ⟨nb, 0, none⟩), .int .i64 core, .int .i64 tag, .func (.func f) #[] caps, .func (.func 50) #[] #[.pointer (some ⟨W.heap.size + 1, 0, none⟩), .pointer (some ⟨W.heap.size + 1 + 1, 0, none⟩), .pointer (some ⟨W.heap.size + 1 + 1 + 1, 0, none⟩), .pointer (some ⟨W.heap.size + 1 + 1 + 1 + 1, 0, none⟩)], .int .i64 (x : Int), undef, undef, undef], defers := [] }) ?assign ?body ?done ?stop
  case assign =>
    intro l2 x V K hK
    gi_wp2
    simp
    exact hK
  case body =>
    rintro l2 pre x V hx ⟨⟨hc, hf⟩, hB⟩
    gi_wp2_with fail
    exact ⟨(KeepsOthers.setCell _ _ _).from _, (Kc.setOb V W.heap.size rfl _), ⟨by rw [List.length_append]; exact World.cell?_setCell_same' _ _ _ (by rw [hc]; rfl), by rw [World.frozen?_setCell]; exact hf⟩, hB.setCell (p := ⟨W.heap.size, 0, none⟩) (Nat.le_refl _) _⟩
  case done =>
    rintro D V hD ⟨⟨hc, hf⟩, hB⟩ hd
    rw [cnt_is (by omega)] at hc
    gi_wp2_with fail
    refine ⟨by simp, .inl ⟨_, _, rfl, run_takeDeferred hd, ?_⟩⟩
    exact ⟨_, results_tmp rfl _ _ _, rfl, hB.step (belowK_b (w := W) (Nat.le_refl _) _ D _ _ (by omega) hd rfl rfl) (Nat.le_refl _)⟩
  case stop =>
    rintro D c pre V hD hpre h hd
    exact h.elim
end
end Go.Proofs.Ytnlcbilmalfjaaa
