/- A part of the proof of a law of roundel: contracts of functions and lemmas, each true as it stands; no condition beyond those that its theorems state. -/
import Derived.Test.YtohgckdkkeiggaaK
namespace Go.Proofs.Ytohgckdkkeiggaa
set_option linter.unusedSimpArgs false
set_option linter.unusedVariables false
open Go.RowKit Go.Maps

set_option maxRecDepth 100000 in
set_option maxHeartbeats 1600000 in
theorem awake_any (w : World) : Calls Try.prog 7 #[] w fun e w' => e = .returned (.bool true) ∧ Ext w w' := by
  have T0 := (Tal.fresh w (fun _ => none) w.heap.size (Nat.le_refl _) (fun x t h => by cases h) (fun x t h => by cases h)).alloc (.cells #[.int .i64 1, .int .i64 3] 3)
  have S0 : Sl ((w.alloc (.cells zeros 44)).alloc (.cells #[.int .i64 1, .int .i64 3] 3)) (fun _ => none) w.heap.size (some ⟨w.heap.size + 1, 0, none⟩) 2 [1, 3] := by
    refine ⟨rfl, fun g hg => by simp at hg; unfold I64; omega, fun _ => ⟨w.heap.size + 1, 0, rfl, by simp, by omega, fun _ _ h => (by cases h), fun j hj => ?_⟩⟩
    have z := World.cell?_alloc_new (w.alloc (.cells zeros 44)) #[.int .i64 1, .int .i64 3] 3 j
    rw [show (w.alloc (.cells zeros 44)).heap.size = w.heap.size + 1 by simp] at z
    rw [Nat.zero_add, z]
    obtain rfl | rfl : j = 0 ∨ j = 1 := by omega
    · rfl
    · rfl
  have hE0 : Ext w ((w.alloc (.cells zeros 44)).alloc (.cells #[.int .i64 1, .int .i64 3] 3)) := ((Ext.refl w).alloc _).alloc _
  have i0 : I64 0 := by unfold I64; omega
  have i7 : I64 7 := by unfold I64; omega
  have i3 : I64 3 := by unfold I64; omega
  go_enter Try.func7, Try.ntmps7
  go_wp2_with fail
  refine (tick_any (fun _ => none) w.heap.size w.heap.size 0 (by omega) (fun _ _ => 0) 0 0 7 i0 i7 (some ⟨w.heap.size + 1, 0, none⟩) 2 2 [1, 3] (by omega) _ T0 S0).mono ?_
  rintro e W1 ⟨rfl, own1, H1, hC1, ho1⟩
  have E1 : Ext w W1 := hE0.step (hC1.below T0.sits) (Nat.le_refl _)
  clear T0 S0 hE0 hC1 ho1
  obtain ⟨F1, hF1⟩ : ∃ F, F = tickF (fun _ _ => 0) 0 7 [1, 3] := ⟨_, rfl⟩
  rw [← hF1] at H1
  go_wp2_with fail
  refine (idle_any own1 w.heap.size w.heap.size _ (by omega) F1 _ 0 i0 _ H1).mono ?_
  rintro e W2 ⟨rfl, own2, H2, hC2, ho2⟩
  have E2 : Ext w W2 := E1.step (hC2.below H1.sits) (Nat.le_refl _)
  clear H1 hC2 ho2
  obtain ⟨F2, hF2⟩ : ∃ F, F = bumpF F1 3 0 := ⟨_, rfl⟩
  rw [← hF2] at H2
  rw [hF1] at hF2
  have v20 : F2 2 0 = 1 := by rw [hF2]; rfl
  have v30 : F2 3 0 = 1 := by rw [hF2]; rfl
  have v13 : F2 1 3 = 1 := by rw [hF2]; rfl
  have v07 : F2 0 7 = 1 := by rw [hF2]; rfl
  clear hF1 hF2
  go_wp2_with fail
  refine (busy_any own2 w.heap.size w.heap.size _ (by omega) F2 _ 0 i0 _ H2).mono ?_
  rintro e W3 ⟨he, own3, H3, hC3, ho3⟩
  rw [v20] at he
  subst he
  have E3 : Ext w W3 := E2.step (hC3.below H2.sits) (Nat.le_refl _)
  clear H2 hC3 ho3
  go_wp2_with fail
  refine (idles_any own3 w.heap.size w.heap.size _ (by omega) F2 _ 0 i0 _ H3).mono ?_
  rintro e W4 ⟨he, own4, H4, hC4, ho4⟩
  rw [v30] at he
  subst he
  have E4 : Ext w W4 := E3.step (hC4.below H3.sits) (Nat.le_refl _)
  clear H3 hC4 ho4
  go_wp2_with fail
  refine (group_any own4 w.heap.size w.heap.size _ (by omega) F2 _ 3 i3 _ H4).mono ?_
  rintro e W5 ⟨he, own5, H5, hC5, ho5⟩
  rw [v13] at he
  subst he
  have E5 : Ext w W5 := E4.step (hC5.below H4.sits) (Nat.le_refl _)
  clear H4 hC5 ho5
  go_wp2_with fail
  refine (total_any own5 w.heap.size w.heap.size _ F2 _ _ H5).mono ?_
  rintro e W6 ⟨rfl, rfl⟩
  go_wp2_with fail
  refine (thread_any own5 w.heap.size w.heap.size _ (by omega) F2 _ 7 i7 _ H5).mono ?_
  rintro e W7 ⟨he, own7, H7, hC7, ho7⟩
  rw [v07] at he
  subst he
  have E7 : Ext w W7 := E5.step (hC7.below H5.sits) (Nat.le_refl _)
  go_wp2_with fail
  go_ret
  exact ⟨rfl, E7⟩
end Go.Proofs.Ytohgckdkkeiggaa
