/- A part of the proof of a law of roundel: contracts of functions and lemmas, each true as it stands; no condition beyond those that its theorems state. -/
import Derived.Test.YtnlcbilmalfjaaaFc
namespace Go.Proofs.Ytnlcbilmalfjaaa
set_option linter.unusedSimpArgs false
set_option linter.unusedVariables false
open Go.RowKit

theorem Lc.ext {tg lb mb : Nat} {w W W' : World} (e : Ext w W) (k : Lc tg lb mb W W') (h0 : w.heap.size ≤ tg) (h1 : w.heap.size ≤ lb) (h2 : w.heap.size ≤ mb) : Ext w W' := e.step (k.below e.sz h0 h1 h2) (Nat.le_refl _)

theorem fit_all (N f : Nat) (en : ∀ args w, (callFunc f args).run Try.prog w = .ok (.enter f args) w) (h : ∀ x W, Calls Try.prog f #[.int .i64 x] W fun e W' => e = .returned (.bool true) ∧ W' = W) (ob : Nat) (w : World) : FitOk N f #[] (fun _ => true) ob w := ⟨en, fun x W _ _ => h x W⟩
theorem awake1_any (x : Int) (W : World) : Calls Try.prog 26 #[.int .i64 x] W fun e W' => e = .returned (.bool true) ∧ W' = W := by
  go_enter Try.func26, Try.ntmps26
  go_wp2
  go_ret
  exact ⟨rfl, rfl⟩
set_option maxRecDepth 100000 in
set_option maxHeartbeats 1600000 in
theorem awake_any (w : World) : Calls Try.prog 7 #[] w fun e w' => e = .returned (.bool true) ∧ Ext w w' := by
  go_enter Try.func7, Try.ntmps7
  go_wp2_with fail
  refine (LNew_ok 9 2 (by omega) (by omega) (by omega) (by omega) w).mono ?_
  rintro e w1 ⟨nb, tg, rb, lb, mb, rfl, L1, e1⟩
  obtain ⟨g1, g2, -, -⟩ := L1.rr.ge
  have g0 : w.heap.size ≤ tg := L1.ge.2
  go_wp2_with fail
  refine (Put_any 0 5 2 w1 L1).mono ?_
  rintro e w2 ⟨he, L2, C2⟩
  rw [show laneS 9 (List.replicate 2 []) (fun _ => 0) 0 5 2 = ([[5], []], 0) by decide] at he L2
  obtain ⟨T2, hT2⟩ : ∃ T2, T2 = laneT 9 (List.replicate 2 []) (fun _ => 0) 0 5 2 := ⟨_, rfl⟩
  rw [← hT2] at L2
  dsimp only at he
  subst he
  have HT2 := Lib.hid hT2
  have e2 := Lc.ext e1 C2 g0 g1 g2
  clear hT2
  go_wp2_with fail
  refine (Put_any 0 6 1 w2 L2).mono ?_
  rintro e w3 ⟨he, L3, C3⟩
  rw [show laneS 9 [[5], []] T2 0 6 1 = ([[6, 5], []], 0) by rw [HT2.out]; decide] at he L3
  obtain ⟨T3, hT3⟩ : ∃ T3, T3 = laneT 9 [[5], []] T2 0 6 1 := ⟨_, rfl⟩
  rw [← hT3] at L3
  dsimp only at he
  subst he
  have HT3 := Lib.hid (hT3.trans (by rw [HT2.out]))
  have e3 := Lc.ext e2 C3 g0 g1 g2
  clear hT3
  go_wp2_with fail
  refine (Put_any 0 7 2 w3 L3).mono ?_
  rintro e w4 ⟨he, L4, C4⟩
  rw [show laneS 9 [[6, 5], []] T3 0 7 2 = ([[6, 5, 7], []], 0) by rw [HT3.out]; decide] at he L4
  obtain ⟨T4, hT4⟩ : ∃ T4, T4 = laneT 9 [[6, 5], []] T3 0 7 2 := ⟨_, rfl⟩
  rw [← hT4] at L4
  dsimp only at he
  subst he
  have HT4 := Lib.hid (hT4.trans (by rw [HT3.out]))
  have e4 := Lc.ext e3 C4 g0 g1 g2
  clear hT4
  go_wp2_with fail
  refine (LFirst_any 0 1 26 #[] (fun _ => true) w4 _ rfl (by omega) (by omega) L4 (fit_all _ _ (enters_of Try.func26 (by kernel_rfl) rfl) awake1_any _ _)).mono ?_
  rintro e w5 ⟨he, e5⟩
  rw [show firstI (fitRow T4 1 (fun _ => true) (rowI [[6, 5, 7], []] 0)) = 6 by rw [HT4.out]; decide] at he
  subst he
  have L5 := L4.kept e5
  have E5 := e4.trans e5
  go_wp2_with fail
  refine (LFirst_any 0 2 26 #[] (fun _ => true) w5 _ rfl (by omega) (by omega) L5 (fit_all _ _ (enters_of Try.func26 (by kernel_rfl) rfl) awake1_any _ _)).mono ?_
  rintro e w6 ⟨he, e6⟩
  rw [show firstI (fitRow T4 2 (fun _ => true) (rowI [[6, 5, 7], []] 0)) = 5 by rw [HT4.out]; decide] at he
  subst he
  have L6 := L5.kept e6
  have E6 := E5.trans e6
  go_wp2_with fail
  refine (LCount_any 0 2 26 #[] (fun _ => true) w6 _ rfl (by omega) (by omega) L6 (fit_all _ _ (enters_of Try.func26 (by kernel_rfl) rfl) awake1_any _ _)).mono ?_
  rintro e w7 ⟨he, e7⟩
  rw [show (fitRow T4 2 (fun _ => true) (rowI [[6, 5, 7], []] 0)).length = 2 by rw [HT4.out]; decide] at he
  subst he
  have L7 := L6.kept e7
  have E7 := E6.trans e7
  have l0 := L7.c0
  go_wp2_with fail
  refine (Len_any 0 w7 L7.rr).mono ?_
  rintro e z1 ⟨he, hz1⟩
  have hz2 := hz1.symm; clear hz1; subst hz2
  rw [show (rowI [[6, 5, 7], []] 0).length = 3 by decide] at he
  subst he
  go_wp2_with fail
  go_ret
  exact ⟨rfl, E7⟩
end Go.Proofs.Ytnlcbilmalfjaaa
