/- A part of the proof of a law of roundel: contracts of functions and lemmas, each true as it stands; no condition beyond those that its theorems state. -/
import Derived.Test.YtnlcbilmalfjaaaA
namespace Go.Proofs.Ytnlcbilmalfjaaa
set_option linter.unusedSimpArgs false
set_option linter.unusedVariables false
open Go.RowKit

section
variable {B rb lb mb N M : Nat} {g : G}

theorem List_in (n : Nat) (hn : n < N) (W : World) (H : Rg W B rb lb mb N M g) :
    Calls Try.prog 44 #[.pointer (some ⟨rb, 0, none⟩), .int .i64 (n : Int)] W fun e W' => e = .returned (.int .i64 (g.lst n)) ∧ W' = W := by
  have h0 := H.c0
  have h1 := H.l0 n (by omega)
  have q1 : (n : Int) < (N : Int) + (M : Int) := by omega
  go_enter Try.func44, Try.ntmps44
  go_wp2_with fail
  refine (node_any (n : Int) W H).mono ?_
  rintro e z1 ⟨he, hz1⟩
  have hz2 := hz1.symm; clear hz1; subst hz2
  rw [decide_eq_true (show 0 ≤ (n : Int) ∧ (n : Int) < (N : Int) by omega)] at he
  subst he
  go_wp2
  go_ret
  exact ⟨rfl, rfl⟩
theorem List_out (n : Int) (hn : ¬ (0 ≤ n ∧ n < (N : Int))) (W : World) (H : Rg W B rb lb mb N M g) :
    Calls Try.prog 44 #[.pointer (some ⟨rb, 0, none⟩), .int .i64 n] W fun e W' => e = .returned (.int .i64 (-1)) ∧ W' = W := by
  go_enter Try.func44, Try.ntmps44
  go_wp2_with fail
  refine (node_any n W H).mono ?_
  rintro e z1 ⟨he, hz1⟩
  have hz2 := hz1.symm; clear hz1; subst hz2
  rw [decide_eq_false hn] at he
  subst he
  go_wp2
  go_ret
  exact ⟨rfl, rfl⟩
theorem Len_in (l : Nat) (hl : l < M) (W : World) (H : Rg W B rb lb mb N M g) :
    Calls Try.prog 18 #[.pointer (some ⟨rb, 0, none⟩), .int .i64 (l : Int)] W fun e W' => e = .returned (.int .i64 (g.many l)) ∧ W' = W := by
  have h0 := H.c2
  have h1 := H.mm l hl
  have q1 : (l : Int) < (M : Int) := by omega
  go_enter Try.func18, Try.ntmps18
  go_wp2_with fail
  refine (list_any (l : Int) W H).mono ?_
  rintro e z1 ⟨he, hz1⟩
  have hz2 := hz1.symm; clear hz1; subst hz2
  rw [decide_eq_true (show 0 ≤ (l : Int) ∧ (l : Int) < (M : Int) by omega)] at he
  subst he
  go_wp2
  go_ret
  exact ⟨rfl, rfl⟩
theorem Len_out (n : Int) (hn : ¬ (0 ≤ n ∧ n < (M : Int))) (W : World) (H : Rg W B rb lb mb N M g) :
    Calls Try.prog 18 #[.pointer (some ⟨rb, 0, none⟩), .int .i64 n] W fun e W' => e = .returned (.int .i64 0) ∧ W' = W := by
  go_enter Try.func18, Try.ntmps18
  go_wp2_with fail
  refine (list_any n W H).mono ?_
  rintro e z1 ⟨he, hz1⟩
  have hz2 := hz1.symm; clear hz1; subst hz2
  rw [decide_eq_false hn] at he
  subst he
  go_wp2
  go_ret
  exact ⟨rfl, rfl⟩
theorem First_in (l : Nat) (hl : l < M) (W : World) (H : Rg W B rb lb mb N M g) :
    Calls Try.prog 34 #[.pointer (some ⟨rb, 0, none⟩), .int .i64 (l : Int)] W fun e W' => e = .returned (.int .i64 (told N (g.nx (N + l)))) ∧ Ext W W' := by
  have h0 := H.c0
  have h2 := H.c1
  have h1 := H.l1 (N + l) (by omega)
  have q0 : 0 ≤ (N : Int) + (l : Int) := by omega
  have q1 : (N : Int) + (l : Int) < (N : Int) + (M : Int) := by omega
  have q2 : ((N : Int) + (l : Int)).toNat = N + l := by omega
  have w1 : IntKind.i64.wrap ((N : Int) + (l : Int)) = (N : Int) + (l : Int) := IntWalk.i64_in _ (by have := H.sm; omega)
  have Hd := H.drew
  go_enter Try.func34, Try.ntmps34
  go_wp2_with fail
  refine (list_any (l : Int) W H).mono ?_
  rintro e z1 ⟨he, hz1⟩
  have hz2 := hz1.symm; clear hz1; subst hz2
  rw [decide_eq_true (show 0 ≤ (l : Int) ∧ (l : Int) < (M : Int) by omega)] at he
  subst he
  go_wp2_with fail
  go_region_held3 (fun W' => W'.cell? ⟨rb, 0, none⟩ = some (.slice (some ⟨lb, 0, none⟩) (N + M) (N + M)) ∧ W'.cell? ⟨rb, 1, none⟩ = some (.int .i64 (N : Int)) ∧ W'.cell? ⟨lb, (N + l) * 3 + 1, none⟩ = some (.int .i64 (g.nx (N + l) : Int)))
    (exact ⟨Hd.c0, Hd.c1, Hd.l1 (N + l) (by omega)⟩)
    (first | (go_at_call 49; (with_reducible refine (told_any (g.nx (N + l)) W.drew Hd).mono ?_); rintro e z1 ⟨rfl, hz1⟩; have hz2 := hz1.symm; clear hz1; subst hz2))
  go_wp2_with fail
  go_ret
  exact ⟨rfl, (Ext.refl W).drew⟩
theorem First_out (n : Int) (hn : ¬ (0 ≤ n ∧ n < (M : Int))) (W : World) (H : Rg W B rb lb mb N M g) :
    Calls Try.prog 34 #[.pointer (some ⟨rb, 0, none⟩), .int .i64 n] W fun e W' => e = .returned (.int .i64 (-1)) ∧ Ext W W' := by
  go_enter Try.func34, Try.ntmps34
  go_wp2_with fail
  refine (list_any n W H).mono ?_
  rintro e z1 ⟨he, hz1⟩
  have hz2 := hz1.symm; clear hz1; subst hz2
  rw [decide_eq_false hn] at he
  subst he
  go_wp2
  go_ret
  exact ⟨rfl, Ext.refl W⟩
theorem Last_in (l : Nat) (hl : l < M) (W : World) (H : Rg W B rb lb mb N M g) :
    Calls Try.prog 45 #[.pointer (some ⟨rb, 0, none⟩), .int .i64 (l : Int)] W fun e W' => e = .returned (.int .i64 (told N (g.pv (N + l)))) ∧ Ext W W' := by
  have h0 := H.c0
  have h2 := H.c1
  have h1 := H.l2 (N + l) (by omega)
  have q0 : 0 ≤ (N : Int) + (l : Int) := by omega
  have q1 : (N : Int) + (l : Int) < (N : Int) + (M : Int) := by omega
  have q2 : ((N : Int) + (l : Int)).toNat = N + l := by omega
  have w1 : IntKind.i64.wrap ((N : Int) + (l : Int)) = (N : Int) + (l : Int) := IntWalk.i64_in _ (by have := H.sm; omega)
  have Hd := H.drew
  go_enter Try.func45, Try.ntmps45
  go_wp2_with fail
  refine (list_any (l : Int) W H).mono ?_
  rintro e z1 ⟨he, hz1⟩
  have hz2 := hz1.symm; clear hz1; subst hz2
  rw [decide_eq_true (show 0 ≤ (l : Int) ∧ (l : Int) < (M : Int) by omega)] at he
  subst he
  go_wp2_with fail
  go_region_held3 (fun W' => W'.cell? ⟨rb, 0, none⟩ = some (.slice (some ⟨lb, 0, none⟩) (N + M) (N + M)) ∧ W'.cell? ⟨rb, 1, none⟩ = some (.int .i64 (N : Int)) ∧ W'.cell? ⟨lb, (N + l) * 3 + 2, none⟩ = some (.int .i64 (g.pv (N + l) : Int)))
    (exact ⟨Hd.c0, Hd.c1, Hd.l2 (N + l) (by omega)⟩)
    (first | (go_at_call 49; (with_reducible refine (told_any (g.pv (N + l)) W.drew Hd).mono ?_); rintro e z1 ⟨rfl, hz1⟩; have hz2 := hz1.symm; clear hz1; subst hz2))
  go_wp2_with fail
  go_ret
  exact ⟨rfl, (Ext.refl W).drew⟩
theorem Last_out (n : Int) (hn : ¬ (0 ≤ n ∧ n < (M : Int))) (W : World) (H : Rg W B rb lb mb N M g) :
    Calls Try.prog 45 #[.pointer (some ⟨rb, 0, none⟩), .int .i64 n] W fun e W' => e = .returned (.int .i64 (-1)) ∧ Ext W W' := by
  go_enter Try.func45, Try.ntmps45
  go_wp2_with fail
  refine (list_any n W H).mono ?_
  rintro e z1 ⟨he, hz1⟩
  have hz2 := hz1.symm; clear hz1; subst hz2
  rw [decide_eq_false hn] at he
  subst he
  go_wp2
  go_ret
  exact ⟨rfl, Ext.refl W⟩
theorem Next_in (n : Nat) (hn : n < N) (hl : 0 ≤ g.lst n) (W : World) (H : Rg W B rb lb mb N M g) :
    Calls Try.prog 35 #[.pointer (some ⟨rb, 0, none⟩), .int .i64 (n : Int)] W fun e W' => e = .returned (.int .i64 (told N (g.nx n))) ∧ W' = W := by
  have h0 := H.c0
  have h1 := H.l1 n (by omega)
  have q1 : (n : Int) < (N : Int) + (M : Int) := by omega
  obtain ⟨x, hx⟩ : ∃ x, x = g.lst n := ⟨_, rfl⟩
  rw [← hx] at hl
  have q3 : ¬ x = -1 := by omega
  have q4 : (x == -1) = false := by simp [q3]
  go_enter Try.func35, Try.ntmps35
  go_wp2_with fail
  refine (List_in n hn W H).mono ?_
  rintro e z1 ⟨he, hz1⟩
  have hz2 := hz1.symm; clear hz1; subst hz2
  rw [← hx] at he
  subst he
  go_wp2_with fail
  refine (told_any (g.nx n) W H).mono ?_
  rintro e z1 ⟨rfl, hz1⟩
  have hz2 := hz1.symm; clear hz1; subst hz2
  go_wp2_with fail
  go_ret
  exact ⟨rfl, rfl⟩
theorem Next_none (n : Nat) (hn : n < N) (hl : g.lst n = -1) (W : World) (H : Rg W B rb lb mb N M g) :
    Calls Try.prog 35 #[.pointer (some ⟨rb, 0, none⟩), .int .i64 (n : Int)] W fun e W' => e = .returned (.int .i64 (-1)) ∧ W' = W := by
  go_enter Try.func35, Try.ntmps35
  go_wp2_with fail
  refine (List_in n hn W H).mono ?_
  rintro e z1 ⟨he, hz1⟩
  have hz2 := hz1.symm; clear hz1; subst hz2
  rw [hl] at he
  subst he
  go_wp2_with fail
  go_ret
  exact ⟨rfl, rfl⟩
theorem Next_out (n : Int) (hn : ¬ (0 ≤ n ∧ n < (N : Int))) (W : World) (H : Rg W B rb lb mb N M g) :
    Calls Try.prog 35 #[.pointer (some ⟨rb, 0, none⟩), .int .i64 n] W fun e W' => e = .returned (.int .i64 (-1)) ∧ W' = W := by
  go_enter Try.func35, Try.ntmps35
  go_wp2_with fail
  refine (List_out n hn W H).mono ?_
  rintro e z1 ⟨rfl, hz1⟩
  have hz2 := hz1.symm; clear hz1; subst hz2
  go_wp2_with fail
  go_ret
  exact ⟨rfl, rfl⟩
theorem Prev_in (n : Nat) (hn : n < N) (hl : 0 ≤ g.lst n) (W : World) (H : Rg W B rb lb mb N M g) :
    Calls Try.prog 46 #[.pointer (some ⟨rb, 0, none⟩), .int .i64 (n : Int)] W fun e W' => e = .returned (.int .i64 (told N (g.pv n))) ∧ W' = W := by
  have h0 := H.c0
  have h1 := H.l2 n (by omega)
  have q1 : (n : Int) < (N : Int) + (M : Int) := by omega
  obtain ⟨x, hx⟩ : ∃ x, x = g.lst n := ⟨_, rfl⟩
  rw [← hx] at hl
  have q3 : ¬ x = -1 := by omega
  have q4 : (x == -1) = false := by simp [q3]
  go_enter Try.func46, Try.ntmps46
  go_wp2_with fail
  refine (List_in n hn W H).mono ?_
  rintro e z1 ⟨he, hz1⟩
  have hz2 := hz1.symm; clear hz1; subst hz2
  rw [← hx] at he
  subst he
  go_wp2_with fail
  refine (told_any (g.pv n) W H).mono ?_
  rintro e z1 ⟨rfl, hz1⟩
  have hz2 := hz1.symm; clear hz1; subst hz2
  go_wp2_with fail
  go_ret
  exact ⟨rfl, rfl⟩
theorem Prev_none (n : Nat) (hn : n < N) (hl : g.lst n = -1) (W : World) (H : Rg W B rb lb mb N M g) :
    Calls Try.prog 46 #[.pointer (some ⟨rb, 0, none⟩), .int .i64 (n : Int)] W fun e W' => e = .returned (.int .i64 (-1)) ∧ W' = W := by
  go_enter Try.func46, Try.ntmps46
  go_wp2_with fail
  refine (List_in n hn W H).mono ?_
  rintro e z1 ⟨he, hz1⟩
  have hz2 := hz1.symm; clear hz1; subst hz2
  rw [hl] at he
  subst he
  go_wp2_with fail
  go_ret
  exact ⟨rfl, rfl⟩
theorem Prev_out (n : Int) (hn : ¬ (0 ≤ n ∧ n < (N : Int))) (W : World) (H : Rg W B rb lb mb N M g) :
    Calls Try.prog 46 #[.pointer (some ⟨rb, 0, none⟩), .int .i64 n] W fun e W' => e = .returned (.int .i64 (-1)) ∧ W' = W := by
  go_enter Try.func46, Try.ntmps46
  go_wp2_with fail
  refine (List_out n hn W H).mono ?_
  rintro e z1 ⟨rfl, hz1⟩
  have hz2 := hz1.symm; clear hz1; subst hz2
  go_wp2_with fail
  go_ret
  exact ⟨rfl, rfl⟩

theorem free_out (n : Int) (hn : ¬ (0 ≤ n ∧ n < (N : Int))) (W : World) (H : Rg W B rb lb mb N M g) :
    Calls Try.prog 47 #[.pointer (some ⟨rb, 0, none⟩), .int .i64 n] W fun e W' => e = .returned (.int .i64 14) ∧ W' = W := by
  go_enter Try.func47, Try.ntmps47
  go_wp2_with fail
  refine (node_any n W H).mono ?_
  rintro e z1 ⟨he, hz1⟩
  have hz2 := hz1.symm; clear hz1; subst hz2
  rw [decide_eq_false hn] at he
  subst he
  go_wp2
  go_ret
  exact ⟨rfl, rfl⟩
theorem free_in (n : Nat) (hn : n < N) (W : World) (H : Rg W B rb lb mb N M g) :
    Calls Try.prog 47 #[.pointer (some ⟨rb, 0, none⟩), .int .i64 (n : Int)] W fun e W' => e = .returned (.int .i64 (if g.lst n = -1 then 0 else 10)) ∧ W' = W := by
  have h0 := H.c0
  have h1 := H.l0 n (by omega)
  have q1 : (n : Int) < (N : Int) + (M : Int) := by omega
  obtain ⟨x, hx⟩ : ∃ x, x = g.lst n := ⟨_, rfl⟩
  rw [← hx] at h1 ⊢
  clear hx
  go_enter Try.func47, Try.ntmps47
  go_wp2_with fail
  refine (node_any (n : Int) W H).mono ?_
  rintro e z1 ⟨he, hz1⟩
  have hz2 := hz1.symm; clear hz1; subst hz2
  rw [decide_eq_true (show 0 ≤ (n : Int) ∧ (n : Int) < (N : Int) by omega)] at he
  subst he
  by_cases p : x = -1
  · subst p
    go_wp2
    go_ret
    exact ⟨rfl, rfl⟩
  · have p' : (x != -1) = true := by simp [p]
    have P := Lib.hid p
    clear p
    go_wp2
    go_ret
    exact ⟨rfl, rfl⟩
end
end Go.Proofs.Ytnlcbilmalfjaaa
