/- A part of the proof of a law of roundel: contracts of functions and lemmas, each true as it stands; no condition beyond those that its theorems state. -/
import Derived.Test.YtnlcbilmalfjaaaP
import Derived.StillTailTactics
namespace Go.Proofs.Ytnlcbilmalfjaaa
set_option linter.unusedSimpArgs false
set_option linter.unusedVariables false
open Go.RowKit

section
variable (W : World) (a b : Array Value) (ta tb : TypeId) (i : Nat)
theorem two2 : ((W.alloc (.cells a ta)).alloc (.cells b tb)).cell? ⟨W.heap.size + 1, i, none⟩ = b[i]? := by
  have z := World.cell?_alloc_new (W.alloc (.cells a ta)) b tb i
  rwa [show (W.alloc (.cells a ta)).heap.size = W.heap.size + 1 by simp] at z
theorem two1 : ((W.alloc (.cells a ta)).alloc (.cells b tb)).cell? ⟨W.heap.size, i, none⟩ = a[i]? := by
  rw [World.cell?_alloc_past _ _ _ (by simp), World.cell?_alloc_new]
theorem two2z : ((W.alloc (.cells a ta)).alloc (.cells b tb)).frozen? ⟨W.heap.size + 1, i, none⟩ = false := by
  have z := World.frozen?_alloc_new (W.alloc (.cells a ta)) b tb i
  rwa [show (W.alloc (.cells a ta)).heap.size = W.heap.size + 1 by simp] at z
end

section
variable {B nb tg rb lb mb N M : Nat} {rows : List (List Nat)} {T : Nat → Int}

theorem put1_any (list node : Int) (b4 b5 b6 : Nat) (W : World) (H : Ls W B nb tg rb lb mb N M rows T) (h4 : W.cell? ⟨b4, 0, none⟩ = some (.pointer (some ⟨nb, 0, none⟩))) (h5 : W.cell? ⟨b5, 0, none⟩ = some (.int .i64 list)) (h6 : W.cell? ⟨b6, 0, none⟩ = some (.int .i64 node)) (Q : Ending → World → Prop)
    (hin : Calls Try.prog 30 #[.pointer (some ⟨rb, 0, none⟩), .int .i64 list, .int .i64 node] W.drew fun e W' => (∃ c : Int, e = .returned (.int .i64 c)) ∧ Q e W') :
    Calls Try.prog 29 #[.pointer (some ⟨b4, 0, none⟩), .pointer (some ⟨b5, 0, none⟩), .pointer (some ⟨b6, 0, none⟩)] W Q := by
  have h0 := H.c0
  go_enter Try.func29, Try.ntmps29
  go_wp2_with fail
  go_still_tail 6, (by kernel_rfl)
  change wpList _ _ _ _ _ W.drew
  go_wp2_with fail
  refine hin.mono ?_
  rintro e w1 ⟨⟨c, rfl⟩, hq⟩
  go_wp2_with fail
  exact hq
theorem put2_any (list node : Int) (b4 b5 b6 : Nat) (W : World) (H : Ls W B nb tg rb lb mb N M rows T) (h4 : W.cell? ⟨b4, 0, none⟩ = some (.pointer (some ⟨nb, 0, none⟩))) (h5 : W.cell? ⟨b5, 0, none⟩ = some (.int .i64 list)) (h6 : W.cell? ⟨b6, 0, none⟩ = some (.int .i64 node)) (Q : Ending → World → Prop)
    (hin : Calls Try.prog 32 #[.pointer (some ⟨rb, 0, none⟩), .int .i64 list, .int .i64 node] W.drew fun e W' => (∃ c : Int, e = .returned (.int .i64 c)) ∧ Q e W') :
    Calls Try.prog 31 #[.pointer (some ⟨b4, 0, none⟩), .pointer (some ⟨b5, 0, none⟩), .pointer (some ⟨b6, 0, none⟩)] W Q := by
  have h0 := H.c0
  go_enter Try.func31, Try.ntmps31
  go_wp2_with fail
  go_still_tail 6, (by kernel_rfl)
  change wpList _ _ _ _ _ W.drew
  go_wp2_with fail
  refine hin.mono ?_
  rintro e w1 ⟨⟨c, rfl⟩, hq⟩
  go_wp2_with fail
  exact hq
end

theorem LNew_ok (N M : Nat) (h1 : 1 ≤ N) (h2 : N ≤ 64) (h3 : 1 ≤ M) (h4 : M ≤ 64) (W : World) :
    Calls Try.prog 8 #[.int .i64 (M : Int), .int .i64 (N : Int)] W fun e W' => ∃ nb tg rb lb mb, e = .returned (.tuple #[.pointer (some ⟨nb, 0, none⟩), .int .i64 0]) ∧ Ls W' W.heap.size nb tg rb lb mb N M (List.replicate M []) (fun _ => 0) ∧ Ext W W' := by
  have k1 := make_many N (by omega)
  go_enter Try.func8, Try.ntmps8
  go_wp2_with fail
  refine (New_ok N M h1 h2 h3 h4 W).mono ?_
  rintro e w1 ⟨rb, lb, mb, rfl, R1, e1⟩
  go_wp2_with fail
  go_ret2
  have g1 := R1.rlt
  have g2 := R1.ge
  have es := e1.sz
  refine ⟨w1.heap.size + 1, w1.heap.size, rb, lb, mb, rfl, ⟨R1.kept (((Ext.refl _).alloc _).alloc _), (two2 ..).trans rfl, (two2 ..).trans rfl, fun i hi => (two1 ..).trans (zMany_get N i hi), fun o => ?_, ⟨by omega, by omega, by omega, by omega⟩, ⟨by omega, by omega, by omega⟩, ⟨by omega, by omega⟩, ⟨by simp, by simp; omega⟩⟩, (e1.alloc _).alloc _⟩
  rw [World.frozen?_alloc_past _ _ _ (by simp)]
  exact World.frozen?_alloc_new _ _ _ _
theorem LNew_bad (n m : Int) (h : n < 1 ∨ 64 < n ∨ m < 1 ∨ 64 < m) (W : World) :
    Calls Try.prog 8 #[.int .i64 m, .int .i64 n] W fun e W' => e = .returned (.tuple #[.pointer none, .int .i64 14]) ∧ Ext W W' := by
  go_enter Try.func8, Try.ntmps8
  go_wp2_with fail
  refine (New_bad n m h W).mono ?_
  rintro e w1 ⟨rfl, e1⟩
  go_wp2_with fail
  go_ret2
  exact ⟨rfl, e1⟩
end Go.Proofs.Ytnlcbilmalfjaaa
