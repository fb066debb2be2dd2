/- A part of the proof of a law of roundel: contracts of functions and lemmas, each true as it stands; no condition beyond those that its theorems state. -/
import Derived.Test.YtiekicjloapepaaB
namespace Go.Proofs.Ytiekicjloapepaa
set_option linter.unusedSimpArgs false
set_option linter.unusedVariables false
open Go.RowKit

theorem ret_bool {a b : Bool} (h : a = b) : Ending.returned (.bool a) = .returned (.bool b) := by rw [h]
theorem ret_int {k : IntKind} {a b : Int} (h : a = b) : Ending.returned (.int k a) = .returned (.int k b) := by rw [h]

theorem widths_any (n : Nat) (h : isOp n = true) (w : World) :
    Calls Try.prog 13 #[.int .i64 (n : Int)] w fun e w' => e = .returned (.tuple #[.int .i64 (wa n), .int .i64 (wb n), .int .i64 (wm n)]) ∧ w = w' := by
  have h' : 1 ≤ n ∧ n ≤ 19 := by simpa [isOp] using h
  rcases op_cases h'.1 h'.2 with rfl | rfl | rfl | rfl | rfl | rfl | rfl | rfl | rfl | rfl | rfl | rfl | rfl | rfl | rfl | rfl | rfl | rfl | rfl
  all_goals
    clear h h'
    go_enter Try.func13, Try.ntmps13
    go_wp2
    go_ret3
    exact ⟨by simp only [wa, wb, wm]; rfl, rfl⟩

/-- Does a number go into so many bytes? -/
def fitsB (n k : Int) : Bool := decide (0 ≤ n ∧ n < 256 ^ k.toNat)

theorem fits_any (n k : Int) (hk : k = 0 ∨ k = 1 ∨ k = 2 ∨ k = 4) (w : World) :
    Calls Try.prog 28 #[.int .i64 n, .int .i64 k] w fun e w' => e = .returned (.bool (fitsB n k)) ∧ w = w' := by
  by_cases h : 0 ≤ n
  · rcases hk with rfl | rfl | rfl | rfl
    all_goals
      go_enter Try.func28, Try.ntmps28
      go_wp2
      go_ret
      refine ⟨ret_bool ?_, rfl⟩
      unfold fitsB
      rw [Bool.eq_iff_iff]
      simp
      omega
  · have e : fitsB n k = false := by simp [fitsB, h]
    rw [e]
    clear e hk
    have h' : n < 0 := by omega
    clear h
    go_enter Try.func28, Try.ntmps28
    go_wp2
    go_ret
    exact ⟨rfl, rfl⟩

theorem rfits_any (n k : Int) (hk : k = 0 ∨ k = 1 ∨ k = 2 ∨ k = 4) (w : World) :
    Calls Try.prog 22 #[.int .i64 n, .int .i64 k] w fun e w' => e = .returned (.bool (fitsB n k)) ∧ w = w' := by
  have i0 : ∀ w, (Instr.index 68 (.agg #[.int .i64 0, .int .i64 255, .int .i64 65535, .int .i64 0, .int .i64 4294967295]) (.int .i64 0)).run Try.prog w = .ok (.int .i64 0) w := fun _ => by kernel_rfl
  have i1 : ∀ w, (Instr.index 68 (.agg #[.int .i64 0, .int .i64 255, .int .i64 65535, .int .i64 0, .int .i64 4294967295]) (.int .i64 1)).run Try.prog w = .ok (.int .i64 255) w := fun _ => by kernel_rfl
  have i2 : ∀ w, (Instr.index 68 (.agg #[.int .i64 0, .int .i64 255, .int .i64 65535, .int .i64 0, .int .i64 4294967295]) (.int .i64 2)).run Try.prog w = .ok (.int .i64 65535) w := fun _ => by kernel_rfl
  have i4 : ∀ w, (Instr.index 68 (.agg #[.int .i64 0, .int .i64 255, .int .i64 65535, .int .i64 0, .int .i64 4294967295]) (.int .i64 4)).run Try.prog w = .ok (.int .i64 4294967295) w := fun _ => by kernel_rfl
  by_cases h : 0 ≤ n
  · rcases hk with rfl | rfl | rfl | rfl
    all_goals
      go_enter Try.func22, Try.ntmps22
      go_wp2
      go_ret
      refine ⟨ret_bool ?_, rfl⟩
      unfold fitsB
      rw [Bool.eq_iff_iff]
      simp
      omega
  · have e : fitsB n k = false := by simp [fitsB, h]
    rw [e]
    have h' : n < 0 := by omega
    clear h e
    rcases hk with rfl | rfl | rfl | rfl
    all_goals
      go_enter Try.func22, Try.ntmps22
      go_wp2
      go_ret
      exact ⟨rfl, rfl⟩

theorem real_any (op : Nat) (h : op ≤ 255) (A B M : Int) (w : World) :
    Calls Try.prog 11 #[.agg #[.int .i64 (op : Int), .int .i64 A, .int .i64 B, .int .u64 M]] w
      fun e w' => e = .returned (.agg #[.int .u8 (op : Int), .int .i64 A, .int .i64 B, .int .u64 M]) ∧ Ext w w' := by
  go_enter Try.func11, Try.ntmps11
  go_wp2
  refine bodyPost_ret (v := .agg #[.int .u8 (op : Int), .int .i64 A, .int .i64 B, .int .u64 M]) (by simp [results, Try.results11, go_sem]) rfl ⟨rfl, ?_⟩
  (repeat (first | with_reducible exact Ext.refl _ | with_reducible assumption | with_reducible apply Ext.drew | with_reducible apply Ext.drewN | with_reducible apply Ext.alloc | (with_reducible refine Ext.setCell ?_ (by simp <;> omega) _) | (with_reducible refine Ext.trans ?_ (by with_reducible assumption))))

end Go.Proofs.Ytiekicjloapepaa
