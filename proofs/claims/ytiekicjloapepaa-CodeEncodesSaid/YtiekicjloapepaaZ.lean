/- A part of the proof of a law of roundel: contracts of functions and lemmas, each true as it stands; no condition beyond those that its theorems state. -/
import Derived.Test.YtiekicjloapepaaV
namespace Go.Proofs.Ytiekicjloapepaa
set_option linter.unusedSimpArgs false
set_option linter.unusedVariables false
open Go.ChangeShapes Go.WideShapes Go.ChangeAt Go.RowKit Go.Joins

theorem cells53 : Try.prog.cellsOf 53 = 3 := by kernel_rfl

/-- What a command uses, opened. -/
theorem open_uses {H : Type} {enc : TypeId × Value → H} {W : World} {r : Reach} {b0 base : Nat} {spare : Nat → Bool} {held : Bool} {v : Value} {d : DataW H} {p : List MemPlace}
    (hv : Value.okWide Try.prog W r b0 53 v) (h : DataW.Trod enc Try.prog W base spare held 53 v d p) :
    ∃ a b m : Int, v = .agg #[.int .i64 a, .int .i64 b, .int .u64 m] ∧ 0 ≤ m ∧ m < 18446744073709551616 := by
  obtain ⟨c0, c1, c2, y0, y1, y2, n, rfl, _, _, h0, h1, h2⟩ := open_agg3 Try.underlying53 (by kernel_rfl) cells53 hv h
  obtain ⟨a, e0, _, wa⟩ := DataW.trod_int Try.underlying3 h0
  obtain ⟨b, e1, _, wb⟩ := DataW.trod_int Try.underlying3 h1
  obtain ⟨m, e2, _, wm⟩ := DataW.trod_int Try.underlying22 h2
  simp only [List.cons.injEq, and_true] at e0 e1 e2
  subst e0
  subst e1
  subst e2
  have b1 : IntKind.u64.min = 0 := rfl
  have b2 : IntKind.u64.max = 18446744073709551615 := rfl
  simp only [Lit.wf, Bool.and_eq_true, decide_eq_true_eq, b1, b2] at wm
  exact ⟨a, b, m, rfl, by omega, by omega⟩
end Go.Proofs.Ytiekicjloapepaa
