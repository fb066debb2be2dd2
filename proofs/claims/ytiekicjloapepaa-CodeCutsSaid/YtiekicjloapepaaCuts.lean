/- Proved: the law roundellaw22.CodeCuts returns true for every input: a good command's bytes, cut anywhere, are told to be none. Conditions: none. -/
import Derived.Test.YtiekicjloapepaaZ
import Derived.Test.YtiekicjloapepaaY
namespace Go.Proofs.Ytiekicjloapepaa
set_option linter.unusedSimpArgs false
set_option linter.unusedVariables false
open Go.ChangeShapes Go.WideShapes Go.ChangeAt Go.RowKit Go.Joins

theorem cuts_any (op : Int) (h0 : 0 ≤ op) (h1 : op ≤ 255) (A B M : Int) (hM0 : 0 ≤ M) (hM : M < 18446744073709551616) (w : World) :
    Calls Try.prog 7 #[.int .u8 op, .agg #[.int .i64 A, .int .i64 B, .int .u64 M]] w fun e w' => e = .returned (.bool true) ∧ Ext w w' := by
  cases hg : goodB op.toNat A B M with
  | false => exact cuts_bad op h0 h1 A B M hg w
  | true => exact cuts_good op h0 h1 A B M hM0 hM hg w

set_option maxRecDepth 100000 in
theorem cuts_lifted (os : Os) (started : os.Started) (H : Type) (enc : TypeId × Value → H) :
    ReturnsInHanded {} Try.checked os 7 .any (Rows.codeCutsSpec.pre6 enc Try.prog Try.f7 Rows.codeCutsRow.domain false) (Rows.codeCutsSpec.post enc Try.prog Try.f7 false true false false) := by
  refine returnsInHanded_of_change (C := Try.checked) lawOwn started (by kernel_rfl) Try.func7
    (ChangeSpec.witness6 (enc := enc) (C := Try.checked) false ⟨#[], #[.int .u8 0, .agg #[.int .i64 0, .int .i64 0, .int .u64 0]], []⟩ 8 (by kernel_rfl) (by kernel_rfl) (by kernel_rfl) (by kernel_rfl)) ?_
  intro W base args ds gs before hval0 hW _ _
  have hval : ∀ (j : Nat) t v, Try.f7.params[j]? = some t → args[j]? = some v → Value.okWide Try.prog W .any base t v := hval0
  have hW' : DataW.Whole enc Try.prog Try.f7.params.toList Rows.codeCutsSpec.vars false W args.toList ds gs before := hW
  obtain ⟨p, q, hA0, hV, rfl, _, _⟩ := hW
  have hA : DataW.TrodAll enc Try.prog W 0 (fun _ => true) true Try.f7.params.toList args.toList ds p := hA0
  rw [Try.params7] at hA hval
  obtain ⟨v0, v1, d0, d1, p0, p1, rfl, rfl, rfl, hx0, hx1⟩ := trodAll_two hA
  obtain ⟨rfl, rfl⟩ := trodVars_none hV
  obtain ⟨k, rfl, _, _, wk⟩ := open_int Try.underlying5 (hval 0 5 v0 rfl rfl) hx0
  obtain ⟨a, b, m, rfl, hm0, hm⟩ := open_uses (hval 1 53 v1 rfl rfl) hx1
  have b1 : IntKind.u8.min = 0 := rfl
  have b2 : IntKind.u8.max = 255 := rfl
  simp only [Lit.wf, Bool.and_eq_true, decide_eq_true_eq, b1, b2] at wk
  clear hA0 hval0
  refine (cuts_any k (by omega) (by omega) a b m hm0 hm W).mono fun e W' ⟨he, hw⟩ => ?_
  subst he
  exact ⟨_, rfl, law_post lawLaid (by rw [Try.params7]; decide) rfl (by kernel_rfl) Try.underlying4 hW' rfl rfl rfl hw⟩

theorem cuts_holds : Rows.CodeCutsSaid :=
  OpenClaim.holds_of_wide 7 Try.f7 rfl rfl rfl rfl rfl rfl rfl ⟨rfl, rfl, rfl, rfl, rfl⟩ rfl rfl rfl rfl rfl (by kernel_rfl) Try.func7 (by kernel_rfl)
    (of_decide_eq_true (by kernel_rfl)) (by unfold Func.isWrapper; rw [if_neg (of_decide_eq_false (by kernel_rfl))]; exact ⟨rfl, rfl⟩)
    (fun os started H enc _ => cuts_lifted os started H enc)

end Go.Proofs.Ytiekicjloapepaa
