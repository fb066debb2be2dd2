/- Proved: the law roundellaw22.CodeEncodes returns true for every input: whether any command may be, and its bytes, are the document's; these are decoded as it, whatever stands behind. Conditions: none. -/
import Derived.Test.YtiekicjloapepaaZ
import Derived.Test.YtiekicjloapepaaT2
namespace Go.Proofs.Ytiekicjloapepaa
set_option linter.unusedSimpArgs false
set_option linter.unusedVariables false
open Go.ChangeShapes Go.WideShapes Go.ChangeAt Go.RowKit Go.Joins

theorem encodes_any (op : Int) (h0 : 0 ≤ op) (h1 : op ≤ 255) (A B M : Int) (hM0 : 0 ≤ M) (hM : M < 18446744073709551616) (X : Option Addr) (m c : Nat) (l : List Int) (hXc : X = none → c = 0) (hmc : m ≤ c) (hc63 : c ≤ 9223372036854775807) (w : World) (hr : Rd w X m l) :
    Calls Try.prog 6 #[.int .u8 op, .agg #[.int .i64 A, .int .i64 B, .int .u64 M], .slice X m c] w fun e w' => e = .returned (.bool true) ∧ Ext w w' := by
  by_cases hm : m ≤ 100
  · cases hg : goodB op.toNat A B M with
    | false => exact encodes_bad op h0 h1 A B M X m c hm hg w
    | true => exact encodes_good op h0 h1 A B M hM0 hM X m c l hXc hm hmc hc63 hg w hr
  · obtain ⟨n, rfl⟩ := Int.eq_ofNat_of_zero_le h0
    exact encodes_far n (by omega) A B M X m c (by omega) w

set_option maxRecDepth 100000 in
theorem encodes_lifted (os : Os) (started : os.Started) (H : Type) (enc : TypeId × Value → H) :
    ReturnsInHanded {} Try.checked os 6 .any (Rows.codeEncodesSpec.pre6 enc Try.prog Try.f6 Rows.codeEncodesRow.domain false) (Rows.codeEncodesSpec.post enc Try.prog Try.f6 false true false false) := by
  refine returnsInHanded_of_change (C := Try.checked) lawOwn started (by kernel_rfl) Try.func6
    (ChangeSpec.witness6 (enc := enc) (C := Try.checked) false ⟨#[], #[.int .u8 0, .agg #[.int .i64 0, .int .i64 0, .int .u64 0], .slice none 0 0], []⟩ 8 (by kernel_rfl) (by kernel_rfl) (by kernel_rfl) (by kernel_rfl)) ?_
  intro W base args ds gs before hval0 hW _ _
  have hval : ∀ (j : Nat) t v, Try.f6.params[j]? = some t → args[j]? = some v → Value.okWide Try.prog W .any base t v := hval0
  have hW' : DataW.Whole enc Try.prog Try.f6.params.toList Rows.codeEncodesSpec.vars false W args.toList ds gs before := hW
  obtain ⟨p, q, hA0, hV, rfl, _, _⟩ := hW
  have hA : DataW.TrodAll enc Try.prog W 0 (fun _ => true) true Try.f6.params.toList args.toList ds p := hA0
  rw [Try.params6] at hA hval
  obtain ⟨v0, v1, v2, d0, d1, d2, p0, p1, p2, rfl, rfl, rfl, hx0, hx1, hx2⟩ := trodAll_three hA
  obtain ⟨rfl, rfl⟩ := trodVars_none hV
  obtain ⟨k, rfl, _, _, wk⟩ := open_int Try.underlying5 (hval 0 5 v0 rfl rfl) hx0
  obtain ⟨a, b, m, rfl, hm0, hm⟩ := open_uses (hval 1 53 v1 rfl rfl) hx1
  obtain ⟨X, n, c, l, rfl, hnc, hc, hXc, hr⟩ := open_bytes (hval 2 27 v2 rfl rfl) hx2
  have b1 : IntKind.u8.min = 0 := rfl
  have b2 : IntKind.u8.max = 255 := rfl
  simp only [Lit.wf, Bool.and_eq_true, decide_eq_true_eq, b1, b2] at wk
  clear hA0 hval0
  refine (encodes_any k (by omega) (by omega) a b m hm0 hm X n c l hXc hnc hc W hr).mono fun e W' ⟨he, hw⟩ => ?_
  subst he
  exact ⟨_, rfl, law_post lawLaid (by rw [Try.params6]; decide) rfl (by kernel_rfl) Try.underlying4 hW' rfl rfl rfl hw⟩

theorem encodes_holds : Rows.CodeEncodesSaid :=
  OpenClaim.holds_of_wide 6 Try.f6 rfl rfl rfl rfl rfl rfl rfl ⟨rfl, rfl, rfl, rfl, rfl⟩ rfl rfl rfl rfl rfl (by kernel_rfl) Try.func6 (by kernel_rfl)
    (of_decide_eq_true (by kernel_rfl)) (by unfold Func.isWrapper; rw [if_neg (of_decide_eq_false (by kernel_rfl))]; exact ⟨rfl, rfl⟩)
    (fun os started H enc _ => encodes_lifted os started H enc)

end Go.Proofs.Ytiekicjloapepaa
