/- Proved: the law roundellaw13.LaneBack returns true for every input: what is taken out, and put in again with a tag, stands behind all of that tag. Conditions: none. -/
import Derived.Test.YtnlcbilmalfjaaaLb2
namespace Go.Proofs.Ytnlcbilmalfjaaa
set_option linter.unusedSimpArgs false
set_option linter.unusedVariables false
open Go.ChangeShapes Go.WideShapes Go.ChangeAt Go.RowKit Go.Joins Go.Deep

set_option maxRecDepth 100000 in
theorem back_lifted (os : Os) (started : os.Started) (H : Type) (enc : TypeId × Value → H) :
    ReturnsInHanded {} Try.checked os 6 .any (Rows.laneBackSpec.pre6 enc Try.prog Try.f6 Rows.laneBackRow.domain false) (Rows.laneBackSpec.post enc Try.prog Try.f6 false true false false) := by
  refine returnsInHanded_of_change (C := Try.checked) lawOwn started (by kernel_rfl) Try.func6
    (ChangeSpec.witness6 (enc := enc) (C := Try.checked) false ⟨#[], #[.slice none 0 0, .int .u8 0, .int .u8 0], []⟩ 8 (by kernel_rfl) (by kernel_rfl) (by kernel_rfl) (by kernel_rfl)) ?_
  intro W base args ds gs before hval0 hW _ _
  have hval : ∀ (j : Nat) t v, Try.f6.params[j]? = some t → args[j]? = some v → Value.okWide Try.prog W .any base t v := hval0
  have hW' : DataW.Whole enc Try.prog Try.f6.params.toList Rows.laneBackSpec.vars false W args.toList ds gs before := hW
  obtain ⟨p, q, hA0, hV, rfl, _, _⟩ := hW
  have hA : DataW.TrodAll enc Try.prog W 0 (fun _ => true) true Try.f6.params.toList args.toList ds p := hA0
  rw [Try.params6] at hA hval
  obtain ⟨v0, v1, v2, d0, d1, d2, p0, p1, p2, rfl, rfl, rfl, h0, h1, h2⟩ := trodAll_three hA
  obtain ⟨rfl, rfl⟩ := trodVars_none hV
  obtain ⟨A, n, c, t, rfl, hnc, hc, hl⟩ := open_ul (hval 0 37 v0 rfl rfl) h0
  obtain ⟨a, rfl, ha0, ha1⟩ := open_u8 (hval 1 5 v1 rfl rfl) h1
  obtain ⟨b, rfl, hb0, hb1⟩ := open_u8 (hval 2 5 v2 rfl rfl) h2
  clear hA0 hval0
  have key : Calls Try.prog 6 #[.slice A n c, .int .u8 a, .int .u8 b] W fun e W' => e = .returned (.bool true) ∧ Ext W W' := by
    obtain ⟨w, rfl⟩ := Int.eq_ofNat_of_zero_le ha0
    obtain ⟨g, rfl⟩ := Int.eq_ofNat_of_zero_le hb0
    by_cases hn : n = 0
    · subst hn
      exact back_nil A c (w : Int) (g : Int) hc W
    · by_cases hf : n ≤ 40
      · exact back_ok A n c t w g (by omega) (by omega) hnc hc (by omega) hf W hl
      · exact back_far A n c (w : Int) (g : Int) hnc hc (by omega) W
  refine key.mono fun e W' ⟨he, hw⟩ => ?_
  subst he
  exact ⟨_, rfl, law_post lawLaid (by rw [Try.params6]; decide) rfl (by kernel_rfl) Try.underlying4 hW' rfl rfl rfl hw⟩

theorem back_holds : Rows.LaneBackSaid :=
  OpenClaim.holds_of_wide 6 Try.f6 rfl rfl rfl rfl rfl rfl rfl ⟨rfl, rfl, rfl, rfl, rfl⟩ rfl rfl rfl rfl rfl (by kernel_rfl) Try.func6 (by kernel_rfl)
    (of_decide_eq_true (by kernel_rfl)) (by unfold Func.isWrapper; rw [if_neg (of_decide_eq_false (by kernel_rfl))]; exact ⟨rfl, rfl⟩)
    (fun os started H enc _ => back_lifted os started H enc)

end Go.Proofs.Ytnlcbilmalfjaaa
