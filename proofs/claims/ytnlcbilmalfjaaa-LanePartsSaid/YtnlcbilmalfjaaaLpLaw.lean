/- Proved: the law roundellaw13.LaneParts returns true for every input: the nodes of a lane are, tag by tag, as many as are counted of these, and the first of a tag is the first of them that is told. Conditions: none. -/
import Derived.Test.YtnlcbilmalfjaaaLp3
import Derived.Test.YtnlcbilmalfjaaaOp
namespace Go.Proofs.Ytnlcbilmalfjaaa
set_option linter.unusedSimpArgs false
set_option linter.unusedVariables false
open Go.ChangeShapes Go.WideShapes Go.ChangeAt Go.RowKit Go.Joins Go.Deep

set_option maxRecDepth 100000 in
theorem parts_lifted (os : Os) (started : os.Started) (H : Type) (enc : TypeId × Value → H) :
    ReturnsInHanded {} Try.checked os 4 .any (Rows.lanePartsSpec.pre6 enc Try.prog Try.f4 Rows.lanePartsRow.domain false) (Rows.lanePartsSpec.post enc Try.prog Try.f4 false true false false) := by
  refine returnsInHanded_of_change (C := Try.checked) lawOwn started (by kernel_rfl) Try.func4
    (ChangeSpec.witness6 (enc := enc) (C := Try.checked) false ⟨#[], #[.slice none 0 0, .int .u8 0], []⟩ 8 (by kernel_rfl) (by kernel_rfl) (by kernel_rfl) (by kernel_rfl)) ?_
  intro W base args ds gs before hval0 hW _ _
  have hval : ∀ (j : Nat) t v, Try.f4.params[j]? = some t → args[j]? = some v → Value.okWide Try.prog W .any base t v := hval0
  have hW' : DataW.Whole enc Try.prog Try.f4.params.toList Rows.lanePartsSpec.vars false W args.toList ds gs before := hW
  obtain ⟨p, q, hA0, hV, rfl, _, _⟩ := hW
  have hA : DataW.TrodAll enc Try.prog W 0 (fun _ => true) true Try.f4.params.toList args.toList ds p := hA0
  rw [Try.params4] at hA hval
  obtain ⟨v0, v1, d0, d1, p0, p1, rfl, rfl, rfl, h0, h1⟩ := trodAll_two hA
  obtain ⟨rfl, rfl⟩ := trodVars_none hV
  obtain ⟨A, n, c, t, rfl, hnc, hc, hl⟩ := open_ul (hval 0 37 v0 rfl rfl) h0
  obtain ⟨a, rfl, ha0, ha1⟩ := open_u8 (hval 1 5 v1 rfl rfl) h1
  clear hA0 hval0
  have key : Calls Try.prog 4 #[.slice A n c, .int .u8 a] W fun e W' => e = .returned (.bool true) ∧ Ext W W' := by
    obtain ⟨m, rfl⟩ := Int.eq_ofNat_of_zero_le ha0
    by_cases hf : n ≤ 50
    · exact parts_ok A n c t m (by omega) hnc hc hf W hl
    · exact parts_far A n c (m : Int) hnc hc (by omega) W
  refine key.mono fun e W' ⟨he, hw⟩ => ?_
  subst he
  exact ⟨_, rfl, law_post lawLaid (by rw [Try.params4]; decide) rfl (by kernel_rfl) Try.underlying4 hW' rfl rfl rfl hw⟩

theorem parts_holds : Rows.LanePartsSaid :=
  OpenClaim.holds_of_wide 4 Try.f4 rfl rfl rfl rfl rfl rfl rfl ⟨rfl, rfl, rfl, rfl, rfl⟩ rfl rfl rfl rfl rfl (by kernel_rfl) Try.func4 (by kernel_rfl)
    (of_decide_eq_true (by kernel_rfl)) (by unfold Func.isWrapper; rw [if_neg (of_decide_eq_false (by kernel_rfl))]; exact ⟨rfl, rfl⟩)
    (fun os started H enc _ => parts_lifted os started H enc)

end Go.Proofs.Ytnlcbilmalfjaaa
