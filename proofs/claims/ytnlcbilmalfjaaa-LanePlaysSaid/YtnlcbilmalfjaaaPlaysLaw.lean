/- Proved: the law roundellaw13.LanePlays returns true for every input: whatever is put into lanes, and out of them, each call answers, and all lanes are, as the document says; of numbers that can't be there are none. Conditions: none. -/
import Derived.Test.YtnlcbilmalfjaaaPlays
namespace Go.Proofs.Ytnlcbilmalfjaaa
set_option linter.unusedSimpArgs false
set_option linter.unusedVariables false
open Go.ChangeShapes Go.WideShapes Go.ChangeAt Go.RowKit Go.Joins

set_option maxRecDepth 100000 in
theorem plays_lifted (os : Os) (started : os.Started) (H : Type) (enc : TypeId × Value → H) :
    ReturnsInHanded {} Try.checked os 5 .any (Rows.lanePlaysSpec.pre6 enc Try.prog Try.f5 Rows.lanePlaysRow.domain false) (Rows.lanePlaysSpec.post enc Try.prog Try.f5 false true false false) := by
  refine returnsInHanded_of_change (C := Try.checked) lawOwn started (by kernel_rfl) Try.func5
    (ChangeSpec.witness6 (enc := enc) (C := Try.checked) false ⟨#[], #[.int .i64 0, .int .i64 0, .slice none 0 0], []⟩ 8 (by kernel_rfl) (by kernel_rfl) (by kernel_rfl) (by kernel_rfl)) ?_
  intro W base args ds gs before hval0 hW _ _
  have hval : ∀ (j : Nat) t v, Try.f5.params[j]? = some t → args[j]? = some v → Value.okWide Try.prog W .any base t v := hval0
  have hW' : DataW.Whole enc Try.prog Try.f5.params.toList Rows.lanePlaysSpec.vars false W args.toList ds gs before := hW
  obtain ⟨p, q, hA0, hV, rfl, _, _⟩ := hW
  have hA : DataW.TrodAll enc Try.prog W 0 (fun _ => true) true Try.f5.params.toList args.toList ds p := hA0
  rw [Try.params5] at hA hval
  obtain ⟨v0, v1, v2, d0, d1, d2, p0, p1, p2, rfl, rfl, rfl, h0, h1, h2⟩ := trodAll_three hA
  obtain ⟨rfl, rfl⟩ := trodVars_none hV
  obtain ⟨x, rfl, -, -⟩ := open_i64 (hval 0 3 v0 rfl rfl) h0
  obtain ⟨y, rfl, -, -⟩ := open_i64 (hval 1 3 v1 rfl rfl) h1
  obtain ⟨A, n, c, l, rfl, hnc, hc, hAc, hl⟩ := open_al (hval 2 41 v2 rfl rfl) h2
  clear hA0 hval0
  have key : Calls Try.prog 5 #[.int .i64 x, .int .i64 y, .slice A n c] W fun e W' => e = .returned (.bool true) ∧ Ext W W' := by
    by_cases hf : n ≤ 50
    · by_cases hb : x < 1 ∨ 64 < x ∨ y < 1 ∨ 64 < y
      · exact plays_bad A n c x y hb hnc hc hf W
      · obtain ⟨M, rfl⟩ := Int.eq_ofNat_of_zero_le (show 0 ≤ x by omega)
        obtain ⟨N, rfl⟩ := Int.eq_ofNat_of_zero_le (show 0 ≤ y by omega)
        exact plays_ok A n c l N M (by omega) (by omega) (by omega) (by omega) hnc hc hf W hl
    · exact plays_far A n c x y hnc hc (by omega) W
  refine key.mono fun e W' ⟨he, hw⟩ => ?_
  subst he
  exact ⟨_, rfl, law_post lawLaid (by rw [Try.params5]; decide) rfl (by kernel_rfl) Try.underlying4 hW' rfl rfl rfl hw⟩

theorem plays_holds : Rows.LanePlaysSaid :=
  OpenClaim.holds_of_wide 5 Try.f5 rfl rfl rfl rfl rfl rfl rfl ⟨rfl, rfl, rfl, rfl, rfl⟩ rfl rfl rfl rfl rfl (by kernel_rfl) Try.func5 (by kernel_rfl)
    (of_decide_eq_true (by kernel_rfl)) (by unfold Func.isWrapper; rw [if_neg (of_decide_eq_false (by kernel_rfl))]; exact ⟨rfl, rfl⟩)
    (fun os started H enc _ => plays_lifted os started H enc)

end Go.Proofs.Ytnlcbilmalfjaaa
