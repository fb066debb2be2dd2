/- Proved: the law roundellaw11.TallyOrder returns true for every input: in whatever order ticks are counted, the counts are the same. Conditions: none. -/
import Derived.Test.YtohgckdkkeiggaaS
import Derived.Test.YtohgckdkkeiggaaOpen
namespace Go.Proofs.Ytohgckdkkeiggaa
set_option linter.unusedSimpArgs false
set_option linter.unusedVariables false
open Go.ChangeShapes Go.WideShapes Go.ChangeAt Go.RowKit Go.Joins

set_option maxRecDepth 100000 in
theorem order_lifted (os : Os) (started : os.Started) (H : Type) (enc : TypeId × Value → H) :
    ReturnsInHanded {} Try.checked os 5 .any (Rows.tallyOrderSpec.pre6 enc Try.prog Try.f5 Rows.tallyOrderRow.domain false) (Rows.tallyOrderSpec.post enc Try.prog Try.f5 false true false false) := by
  refine returnsInHanded_of_change (C := Try.checked) lawOwn started (by kernel_rfl) Try.func5
    (ChangeSpec.witness6 (enc := enc) (C := Try.checked) false ⟨#[], #[.slice none 0 0, .int .u8 0], []⟩ 8 (by kernel_rfl) (by kernel_rfl) (by kernel_rfl) (by kernel_rfl)) ?_
  intro W base args ds gs before hval0 hW _ _
  have hval : ∀ (j : Nat) t v, Try.f5.params[j]? = some t → args[j]? = some v → Value.okWide Try.prog W .any base t v := hval0
  have hW' : DataW.Whole enc Try.prog Try.f5.params.toList Rows.tallyOrderSpec.vars false W args.toList ds gs before := hW
  obtain ⟨p, q, hA0, hV, rfl, _, _⟩ := hW
  have hA : DataW.TrodAll enc Try.prog W 0 (fun _ => true) true Try.f5.params.toList args.toList ds p := hA0
  rw [Try.params5] at hA hval
  obtain ⟨v0, v1, d0, d1, p0, p1, rfl, rfl, rfl, h0, h1⟩ := trodAll_two hA
  obtain ⟨rfl, rfl⟩ := trodVars_none hV
  obtain ⟨A, n, c, l, rfl, hnc, hc, hAc, hl⟩ := open_tl (hval 0 22 v0 rfl rfl) h0
  obtain ⟨a, rfl, ha0, ha1⟩ := open_u8 (hval 1 5 v1 rfl rfl) h1
  clear hA0 hval0
  have key : Calls Try.prog 5 #[.slice A n c, .int .u8 a] W fun e W' => e = .returned (.bool true) ∧ Ext W W' := by
    by_cases hf : (∀ t ∈ l, t.gs.length ≤ 10) ∧ n ≤ 80
    · by_cases hn0 : n = 0
      · subst hn0
        exact order_zero W.heap.size A c l a hc ⟨hf.1, by omega⟩ W (Nat.le_refl _) hl
      · exact order_ok A n c l a ha0 ha1 (by omega) hnc hc hf.2 hf.1 W hl
    · exact order_none W.heap.size A n c l a hnc hc hf W (Nat.le_refl _) hl
  refine key.mono fun e W' ⟨he, hw⟩ => ?_
  subst he
  exact ⟨_, rfl, law_post lawLaid (by rw [Try.params5]; decide) rfl (by kernel_rfl) Try.underlying4 hW' rfl rfl rfl hw⟩

theorem order_holds : Rows.TallyOrderSaid :=
  OpenClaim.holds_of_wide 5 Try.f5 rfl rfl rfl rfl rfl rfl rfl ⟨rfl, rfl, rfl, rfl, rfl⟩ rfl rfl rfl rfl rfl (by kernel_rfl) Try.func5 (by kernel_rfl)
    (of_decide_eq_true (by kernel_rfl)) (by unfold Func.isWrapper; rw [if_neg (of_decide_eq_false (by kernel_rfl))]; exact ⟨rfl, rfl⟩)
    (fun os started H enc _ => order_lifted os started H enc)

end Go.Proofs.Ytohgckdkkeiggaa
