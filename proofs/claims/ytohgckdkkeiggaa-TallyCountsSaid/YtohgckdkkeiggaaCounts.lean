/- Proved: the law roundellaw11.TallyCounts returns true for every input: of any ticks, whatever the numbers, all that is counted is the document's. Conditions: none. -/
import Derived.Test.YtohgckdkkeiggaaP
import Derived.Test.YtohgckdkkeiggaaOpen
namespace Go.Proofs.Ytohgckdkkeiggaa
set_option linter.unusedSimpArgs false
set_option linter.unusedVariables false
open Go.ChangeShapes Go.WideShapes Go.ChangeAt Go.RowKit Go.Joins

set_option maxRecDepth 100000 in
theorem counts_lifted (os : Os) (started : os.Started) (H : Type) (enc : TypeId × Value → H) :
    ReturnsInHanded {} Try.checked os 3 .any (Rows.tallyCountsSpec.pre6 enc Try.prog Try.f3 Rows.tallyCountsRow.domain false) (Rows.tallyCountsSpec.post enc Try.prog Try.f3 false true false false) := by
  refine returnsInHanded_of_change (C := Try.checked) lawOwn started (by kernel_rfl) Try.func3
    (ChangeSpec.witness6 (enc := enc) (C := Try.checked) false ⟨#[], #[.slice none 0 0, .int .i64 0], []⟩ 8 (by kernel_rfl) (by kernel_rfl) (by kernel_rfl) (by kernel_rfl)) ?_
  intro W base args ds gs before hval0 hW _ _
  have hval : ∀ (j : Nat) t v, Try.f3.params[j]? = some t → args[j]? = some v → Value.okWide Try.prog W .any base t v := hval0
  have hW' : DataW.Whole enc Try.prog Try.f3.params.toList Rows.tallyCountsSpec.vars false W args.toList ds gs before := hW
  obtain ⟨p, q, hA0, hV, rfl, _, _⟩ := hW
  have hA : DataW.TrodAll enc Try.prog W 0 (fun _ => true) true Try.f3.params.toList args.toList ds p := hA0
  rw [Try.params3] at hA hval
  obtain ⟨v0, v1, d0, d1, p0, p1, rfl, rfl, rfl, h0, h1⟩ := trodAll_two hA
  obtain ⟨rfl, rfl⟩ := trodVars_none hV
  obtain ⟨A, n, c, l, rfl, hnc, hc, hl⟩ := open_tl (hval 0 22 v0 rfl rfl) h0
  obtain ⟨id, rfl⟩ := okWide_int Try.underlying3 (hval 1 3 v1 rfl rfl)
  obtain ⟨f1, hf1⟩ := h1
  obtain ⟨id', e1, -, w1⟩ := DataW.trod_int Try.underlying3 hf1
  simp only [Value.cells, List.cons.injEq, Value.int.injEq, true_and, and_true] at e1
  subst e1
  clear hA0 hval0
  have key : Calls Try.prog 3 #[.slice A n c, .int .i64 id] W fun e W' => e = .returned (.bool true) ∧ Ext W W' := by
    by_cases hf : (∀ t ∈ l, t.gs.length ≤ 10) ∧ n ≤ 80
    · exact counts_ok A n c l id (i64_of w1) hnc hc hf.2 hf.1 W hl
    · exact counts_far W.heap.size A n c l id hnc hc hf W (Nat.le_refl _) hl
  refine key.mono fun e W' ⟨he, hw⟩ => ?_
  subst he
  exact ⟨_, rfl, law_post lawLaid (by rw [Try.params3]; decide) rfl (by kernel_rfl) Try.underlying4 hW' rfl rfl rfl hw⟩

theorem counts_holds : Rows.TallyCountsSaid :=
  OpenClaim.holds_of_wide 3 Try.f3 rfl rfl rfl rfl rfl rfl rfl ⟨rfl, rfl, rfl, rfl, rfl⟩ rfl rfl rfl rfl rfl (by kernel_rfl) Try.func3 (by kernel_rfl)
    (of_decide_eq_true (by kernel_rfl)) (by unfold Func.isWrapper; rw [if_neg (of_decide_eq_false (by kernel_rfl))]; exact ⟨rfl, rfl⟩)
    (fun os started H enc _ => counts_lifted os started H enc)

end Go.Proofs.Ytohgckdkkeiggaa
