/- Proved: the law roundellaw07.RingOrder returns true for every input: a list's nodes stand in the order in which they were put there, and a node taken out is in no list. Conditions: none. -/
import Derived.Test.YtpcmfgkbfamdoaaOrd3
import Derived.Deep.Grids
namespace Go.Proofs.Ytpcmfgkbfamdoaa
set_option linter.unusedSimpArgs false
set_option linter.unusedVariables false
open Go.ChangeShapes Go.WideShapes Go.ChangeAt Go.RowKit Go.Joins Go.Deep

theorem open_bl {H : Type} {enc : TypeId × Value → H} {W : World} {r : Reach} {b0 : Nat} {held : Bool} {v : Value} {d : DataW H} {p : List MemPlace}
    (hv : Value.okWide Try.prog W r b0 43 v) (h : DataW.Trod enc Try.prog W 0 (fun _ => true) held 43 v d p) :
    ∃ (A : Option Addr) (n c : Nat) (bb : Nat → Bool), v = .slice A n c ∧ n ≤ c ∧ c ≤ 9223372036854775807 ∧ BL W A n bb := by
  obtain ⟨A, n, c, rfl⟩ := okWide_slice Try.underlying43 hv
  obtain ⟨fuel, hf⟩ := h
  simp only [Value.cells] at hf
  rcases open_bools Try.underlying43 Try.underlying4 cells4 hf with ⟨h0, -⟩ | ⟨a, len, cap, bb, h0, -, hl, hm, -, hx⟩
  · simp only [List.cons.injEq, Value.slice.injEq, and_true] at h0
    obtain ⟨rfl, rfl, rfl⟩ := h0
    exact ⟨none, 0, 0, fun _ => false, rfl, by omega, by omega, fun h => absurd h (by omega)⟩
  · simp only [List.cons.injEq, Value.slice.injEq, and_true] at h0
    obtain ⟨rfl, rfl, rfl⟩ := h0
    obtain ⟨b, o, s⟩ := a
    refine ⟨_, n, c, bb, rfl, hl, by unfold maxLen at hm; omega, fun hn => ?_⟩
    have z := cell_in (hx 0 (by omega))
    simp [Addr.add] at z
    obtain ⟨rfl, hb⟩ := z
    refine ⟨b, o, rfl, hb, fun j hj => ?_⟩
    have := hx j (by omega)
    rwa [Addr.add_mid] at this

set_option maxRecDepth 100000 in
theorem order_lifted (os : Os) (started : os.Started) (H : Type) (enc : TypeId × Value → H) :
    ReturnsInHanded {} Try.checked os 4 .any (Rows.ringOrderSpec.pre6 enc Try.prog Try.f4 Rows.ringOrderRow.domain false) (Rows.ringOrderSpec.post enc Try.prog Try.f4 false true false false) := by
  refine returnsInHanded_of_change (C := Try.checked) lawOwn started (by kernel_rfl) Try.func4
    (ChangeSpec.witness6 (enc := enc) (C := Try.checked) false ⟨#[], #[.slice none 0 0, .int .u8 0], []⟩ 8 (by kernel_rfl) (by kernel_rfl) (by kernel_rfl) (by kernel_rfl)) ?_
  intro W base args ds gs before hval0 hW _ _
  have hval : ∀ (j : Nat) t v, Try.f4.params[j]? = some t → args[j]? = some v → Value.okWide Try.prog W .any base t v := hval0
  have hW' : DataW.Whole enc Try.prog Try.f4.params.toList Rows.ringOrderSpec.vars false W args.toList ds gs before := hW
  obtain ⟨p, q, hA0, hV, rfl, _, _⟩ := hW
  have hA : DataW.TrodAll enc Try.prog W 0 (fun _ => true) true Try.f4.params.toList args.toList ds p := hA0
  rw [Try.params4] at hA hval
  obtain ⟨v0, v1, d0, d1, p0, p1, rfl, rfl, rfl, h0, h1⟩ := trodAll_two hA
  obtain ⟨rfl, rfl⟩ := trodVars_none hV
  obtain ⟨A, n, c, bb, rfl, hnc, hc, hl⟩ := open_bl (hval 0 43 v0 rfl rfl) h0
  obtain ⟨a, rfl, ha0, ha1⟩ := open_u8 (hval 1 5 v1 rfl rfl) h1
  clear hA0 hval0
  have key : Calls Try.prog 4 #[.slice A n c, .int .u8 a] W fun e W' => e = .returned (.bool true) ∧ Ext W W' := by
    obtain ⟨m, rfl⟩ := Int.eq_ofNat_of_zero_le ha0
    by_cases hn : n = 0
    · subst hn
      exact order_nil A c (m : Int) hc W
    · by_cases hf : n ≤ 40
      · exact order_ok A n c bb m (by omega) hnc hc (by omega) hf W hl
      · exact order_far A n c (m : Int) hnc hc (by omega) W
  refine key.mono fun e W' ⟨he, hw⟩ => ?_
  subst he
  exact ⟨_, rfl, law_post lawLaid (by rw [Try.params4]; decide) rfl (by kernel_rfl) Try.underlying4 hW' rfl rfl rfl hw⟩

theorem order_holds : Rows.RingOrderSaid :=
  OpenClaim.holds_of_wide 4 Try.f4 rfl rfl rfl rfl rfl rfl rfl ⟨rfl, rfl, rfl, rfl, rfl⟩ rfl rfl rfl rfl rfl (by kernel_rfl) Try.func4 (by kernel_rfl)
    (of_decide_eq_true (by kernel_rfl)) (by unfold Func.isWrapper; rw [if_neg (of_decide_eq_false (by kernel_rfl))]; exact ⟨rfl, rfl⟩)
    (fun os started H enc _ => order_lifted os started H enc)

end Go.Proofs.Ytpcmfgkbfamdoaa
