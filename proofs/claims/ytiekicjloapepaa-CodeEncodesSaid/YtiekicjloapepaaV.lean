/- A part of the proof of a law of roundel: contracts of functions and lemmas, each true as it stands; no condition beyond those that its theorems state. -/
import Derived.Test.YtiekicjloapepaaS
import Derived.Test.YtiekicjloapepaaP
import Derived.Test.YtiekicjloapepaaU
namespace Go.Proofs.Ytiekicjloapepaa
set_option linter.unusedSimpArgs false
set_option linter.unusedVariables false
open Go.ChangeShapes Go.WideShapes Go.ChangeAt Go.RowKit Go.Joins

theorem lawOwn : ownKnob Try.prog.godebug = none := by kernel_rfl
theorem lawLaid : laidOutB Try.prog = true := by kernel_rfl

theorem cell_in {W : World} {a : Addr} {v : Value} (h : W.cell? a = some v) : a.spot = none ∧ a.block < W.heap.size := by
  unfold World.cell? at h
  split at h
  · rename_i heq
    refine ⟨?_, (Array.getElem?_eq_some_iff.1 heq).1⟩
    split at h
    · simp at h
    · rename_i hs
      cases hh : a.spot with
      | none => rfl
      | some x => simp [hh] at hs
  · simp at h

/-- Bytes of a row, opened. -/
theorem open_bytes {H : Type} {enc : TypeId × Value → H} {W : World} {r : Reach} {b0 : Nat} {held : Bool} {v : Value} {d : DataW H} {p : List MemPlace}
    (hv : Value.okWide Try.prog W r b0 27 v) (h : DataW.Trod enc Try.prog W 0 (fun _ => true) held 27 v d p) :
    ∃ (A : Option Addr) (n c : Nat) (l : List Int), v = .slice A n c ∧ n ≤ c ∧ c ≤ 9223372036854775807 ∧ (A = none → c = 0) ∧ Rd W A n l := by
  obtain ⟨A, n, c, rfl⟩ := okWide_slice Try.underlying27 hv
  obtain ⟨fuel, hf⟩ := h
  simp only [Value.cells] at hf
  rcases open_ints Try.underlying27 Try.underlying5 (by kernel_rfl) hf with ⟨h0, -⟩ | ⟨a, len, cap, zs, h0, -, hl, hm, hz, -, hcell, hwf⟩
  · simp only [List.cons.injEq, Value.slice.injEq, and_true] at h0
    obtain ⟨rfl, rfl, rfl⟩ := h0
    exact ⟨none, 0, 0, [], rfl, by omega, by omega, fun _ => rfl, rfl, by simp, by omega⟩
  · simp only [List.cons.injEq, Value.slice.injEq, and_true] at h0
    obtain ⟨rfl, rfl, rfl⟩ := h0
    simp only [if_true] at hz
    have hm' : c ≤ 9223372036854775807 := by unfold maxLen at hm; omega
    refine ⟨some a, n, c, zs.take n, rfl, hl, hm', by simp, by rw [List.length_take]; omega, fun x hx => ?_, fun hn => ?_⟩
    · have := hwf x (List.mem_of_mem_take hx)
      have b1 : IntKind.u8.min = 0 := rfl
      have b2 : IntKind.u8.max = 255 := rfl
      simpa only [Lit.wf, Bool.and_eq_true, decide_eq_true_eq, b1, b2] using this
    · have h00 := hcell 0 (by omega)
      obtain ⟨hs, hb⟩ := cell_in h00
      obtain ⟨b, o, s⟩ := a
      simp only [Addr.add, if_true] at hs hb
      subst hs
      refine ⟨b, o, rfl, hb, fun j hj => ?_⟩
      have := hcell j (by omega)
      rw [show (zs.take n).getD j 0 = zs.getD j 0 by simp [List.getD, List.getElem?_take_of_lt hj]]
      rw [← this]
      congr 1
      unfold Addr.add
      split
      · rename_i h; subst h; rfl
      · rfl

theorem decodes_any (A : Option Addr) (n c : Nat) (l : List Int) (hAc : A = none → c = 0) (hnc : n ≤ c) (hc63 : c ≤ 9223372036854775807) (w : World) (hr : Rd w A n l) :
    Calls Try.prog 5 #[.slice A n c] w fun e w' => e = .returned (.bool true) ∧ Ext w w' := by
  by_cases hn : n ≤ 300
  · by_cases h0 : n = 0
    · exact decodes_0 A n c l hAc hn hnc hc63 w hr (Lib.hid h0)
    · have hn0 : 0 < n := by omega
      have hx : 0 ≤ l.getD 0 0 ∧ l.getD 0 0 ≤ 255 := by
        rw [show l.getD 0 0 = l[0]'(by rw [hr.1]; omega) by simp [List.getD, show 0 < l.length by rw [hr.1]; omega]]
        exact hr.2.1 _ (List.getElem_mem _)
      have hop : l.getD 0 0 = ((l.getD 0 0).toNat : Int) := by omega
      cases hg : isOp (l.getD 0 0).toNat with
      | false => exact decodes_bad A n c l hAc hn hnc hc63 w hr _ hop hn0 hg
      | true =>
        by_cases hs : 1 + wa (l.getD 0 0).toNat + wb (l.getD 0 0).toNat + wm (l.getD 0 0).toNat ≤ n
        · exact decodes_ok A n c l hAc hn hnc hc63 w hr _ hop hn0 hg hs
        · exact decodes_short A n c l hAc hn hnc hc63 w hr _ hop hn0 hg (by omega)
  · exact decodes_far A n c (by omega) (by omega) w
end Go.Proofs.Ytiekicjloapepaa
