/- A part of the proof of a law of roundel: contracts of functions and lemmas, each true as it stands; no condition beyond those that its theorems state. -/
import Derived.Test.YtnlcbilmalfjaaaLo1
import Derived.Test.YtnlcbilmalfjaaaU
import Derived.Deep.Slices
import Derived.ChangeSlices
namespace Go.Proofs.Ytnlcbilmalfjaaa
set_option linter.unusedSimpArgs false
set_option linter.unusedVariables false
open Go.RowKit

section
open Go.ChangeShapes Go.WideShapes Go.ChangeAt Go.Joins Go.Deep
theorem lawOwn : ownKnob Try.prog.godebug = none := by kernel_rfl
theorem lawLaid : laidOutB Try.prog = true := by kernel_rfl
theorem cells3 : Try.prog.cellsOf 3 = 1 := by kernel_rfl
theorem cells5 : Try.prog.cellsOf 5 = 1 := by kernel_rfl
theorem cells4 : Try.prog.cellsOf 4 = 1 := by kernel_rfl
theorem cell_in {W : World} {a : Addr} {v : Value} (h : W.cell? a = some v) : a.spot = none ∧ a.block < W.heap.size := by
  unfold World.cell? at h
  split at h
  · rename_i heq
    refine ⟨?_, (Array.getElem?_eq_some_iff.1 heq).1⟩
    split at h
    · simp at h
    · rename_i hs
      cases hh : a.spot with
      | none => rfl
      | some x => simp [hh] at hs
  · simp at h
theorem open_u8 {H : Type} {enc : TypeId × Value → H} {W : World} {r : Reach} {b0 : Nat} {held : Bool} {v : Value} {d : DataW H} {p : List MemPlace}
    (hv : Value.okWide Try.prog W r b0 5 v) (h : DataW.Trod enc Try.prog W 0 (fun _ => true) held 5 v d p) : ∃ x, v = .int .u8 x ∧ 0 ≤ x ∧ x ≤ 255 := by
  obtain ⟨id, rfl⟩ := okWide_int Try.underlying5 hv
  obtain ⟨f1, hf1⟩ := h
  obtain ⟨id', e1, -, w1⟩ := DataW.trod_int Try.underlying5 hf1
  simp only [Value.cells, List.cons.injEq, Value.int.injEq, true_and, and_true] at e1
  subst e1
  exact ⟨id, rfl, bounds_u8 w1⟩
theorem open_i64 {H : Type} {enc : TypeId × Value → H} {W : World} {r : Reach} {b0 : Nat} {held : Bool} {v : Value} {d : DataW H} {p : List MemPlace}
    (hv : Value.okWide Try.prog W r b0 3 v) (h : DataW.Trod enc Try.prog W 0 (fun _ => true) held 3 v d p) : ∃ x, v = .int .i64 x ∧ -9223372036854775808 ≤ x ∧ x ≤ 9223372036854775807 := by
  obtain ⟨id, rfl⟩ := okWide_int Try.underlying3 hv
  obtain ⟨f1, hf1⟩ := h
  obtain ⟨id', e1, -, w1⟩ := DataW.trod_int Try.underlying3 hf1
  simp only [Value.cells, List.cons.injEq, Value.int.injEq, true_and, and_true] at e1
  subst e1
  exact ⟨id, rfl, bounds_i64 w1⟩
/-- A row of bytes. -/
def UL (W : World) (A : Option Addr) (n : Nat) (t : Nat → Nat) : Prop := (∀ j, t j ≤ 255) ∧ (0 < n → ∃ x o, A = some ⟨x, o, none⟩ ∧ x < W.heap.size ∧ ∀ j, j < n → W.cell? ⟨x, o + j, none⟩ = some (.int .u8 (t j : Int)))
theorem open_il {H : Type} {enc : TypeId × Value → H} {W : World} {r : Reach} {b0 : Nat} {held : Bool} {v : Value} {d : DataW H} {p : List MemPlace}
    (hv : Value.okWide Try.prog W r b0 22 v) (h : DataW.Trod enc Try.prog W 0 (fun _ => true) held 22 v d p) :
    ∃ (A : Option Addr) (n c : Nat) (t : Nat → Int), v = .slice A n c ∧ n ≤ c ∧ c ≤ 9223372036854775807 ∧ IL W A n t := by
  obtain ⟨A, n, c, rfl⟩ := okWide_slice Try.underlying22 hv
  obtain ⟨fuel, hf⟩ := h
  simp only [Value.cells] at hf
  rcases open_ints Try.underlying22 Try.underlying3 cells3 hf with ⟨h0, -⟩ | ⟨a, len, cap, zs, h0, -, hl, hm, hz, -, hx, -⟩
  · simp only [List.cons.injEq, Value.slice.injEq, and_true] at h0
    obtain ⟨rfl, rfl, rfl⟩ := h0
    exact ⟨none, 0, 0, fun _ => 0, rfl, by omega, by omega, fun h => absurd h (by omega)⟩
  · simp only [List.cons.injEq, Value.slice.injEq, and_true] at h0
    obtain ⟨rfl, rfl, rfl⟩ := h0
    simp only [if_true] at hz
    obtain ⟨b, o, s⟩ := a
    refine ⟨_, n, c, fun j => zs.getD j 0, rfl, hl, by unfold maxLen at hm; omega, fun hn => ?_⟩
    have z := cell_in (hx 0 (by omega))
    simp [Addr.add] at z
    obtain ⟨rfl, hb⟩ := z
    refine ⟨b, o, rfl, hb, fun j hj => ?_⟩
    have := hx j (by omega)
    rwa [Addr.add_mid] at this
theorem open_ul {H : Type} {enc : TypeId × Value → H} {W : World} {r : Reach} {b0 : Nat} {held : Bool} {v : Value} {d : DataW H} {p : List MemPlace}
    (hv : Value.okWide Try.prog W r b0 37 v) (h : DataW.Trod enc Try.prog W 0 (fun _ => true) held 37 v d p) :
    ∃ (A : Option Addr) (n c : Nat) (t : Nat → Nat), v = .slice A n c ∧ n ≤ c ∧ c ≤ 9223372036854775807 ∧ UL W A n t := by
  obtain ⟨A, n, c, rfl⟩ := okWide_slice Try.underlying37 hv
  obtain ⟨fuel, hf⟩ := h
  simp only [Value.cells] at hf
  rcases open_ints Try.underlying37 Try.underlying5 cells5 hf with ⟨h0, -⟩ | ⟨a, len, cap, zs, h0, -, hl, hm, hz, -, hx, hw⟩
  · simp only [List.cons.injEq, Value.slice.injEq, and_true] at h0
    obtain ⟨rfl, rfl, rfl⟩ := h0
    exact ⟨none, 0, 0, fun _ => 0, rfl, by omega, by omega, fun _ => by dsimp only; omega, fun h => absurd h (by omega)⟩
  · simp only [List.cons.injEq, Value.slice.injEq, and_true] at h0
    obtain ⟨rfl, rfl, rfl⟩ := h0
    simp only [if_true] at hz
    obtain ⟨b, o, s⟩ := a
    have bd : ∀ j, 0 ≤ zs.getD j 0 ∧ zs.getD j 0 ≤ 255 := fun j => by
      by_cases hj : j < zs.length
      · have e : zs.getD j 0 = zs[j] := by simp [List.getD, hj]
        rw [e]
        exact bounds_u8 (hw _ (List.getElem_mem hj))
      · simp [List.getD, List.getElem?_eq_none (Nat.le_of_not_lt hj)]
    refine ⟨_, n, c, fun j => (zs.getD j 0).toNat, rfl, hl, by unfold maxLen at hm; omega, fun j => by have := bd j; dsimp only; omega, fun hn => ?_⟩
    have z := cell_in (hx 0 (by omega))
    simp [Addr.add] at z
    obtain ⟨rfl, hb⟩ := z
    refine ⟨b, o, rfl, hb, fun j hj => ?_⟩
    have := hx j (by omega)
    rw [Addr.add_mid] at this
    rw [this, Int.toNat_of_nonneg (bd j).1]
end
end Go.Proofs.Ytnlcbilmalfjaaa
