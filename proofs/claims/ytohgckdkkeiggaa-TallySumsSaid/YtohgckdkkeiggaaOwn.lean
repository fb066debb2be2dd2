/- A part of the proof of a law of roundel: contracts of functions and lemmas, each true as it stands; no condition beyond those that its theorems state. -/
import Derived.Test.YtohgckdkkeiggaaO
namespace Go.Proofs.Ytohgckdkkeiggaa
set_option linter.unusedSimpArgs false
set_option linter.unusedVariables false
open Go.RowKit Go.Maps

/-- The law's own row, as a slice that the tally at b does not touch. -/
theorem own_sl {W : World} {own : Own} {base b : Nat} {v : Value} {l : List Int} (h : OwnI W base v l) (hi : ∀ g ∈ l, I64 g) (hb : b < base) (ht : ∀ x t, own x = some t → x < base) :
    ∃ A c, v = .slice A l.length c ∧ l.length ≤ c ∧ c ≤ 9223372036854775807 ∧ Sl W own b A l.length l := by
  rcases h.2 with ⟨hv, hn⟩ | ⟨g, cap, cur, hv, hg, hh, hnc, hcm, hcs, htk⟩
  · exact ⟨none, 0, by rw [hv, hn], by omega, by omega, rfl, hi, fun h => by omega⟩
  · refine ⟨some ⟨g, 0, none⟩, cap, hv, hnc, by unfold maxLen at hcm; omega, rfl, hi, fun hn => ⟨g, 0, rfl, block_lt_of_cell (a := ⟨g, 0, none⟩) (v := (cur[0]'(by omega))) ?_, by omega, fun off key e => by have := ht _ _ e; omega, fun j hj => ?_⟩⟩
    · rw [cell_of_row W g 0 cur 3 (0, 0) hh]
      exact Array.getElem?_eq_getElem _
    · rw [Nat.zero_add, cell_of_row W g j cur 3 (0, 0) hh]
      have e : (cur.toList.take (l.length * 1))[j]? = (l.map (Value.int .i64))[j]? := by rw [htk]
      rw [Nat.mul_one, List.getElem?_take_of_lt hj, List.getElem?_map, List.getElem?_eq_getElem hj] at e
      simpa [List.getD, List.getElem?_eq_getElem hj] using e
end Go.Proofs.Ytohgckdkkeiggaa
