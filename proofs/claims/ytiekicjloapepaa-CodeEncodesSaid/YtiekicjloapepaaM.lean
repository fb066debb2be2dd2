/- A part of the proof of a law of roundel: contracts of functions and lemmas, each true as it stands; no condition beyond those that its theorems state. -/
import Derived.Test.YtiekicjloapepaaK
import Derived.Laws.BytesString
namespace Go.Proofs.Ytiekicjloapepaa
set_option linter.unusedSimpArgs false
set_option linter.unusedVariables false
open Go.RowKit

/-- Bytes as a string. -/
def strOf (l : List Int) : ByteArray := ⟨(l.map fun n => UInt8.ofNat n.toNat).toArray⟩

theorem foldl_strOf : ∀ (l : List Int) (r : ByteArray), l.foldl (fun r n => r.push (UInt8.ofNat n.toNat)) r = ⟨r.data ++ (l.map fun n => UInt8.ofNat n.toNat).toArray⟩
  | [], r => by simp
  | b :: l, r => by
    simp only [List.foldl_cons]
    rw [foldl_strOf l]
    simp [ByteArray.push]

theorem strOf_inj {l m : List Int} (hl : ∀ x ∈ l, 0 ≤ x ∧ x ≤ 255) (hm : ∀ x ∈ m, 0 ≤ x ∧ x ≤ 255) (h : strOf l = strOf m) : l = m := by
  have h' : (l.map fun n => UInt8.ofNat n.toNat) = m.map fun n => UInt8.ofNat n.toNat := by
    simpa [strOf] using h
  have hlen : l.length = m.length := by simpa using congrArg List.length h'
  apply List.ext_getElem hlen
  intro i h1 h2
  have e : (l.map fun n => UInt8.ofNat n.toNat)[i]'(by simpa using h1) = (m.map fun n => UInt8.ofNat n.toNat)[i]'(by simpa using h2) := by simp only [h']
  simp only [List.getElem_map] at e
  have e2 := congrArg UInt8.toNat e
  have b1 := hl _ (List.getElem_mem h1)
  have b2 := hm _ (List.getElem_mem h2)
  simp only [UInt8.toNat_ofNat'] at e2
  rw [Nat.mod_eq_of_lt (by omega), Nat.mod_eq_of_lt (by omega)] at e2
  omega

theorem conv_rd (A : Option Addr) (n c : Nat) (l : List Int) (W : World) (hr : Rd W A n l) : (convert 27 9 (.slice A n c)).run Try.prog W = .ok (.string (strOf l)) W := by
  rw [run_convert_bytes_string W 27 9 5 A n c Try.underlying27 Try.underlying5 Try.underlying9]
  cases A with
  | none =>
    have hn : n = 0 := by
      rcases Nat.eq_zero_or_pos n with h | h
      · exact h
      · obtain ⟨b, o, h, _⟩ := hr.2.2 h
        cases h
    have : l = [] := List.eq_nil_of_length_eq_zero (hr.1.trans hn)
    subst this
    rfl
  | some a =>
    have hl : (loadCells a n).run Try.prog W = .ok (l.map (Value.int .u8)).toArray W := by
      have := run_loadCells_list (P := Try.prog) W a (l.map (Value.int .u8)) (fun j v hj => by
        have hjn : j < n := by
          have := (List.getElem?_eq_some_iff.1 hj).1
          have h1 := hr.1
          simp at this
          omega
        obtain ⟨b, o, h, _, hc⟩ := hr.2.2 (by omega)
        injection h with h
        subst h
        rw [Addr.add_mid, hc j hjn]
        rw [List.getElem?_map] at hj
        have : j < l.length := by rw [hr.1]; exact hjn
        simp [List.getElem?_eq_getElem this, List.getD] at hj ⊢
        exact hj)
      rw [List.length_map, hr.1] at this
      exact this
    rw [run_bytesToString W a n c l hl, foldl_strOf, show ByteArray.empty.data = #[] from rfl]
    simp [strOf]

theorem own_rd {W : World} {B : Nat} {v : Value} {l : List Int} (h : OwnB W B v l) (hb : ∀ x ∈ l, 0 ≤ x ∧ x ≤ 255) : ∃ A c, v = .slice A l.length c ∧ l.length ≤ c ∧ c ≤ 9223372036854775807 ∧ Rd W A l.length l := by
  rcases h.2 with ⟨hv, hn⟩ | ⟨g, cap, cur, hv, _, hh, hnc, hcm, hcs, htk⟩
  · refine ⟨none, 0, by rw [hv, hn], by omega, by omega, rfl, hb, fun h => by omega⟩
  · refine ⟨some ⟨g, 0, none⟩, cap, hv, hnc, by unfold maxLen at hcm; omega, rfl, hb, fun hn => ⟨g, 0, rfl, block_lt_of_cell (a := ⟨g, 0, none⟩) (v := (cur[0]'(by omega))) ?_, fun j hj => ?_⟩⟩
    · rw [cell_of_row W g 0 cur 5 (0, 0) hh]
      exact Array.getElem?_eq_getElem _
    · rw [Nat.zero_add, cell_of_row W g j cur 5 (0, 0) hh]
      have e : (cur.toList.take (l.length * 1))[j]? = (l.map (Value.int .u8))[j]? := by rw [htk]
      rw [Nat.mul_one, List.getElem?_take_of_lt hj, List.getElem?_map, List.getElem?_eq_getElem hj] at e
      simpa [List.getD, List.getElem?_eq_getElem hj] using e

theorem conv_own {W : World} {B : Nat} {v : Value} {l : List Int} (h : OwnB W B v l) (hb : ∀ x ∈ l, 0 ≤ x ∧ x ≤ 255) : (convert 27 9 v).run Try.prog W = .ok (.string (strOf l)) W := by
  obtain ⟨A, c, rfl, _, _, hr⟩ := own_rd h hb
  exact conv_rd A _ c l W hr

theorem beL_bytes (k N : Nat) : ∀ x ∈ beL k N, 0 ≤ x ∧ x ≤ 255 := by
  induction k with
  | zero => simp [beL]
  | succ k ih =>
    intro x hx
    simp only [beL, List.mem_cons] at hx
    rcases hx with rfl | hx
    · omega
    · exact ih x hx
theorem encL_bytes (n : Nat) (hn : n ≤ 255) (A B M : Int) : ∀ x ∈ encL n A B M, 0 ≤ x ∧ x ≤ 255 := by
  intro x hx
  simp only [encL, List.mem_append, List.mem_singleton] at hx
  rcases hx with ((hx | hx) | hx) | hx
  · omega
  all_goals exact beL_bytes _ _ x hx
theorem encL_length (n : Nat) (A B M : Int) : (encL n A B M).length = 1 + (wa n).toNat + (wb n).toNat + (wm n).toNat := by simp [encL, beL_length]; omega

theorem enc13 : encL 1 3 0 0 = [1, 3] := by simp [encL, wa, wb, wm, beL]
theorem good13 : goodB 1 3 0 0 = true := by simp [goodB, isOp, fitsB, wa, wb, wm]
theorem wd12 : wd 12 = ⟨#[110, 101, 119, 103, 114, 111, 117, 112]⟩ := by simp [wd]

set_option maxHeartbeats 1000000 in
theorem awake_any (w : World) : Calls Try.prog 8 #[] w fun e w' => e = .returned (.bool true) ∧ Ext w w' := by
  go_enter Try.func8, Try.ntmps8
  go_wp2_with fail
  refine (enc_good 1 3 0 0 (by omega) (by omega) good13 _).mono ?_
  rintro e w1 ⟨v, rfl, ho, he1⟩
  rw [enc13] at ho
  have hcv := conv_own ho (by simp)
  clear ho
  have hs : ((strOf [1, 3]).toList == [1, 3]) = true := by rw [ByteArray.toList_eq]; decide
  have hs2 : ((wd 12).toList == [110, 101, 119, 103, 114, 111, 117, 112]) = true := by rw [wd12, ByteArray.toList_eq]; decide
  go_wp2_with fail
  refine (word_any 12 _).mono ?_
  rintro e w2 ⟨rfl, he2⟩
  go_wp2
  go_ret
  refine ⟨rfl, ?_⟩
  (repeat (first | with_reducible exact Ext.refl _ | with_reducible assumption | with_reducible apply Ext.drew | with_reducible apply Ext.drewN | with_reducible apply Ext.alloc | (with_reducible refine Ext.setCell ?_ (by simp <;> omega) _) | (with_reducible refine Ext.trans ?_ (by with_reducible assumption))))
end Go.Proofs.Ytiekicjloapepaa
