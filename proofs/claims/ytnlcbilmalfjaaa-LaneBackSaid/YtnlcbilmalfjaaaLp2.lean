/- A part of the proof of a law of roundel: contracts of functions and lemmas, each true as it stands; no condition beyond those that its theorems state. -/
import Derived.Test.YtnlcbilmalfjaaaLp1
namespace Go.Proofs.Ytnlcbilmalfjaaa
set_option linter.unusedSimpArgs false
set_option linter.unusedVariables false
open Go.RowKit

theorem Kc.of_rc {fb : Nat} {W V : World} (h : Rc fb fb W V) : Kc fb W V := ⟨h.size, fun k o hk _ hn => (h.blk k (Array.getElem?_eq_some_iff.1 hk).1 hn hn).trans hk⟩
theorem Rc.setOb {fb : Nat} (W : World) (v : Value) : Rc fb fb W (W.setCell ⟨fb, 0, none⟩ v) := ⟨rfl, rfl, rfl, by simp, fun x hx h _ => Below.heap_setCell _ _ _ _ h⟩
section
variable {B nb tg rb lb mb N M : Nat} {rows : List (List Nat)} {T : Nat → Int}
set_option maxHeartbeats 1600000 in
theorem nodes_first (z tag : Int) (b1 b2 bl bt bf fb f : Nat) (caps : Array Value) (p : Nat → Bool) (W : World) (row : List Nat) (hrow : row = rowI rows z) (hM : 0 < M) (hN : 0 < N) (H : Ls W B nb tg rb lb mb N M rows T) (hF : FitOk N f caps p fb W)
    (hb1 : W.cell? ⟨b1, 0, none⟩ = some (.pointer (some ⟨rb, 0, none⟩))) (hb2 : W.cell? ⟨b2, 0, none⟩ = some (.int .i64 z)) (c1 : W.cell? ⟨bl, 0, none⟩ = some (.pointer (some ⟨nb, 0, none⟩))) (c2 : W.cell? ⟨bt, 0, none⟩ = some (.int .i64 tag)) (c3 : W.cell? ⟨bf, 0, none⟩ = some (.func (.func f) #[] caps)) (c4 : W.cell? ⟨fb, 0, none⟩ = some (.int .i64 (-1))) (f4 : W.frozen? ⟨fb, 0, none⟩ = false)
    (n0 : nb ≠ fb) (n0' : tg ≠ fb) (n1 : rb ≠ fb) (n2 : lb ≠ fb) (n3 : mb ≠ fb) (m1 : b1 ≠ fb) (m2 : bl ≠ fb) (m3 : bt ≠ fb) (m4 : bf ≠ fb) :
    Calls Try.prog 33 #[.func (.func 13) #[] #[.pointer (some ⟨bl, 0, none⟩), .pointer (some ⟨bt, 0, none⟩), .pointer (some ⟨bf, 0, none⟩), .pointer (some ⟨fb, 0, none⟩)], .pointer (some ⟨b1, 0, none⟩), .pointer (some ⟨b2, 0, none⟩)] W fun e V => (∃ v, e = .returned v) ∧
      Rc fb fb W V ∧ V.cell? ⟨fb, 0, none⟩ = some (.int .i64 (firstI (fitRow T tag p row))) := by
  have hmem : ∀ x ∈ row, x ∈ rows.flatten := fun x hx => by
    by_cases hz : 0 ≤ z
    · obtain ⟨k, rfl⟩ := Int.eq_ofNat_of_zero_le hz
      rw [hrow, rowI_in] at hx
      by_cases hk : k < rows.length
      · exact rowAt_mem hk hx
      · rw [rowAt_out (by omega)] at hx; simp at hx
    · rw [hrow, rowI_out (by omega)] at hx; simp at hx
  refine (nodes_call 13 _ (enters_of Try.func13 (by kernel_rfl) rfl) z b1 b2 W row hrow
    (fun pre V => Rc fb fb W V ∧ V.cell? ⟨fb, 0, none⟩ = some (.int .i64 (-1)) ∧ V.frozen? ⟨fb, 0, none⟩ = false ∧ fitRow T tag p pre = [])
    (fun pre V => Rc fb fb W V ∧ V.cell? ⟨fb, 0, none⟩ = some (.int .i64 (firstI (fitRow T tag p pre))) ∧ fitRow T tag p pre ≠ [])
    H.rr ?_ hb1 hb2 ?_ ?_).mono ?_
  · rintro pre V ⟨C, -, -, -⟩
    have k := Kc.of_rc C
    exact ⟨H.rr.kc hM k n1 n2 n3, k.cell hb1 m1⟩
  · rintro pre x V ⟨C, v4, g4, hp⟩ hpre hx
    have k := Kc.of_rc C
    refine (parts2_any x bl bt bf fb f fb caps p tag V hx (hmem x (hpre.subset (by simp))) (H.kc hM hN k n0 n0' n1 n2 n3) (hF.step k) (k.cell c1 m2) (k.cell c2 m3) (k.cell c3 m4) v4 g4).mono ?_
    rintro e V' ⟨b, hb, h⟩
    cases b with
    | true =>
      rw [if_pos rfl] at h
      obtain ⟨rfl, q, rfl⟩ := h
      have e1 : fitRow T tag p (pre ++ [x]) = [x] := by
        unfold fitRow at hp ⊢
        rw [List.filter_append, hp]
        simp [← hb]
      refine ⟨false, rfl, .inr ⟨rfl, (C.trans (Rc.of_ext fb fb ((Ext.refl V).drewN q))).trans (Rc.setOb _ _), ?_, by rw [e1]; simp⟩⟩
      rw [e1]
      exact World.cell?_setCell_same (u := .int .i64 (-1)) _ _ _ v4
    | false =>
      rw [if_neg (by simp)] at h
      obtain ⟨rfl, q, rfl⟩ := h
      refine ⟨true, rfl, .inl ⟨rfl, C.trans (Rc.of_ext fb fb ((Ext.refl V).drewN q)), v4, g4, ?_⟩⟩
      unfold fitRow at hp ⊢
      rw [List.filter_append, hp]
      simp [← hb]
  · intro W' he
    exact ⟨Rc.of_ext fb fb he, (he.cell (p := ⟨fb, 0, none⟩) (block_lt_of_cell c4)).trans c4, (he.cells.2 _ _ (block_lt_of_cell c4)).trans f4, rfl⟩
  · rintro e V ⟨hv, ⟨C, v4, -, hp⟩ | ⟨pre, ⟨t, ht⟩, C, v4, hp⟩⟩
    · exact ⟨hv, C, by rw [v4, hp]; rfl⟩
    · refine ⟨hv, C, ?_⟩
      rw [v4, ← ht]
      unfold fitRow at hp ⊢
      rw [List.filter_append]
      cases hh : pre.filter (fun x => T x == tag && p x) with
      | nil => exact absurd hh hp
      | cons a r => rfl
end

/-! How many have a tag below one. -/
def under (t : Nat → Int) (r : List Nat) (g : Nat) : Nat := (r.filter (fun x => decide (t x < (g : Int)))).length
theorem under_succ (t : Nat → Int) (g : Nat) : ∀ r : List Nat, under t r (g + 1) = under t r g + (fitRow t (g : Int) (fun _ => true) r).length
  | [] => rfl
  | x :: r => by
    have ih := under_succ t g r
    unfold under fitRow at ih ⊢
    simp only [List.filter_cons, Bool.and_true]
    by_cases h1 : t x < (g : Int)
    · have h2 : t x < ((g + 1 : Nat) : Int) := by omega
      have h3 : (t x == (g : Int)) = false := by simp; omega
      simp only [decide_eq_true h1, decide_eq_true h2, h3, if_true, Bool.false_eq_true, if_false, List.length_cons]
      simp only [Bool.and_true] at ih
      omega
    · by_cases h2 : t x = (g : Int)
      · have h3 : t x < ((g + 1 : Nat) : Int) := by omega
        have h4 : (t x == (g : Int)) = true := by simp [h2]
        simp only [decide_eq_false h1, decide_eq_true h3, h4, if_true, Bool.false_eq_true, if_false, List.length_cons]
        simp only [Bool.and_true] at ih
        omega
      · have h3 : ¬ t x < ((g + 1 : Nat) : Int) := by omega
        have h4 : (t x == (g : Int)) = false := by simp [h2]
        simp only [decide_eq_false h1, decide_eq_false h3, h4, Bool.false_eq_true, if_false]
        simp only [Bool.and_true] at ih
        exact ih
theorem under_all (t : Nat → Int) (g : Nat) (r : List Nat) (h : ∀ x ∈ r, t x < (g : Int)) : under t r g = r.length := by
  unfold under
  rw [List.filter_eq_self.2 (fun x hx => by simpa using h x hx)]
theorem under_zero (t : Nat → Int) (r : List Nat) (h : ∀ x ∈ r, 0 ≤ t x) : under t r 0 = 0 := by
  unfold under
  rw [List.filter_eq_nil_iff.2 (fun x hx => by have := h x hx; simp; omega)]
  rfl
theorem under_le (t : Nat → Int) (r : List Nat) (g : Nat) : under t r g ≤ r.length := List.length_filter_le _ _
theorem fitRow_congr {T T' : Nat → Int} {r : List Nat} (h : ∀ x ∈ r, T x = T' x) (tag : Int) (p : Nat → Bool) : fitRow T tag p r = fitRow T' tag p r := by
  unfold fitRow
  exact List.filter_congr (fun x hx => by rw [h x hx])
end Go.Proofs.Ytnlcbilmalfjaaa
