/- A part of the proof of a law of roundel: contracts of functions and lemmas, each true as it stands; no condition beyond those that its theorems state. -/
import Derived.Test.YtnlcbilmalfjaaaE
namespace Go.Proofs.Ytnlcbilmalfjaaa
set_option linter.unusedSimpArgs false
set_option linter.unusedVariables false
open Go.RowKit

def rowI (rows : List (List Nat)) (l : Int) : List Nat := if 0 ≤ l then rowAt rows l.toNat else []
def listS (rows : List (List Nat)) (n : Int) : Int := if 0 ≤ n ∧ n.toNat ∈ rows.flatten then (listOf rows n.toNat : Int) else -1
def nextS (rows : List (List Nat)) (n : Int) : Int := if 0 ≤ n ∧ n.toNat ∈ rows.flatten then firstI ((rowAt rows (listOf rows n.toNat)).drop (posOf rows n.toNat + 1)) else -1
def prevS (rows : List (List Nat)) (n : Int) : Int := if 0 ≤ n ∧ n.toNat ∈ rows.flatten then lastI ((rowAt rows (listOf rows n.toNat)).take (posOf rows n.toNat)) else -1
theorem rowI_in (rows : List (List Nat)) (l : Nat) : rowI rows (l : Int) = rowAt rows l := by simp [rowI]
theorem rowAt_out {rows : List (List Nat)} {l : Nat} (h : rows.length ≤ l) : rowAt rows l = [] := by
  simp [rowAt, List.getD, List.getElem?_eq_none h]
theorem rowI_out {rows : List (List Nat)} {l : Int} (h : ¬ (0 ≤ l ∧ l < (rows.length : Int))) : rowI rows l = [] := by
  unfold rowI
  split
  · exact rowAt_out (by omega)
  · rfl

section
variable {B rb lb mb N M : Nat} {rows : List (List Nat)}

theorem Len_any (l : Int) (W : World) (H : Rr W B rb lb mb N M rows) :
    Calls Try.prog 18 #[.pointer (some ⟨rb, 0, none⟩), .int .i64 l] W fun e W' => e = .returned (.int .i64 ((rowI rows l).length : Int)) ∧ W' = W := by
  obtain ⟨g, Hg, L⟩ := H
  by_cases p : 0 ≤ l ∧ l < (M : Int)
  · obtain ⟨k, rfl⟩ := Int.eq_ofNat_of_zero_le p.1
    have hk : k < M := by omega
    have z := Len_in k hk W Hg
    rw [L.many k hk] at z
    rw [rowI_in]
    exact z
  · rw [rowI_out (by rw [L.len]; exact p)]
    exact Len_out l p W Hg
theorem First_any (l : Int) (W : World) (H : Rr W B rb lb mb N M rows) :
    Calls Try.prog 34 #[.pointer (some ⟨rb, 0, none⟩), .int .i64 l] W fun e W' => e = .returned (.int .i64 (firstI (rowI rows l))) ∧ Ext W W' := by
  obtain ⟨g, Hg, L⟩ := H
  by_cases p : 0 ≤ l ∧ l < (M : Int)
  · obtain ⟨k, rfl⟩ := Int.eq_ofNat_of_zero_le p.1
    have hk : k < M := by omega
    have z := First_in k hk W Hg
    rw [(L.first hk).1] at z
    rw [rowI_in]
    exact z
  · rw [rowI_out (by rw [L.len]; exact p)]
    exact First_out l p W Hg
theorem Last_any (l : Int) (W : World) (H : Rr W B rb lb mb N M rows) :
    Calls Try.prog 45 #[.pointer (some ⟨rb, 0, none⟩), .int .i64 l] W fun e W' => e = .returned (.int .i64 (lastI (rowI rows l))) ∧ Ext W W' := by
  obtain ⟨g, Hg, L⟩ := H
  by_cases p : 0 ≤ l ∧ l < (M : Int)
  · obtain ⟨k, rfl⟩ := Int.eq_ofNat_of_zero_le p.1
    have hk : k < M := by omega
    have z := Last_in k hk W Hg
    rw [(L.last hk).2.1] at z
    rw [rowI_in]
    exact z
  · rw [rowI_out (by rw [L.len]; exact p)]
    exact Last_out l p W Hg
theorem List_any (n : Int) (W : World) (H : Rr W B rb lb mb N M rows) :
    Calls Try.prog 44 #[.pointer (some ⟨rb, 0, none⟩), .int .i64 n] W fun e W' => e = .returned (.int .i64 (listS rows n)) ∧ W' = W := by
  obtain ⟨g, Hg, L⟩ := H
  by_cases p : 0 ≤ n ∧ n < (N : Int)
  · obtain ⟨k, rfl⟩ := Int.eq_ofNat_of_zero_le p.1
    have hk : k < N := by omega
    have z := List_in k hk W Hg
    by_cases q : k ∈ rows.flatten
    · rw [(L.listOf_eq q).2.1] at z
      have e : listS rows (k : Int) = (listOf rows k : Int) := by
        unfold listS
        rw [if_pos (by simpa using q)]
        rfl
      rw [e]
      exact z
    · rw [L.free k hk q] at z
      have e : listS rows (k : Int) = -1 := by
        unfold listS
        rw [if_neg (by simpa using q)]
      rw [e]
      exact z
  · have e : listS rows n = -1 := by
      unfold listS
      rw [if_neg (fun h => p ⟨h.1, by have := L.lt _ h.2; omega⟩)]
    rw [e]
    exact List_out n p W Hg
theorem Next_any (n : Int) (W : World) (H : Rr W B rb lb mb N M rows) :
    Calls Try.prog 35 #[.pointer (some ⟨rb, 0, none⟩), .int .i64 n] W fun e W' => e = .returned (.int .i64 (nextS rows n)) ∧ W' = W := by
  obtain ⟨g, Hg, L⟩ := H
  by_cases p : 0 ≤ n ∧ n < (N : Int)
  · obtain ⟨x, rfl⟩ := Int.eq_ofNat_of_zero_le p.1
    have hk : x < N := by omega
    by_cases q : x ∈ rows.flatten
    · obtain ⟨h1, h2, h3⟩ := L.listOf_eq q
      have z := Next_in x hk (by omega) W Hg
      rw [(L.next h1 h3).1] at z
      have e : nextS rows (x : Int) = firstI ((rowAt rows (listOf rows x)).drop (posOf rows x + 1)) := by
        unfold nextS
        rw [if_pos (by simpa using q)]
        rfl
      rw [e]
      exact z
    · have e : nextS rows (x : Int) = -1 := by
        unfold nextS
        rw [if_neg (by simpa using q)]
      rw [e]
      exact Next_none x hk (L.free x hk q) W Hg
  · have e : nextS rows n = -1 := by
      unfold nextS
      rw [if_neg (fun h => p ⟨h.1, by have := L.lt _ h.2; omega⟩)]
    rw [e]
    exact Next_out n p W Hg
theorem Prev_any (n : Int) (W : World) (H : Rr W B rb lb mb N M rows) :
    Calls Try.prog 46 #[.pointer (some ⟨rb, 0, none⟩), .int .i64 n] W fun e W' => e = .returned (.int .i64 (prevS rows n)) ∧ W' = W := by
  obtain ⟨g, Hg, L⟩ := H
  by_cases p : 0 ≤ n ∧ n < (N : Int)
  · obtain ⟨x, rfl⟩ := Int.eq_ofNat_of_zero_le p.1
    have hk : x < N := by omega
    by_cases q : x ∈ rows.flatten
    · obtain ⟨h1, h2, h3⟩ := L.listOf_eq q
      have z := Prev_in x hk (by omega) W Hg
      rw [(L.next h1 h3).2] at z
      have e : prevS rows (x : Int) = lastI ((rowAt rows (listOf rows x)).take (posOf rows x)) := by
        unfold prevS
        rw [if_pos (by simpa using q)]
        rfl
      rw [e]
      exact z
    · have e : prevS rows (x : Int) = -1 := by
        unfold prevS
        rw [if_neg (by simpa using q)]
      rw [e]
      exact Prev_none x hk (L.free x hk q) W Hg
  · have e : prevS rows n = -1 := by
      unfold prevS
      rw [if_neg (fun h => p ⟨h.1, by have := L.lt _ h.2; omega⟩)]
    rw [e]
    exact Prev_out n p W Hg

theorem Rr.kept {W W' : World} (h : Rr W B rb lb mb N M rows) (he : Ext W W') : Rr W' B rb lb mb N M rows := h.elim fun g h => ⟨g, h.1.ext he, h.2⟩
end
end Go.Proofs.Ytnlcbilmalfjaaa
