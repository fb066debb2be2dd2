/- A part of the proof of a law of roundel: contracts of functions and lemmas, each true as it stands; no condition beyond those that its theorems state. -/
import Derived.Test.YtnlcbilmalfjaaaC
namespace Go.Proofs.Ytnlcbilmalfjaaa
set_option linter.unusedSimpArgs false
set_option linter.unusedVariables false
open Go.RowKit

/-- Rings in memory: their lists. -/
def Rr (W : World) (B rb lb mb N M : Nat) (rows : List (List Nat)) : Prop := ∃ g, Rg W B rb lb mb N M g ∧ Linked N M rows g

theorem nodup_len : ∀ (N : Nat) (r : List Nat), r.Nodup → (∀ x ∈ r, x < N) → r.length ≤ N
  | 0, r, _, h => by
    cases r with
    | nil => simp
    | cons x r => have := h x (by simp); omega
  | N + 1, r, hn, h => by
    have h1 := nodup_len N (r.erase N) (hn.erase N) (fun x hx => by
      have h2 := (List.Nodup.mem_erase_iff hn).1 hx
      have := h x h2.2
      omega)
    rw [List.length_erase] at h1
    split at h1 <;> omega
theorem Linked.len_le {N M : Nat} {rows : List (List Nat)} {g : G} (h : Linked N M rows g) {l : Nat} (hl : l < M) : (rowAt rows l).length ≤ N :=
  nodup_len N _ (rowAt_nodup (by rw [h.len]; exact hl) h.nodup) (fun x hx => h.rlt hl hx)
theorem Linked.taken {N M : Nat} {rows : List (List Nat)} {g : G} (h : Linked N M rows g) {n : Nat} (hn : n ∈ rows.flatten) : ∃ l, l < M ∧ n ∈ rowAt rows l ∧ g.lst n = (l : Int) := by
  obtain ⟨l, hl, hx⟩ := mem_rowAt hn
  rw [h.len] at hl
  exact ⟨l, hl, hx, h.lst l hl n hx⟩
theorem Linked.isFree {N M : Nat} {rows : List (List Nat)} {g : G} (h : Linked N M rows g) {n : Nat} (hn : n < N) : g.lst n = -1 ↔ n ∉ rows.flatten := by
  constructor
  · intro e hm
    obtain ⟨l, _, _, h2⟩ := h.taken hm
    omega
  · exact h.free n hn

def pushS (N : Nat) (rows : List (List Nat)) (list node : Int) (lead : Bool) : List (List Nat) × Int :=
  if 0 ≤ list ∧ list < (rows.length : Int) then
    if 0 ≤ node ∧ node < (N : Int) then
      if node.toNat ∈ rows.flatten then (rows, 10)
      else (rows.set list.toNat (if lead then node.toNat :: rowAt rows list.toNat else rowAt rows list.toNat ++ [node.toNat]), 0)
    else (rows, 14)
  else (rows, 14)

section
variable {B rb lb mb N M : Nat} {rows : List (List Nat)}

set_option maxRecDepth 100000 in
set_option maxHeartbeats 1600000 in
theorem Lead_any (list node : Int) (W : World) (H : Rr W B rb lb mb N M rows) :
    Calls Try.prog 32 #[.pointer (some ⟨rb, 0, none⟩), .int .i64 list, .int .i64 node] W fun e W' => e = .returned (.int .i64 (pushS N rows list node true).2) ∧ Rr W' B rb lb mb N M (pushS N rows list node true).1 ∧ Rc lb mb W W' := by
  obtain ⟨g, Hg, L⟩ := H
  have hlen := L.len
  by_cases p1 : 0 ≤ list ∧ list < (M : Int)
  · obtain ⟨l, rfl⟩ := Int.eq_ofNat_of_zero_le p1.1
    have hl : l < M := by omega
    by_cases p2 : 0 ≤ node ∧ node < (N : Int)
    · obtain ⟨n, rfl⟩ := Int.eq_ofNat_of_zero_le p2.1
      have hn : n < N := by omega
      by_cases p3 : n ∈ rows.flatten
      · have hs : pushS N rows (l : Int) (n : Int) true = (rows, 10) := by
          unfold pushS
          rw [if_pos (by rw [hlen]; exact p1), if_pos p2, if_pos (by simpa using p3)]
        rw [hs]
        obtain ⟨l', _, _, hl'⟩ := L.taken p3
        have hne : ¬ g.lst n = -1 := by omega
        clear p1 p2 p3 hs
        go_enter Try.func32, Try.ntmps32
        go_wp2_with fail
        refine (list_any (l : Int) W Hg).mono ?_
        rintro e z1 ⟨he, hz1⟩
        have hz2 := hz1.symm; clear hz1; subst hz2
        rw [decide_eq_true (show 0 ≤ (l : Int) ∧ (l : Int) < (M : Int) by omega)] at he
        subst he
        go_wp2_with fail
        refine (free_in n hn W Hg).mono ?_
        rintro e z1 ⟨he, hz1⟩
        have hz2 := hz1.symm; clear hz1; subst hz2
        rw [if_neg hne] at he
        subst he
        go_wp2_with fail
        go_ret
        exact ⟨rfl, ⟨g, Hg, L⟩, Rc.refl _ _ _⟩
      · have hs : pushS N rows (l : Int) (n : Int) true = (rows.set l (if true then n :: rowAt rows l else rowAt rows l ++ [n]), 0) := by
          unfold pushS
          rw [if_pos (by rw [hlen]; exact p1), if_pos p2, if_neg (by simpa using p3)]
          simp
        rw [hs]
        have hfr := L.free n hn p3
        have hnl : ((N + l : Nat) : Int) = (N : Int) + (l : Int) := (by omega); have hrow : rowAt rows l = [] ++ rowAt rows l := by simp
        obtain ⟨hput, hat1, hat2, hat3⟩ := L.put hl hrow hn p3
        have HP := Lib.hid hput
        clear hrow hput
        have hm := L.many l hl
        have hml := L.len_le hl
        have hN := Hg.sm.1
        clear p1 p2 hs
        have Hd := Hg.drew
        have h0 := Hg.c0
        have h2 := Hg.c1
        have h1 := Hg.l2 (N + l) (by omega)
        have q0 : 0 ≤ (N : Int) + (l : Int) := by omega
        have q1 : (N : Int) + (l : Int) < (N : Int) + (M : Int) := by omega
        have q2 : ((N : Int) + (l : Int)).toNat = N + l := by omega
        have w1 : IntKind.i64.wrap ((N : Int) + (l : Int)) = (N : Int) + (l : Int) := IntWalk.i64_in _ (by have := Hg.sm; omega)
        go_enter Try.func32, Try.ntmps32
        go_wp2_with fail
        refine (list_any (l : Int) W Hg).mono ?_
        rintro e z1 ⟨he, hz1⟩
        have hz2 := hz1.symm; clear hz1; subst hz2
        rw [decide_eq_true (show 0 ≤ (l : Int) ∧ (l : Int) < (M : Int) by omega)] at he
        subst he
        go_wp2_with fail
        refine (free_in n hn W Hg).mono ?_
        rintro e z1 ⟨he, hz1⟩
        have hz2 := hz1.symm; clear hz1; subst hz2
        rw [if_pos hfr] at he
        subst he
        go_wp2_with fail
        rw [← hnl]
        refine (put_any (N + l) n l _ hat2 (by omega) hat3 hl rfl hat1 _ hm (by omega) (by omega) W Hg).mono ?_
        rintro e w1 ⟨rfl, R1, C1⟩
        go_wp2_with fail
        go_ret
        exact ⟨rfl, ⟨_, R1, by simpa [lastOf] using HP.out⟩, C1⟩
    · have hs : pushS N rows (l : Int) node true = (rows, 14) := by
        unfold pushS
        rw [if_pos (by rw [hlen]; exact p1), if_neg p2]
      rw [hs]
      clear p1 hs
      go_enter Try.func32, Try.ntmps32
      go_wp2_with fail
      refine (list_any (l : Int) W Hg).mono ?_
      rintro e z1 ⟨he, hz1⟩
      have hz2 := hz1.symm; clear hz1; subst hz2
      rw [decide_eq_true (show 0 ≤ (l : Int) ∧ (l : Int) < (M : Int) by omega)] at he
      subst he
      go_wp2_with fail
      refine (free_out node p2 W Hg).mono ?_
      rintro e z1 ⟨rfl, hz1⟩
      have hz2 := hz1.symm; clear hz1; subst hz2
      go_wp2_with fail
      go_ret
      exact ⟨rfl, ⟨g, Hg, L⟩, Rc.refl _ _ _⟩
  · have hs : pushS N rows list node true = (rows, 14) := by
      unfold pushS
      rw [if_neg (by rw [hlen]; exact p1)]
    rw [hs]
    clear hs
    go_enter Try.func32, Try.ntmps32
    go_wp2_with fail
    refine (list_any list W Hg).mono ?_
    rintro e z1 ⟨he, hz1⟩
    have hz2 := hz1.symm; clear hz1; subst hz2
    rw [decide_eq_false p1] at he
    subst he
    go_wp2_with fail
    go_ret
    exact ⟨rfl, ⟨g, Hg, L⟩, Rc.refl _ _ _⟩
end
end Go.Proofs.Ytnlcbilmalfjaaa
