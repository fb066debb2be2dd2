/- A part of the proof of a law of roundel: contracts of functions and lemmas, each true as it stands; no condition beyond those that its theorems state. -/
import Derived.Test.YtnlcbilmalfjaaaD
namespace Go.Proofs.Ytnlcbilmalfjaaa
set_option linter.unusedSimpArgs false
set_option linter.unusedVariables false
open Go.RowKit

/-- Where a node stands. -/
def listOf (rows : List (List Nat)) (n : Nat) : Nat := rows.findIdx (fun r => decide (n ∈ r))
def posOf (rows : List (List Nat)) (n : Nat) : Nat := (rowAt rows (listOf rows n)).idxOf n
theorem listOf_lt {rows : List (List Nat)} {n : Nat} (h : n ∈ rows.flatten) : listOf rows n < rows.length := by
  obtain ⟨r, hr, hn⟩ := List.mem_flatten.1 h
  exact List.findIdx_lt_length_of_exists ⟨r, hr, by simpa using hn⟩
theorem listOf_mem {rows : List (List Nat)} {n : Nat} (h : n ∈ rows.flatten) : n ∈ rowAt rows (listOf rows n) := by
  have hl := listOf_lt h
  have := List.findIdx_getElem (xs := rows) (p := fun r => decide (n ∈ r)) (w := hl)
  simp only [decide_eq_true_eq] at this
  have hl' : rows.findIdx (fun r => decide (n ∈ r)) < rows.length := hl
  unfold rowAt List.getD listOf
  rw [List.getElem?_eq_getElem hl']
  exact this
theorem pos_split {r : List Nat} {n : Nat} (h : n ∈ r) : r = r.take (r.idxOf n) ++ n :: r.drop (r.idxOf n + 1) := by
  have hl := List.idxOf_lt_length_of_mem h
  have e : r[r.idxOf n] = n := List.getElem_idxOf hl
  have := List.take_append_drop (r.idxOf n) r
  rw [List.drop_eq_getElem_cons hl, e] at this
  exact this.symm
theorem Linked.listOf_eq {N M : Nat} {rows : List (List Nat)} {g : G} (h : Linked N M rows g) {n : Nat} (hn : n ∈ rows.flatten) : listOf rows n < M ∧ g.lst n = (listOf rows n : Int) ∧ rowAt rows (listOf rows n) = (rowAt rows (listOf rows n)).take (posOf rows n) ++ n :: (rowAt rows (listOf rows n)).drop (posOf rows n + 1) := by
  have h1 := listOf_lt hn
  rw [h.len] at h1
  have h2 := listOf_mem hn
  exact ⟨h1, h.lst _ h1 n h2, pos_split h2⟩

def behindS (N : Nat) (rows : List (List Nat)) (a n : Int) : List (List Nat) × Int :=
  if (0 ≤ a ∧ a < (N : Int)) ∧ (0 ≤ n ∧ n < (N : Int)) then
    if a.toNat ∈ rows.flatten ∧ n.toNat ∉ rows.flatten then
      (rows.set (listOf rows a.toNat) ((rowAt rows (listOf rows a.toNat)).take (posOf rows a.toNat + 1) ++ n.toNat :: (rowAt rows (listOf rows a.toNat)).drop (posOf rows a.toNat + 1)), 0)
    else (rows, 10)
  else (rows, 14)
def dropS (N : Nat) (rows : List (List Nat)) (n : Int) : List (List Nat) × Int :=
  if 0 ≤ n ∧ n < (N : Int) then
    if n.toNat ∈ rows.flatten then (rows.set (listOf rows n.toNat) ((rowAt rows (listOf rows n.toNat)).take (posOf rows n.toNat) ++ (rowAt rows (listOf rows n.toNat)).drop (posOf rows n.toNat + 1)), 0)
    else (rows, 10)
  else (rows, 14)

section
variable {B rb lb mb N M : Nat} {rows : List (List Nat)}

theorem Drop_any (n : Int) (W : World) (H : Rr W B rb lb mb N M rows) :
    Calls Try.prog 20 #[.pointer (some ⟨rb, 0, none⟩), .int .i64 n] W fun e W' => e = .returned (.int .i64 (dropS N rows n).2) ∧ Rr W' B rb lb mb N M (dropS N rows n).1 ∧ Rc lb mb W W' := by
  obtain ⟨g, Hg, L⟩ := H
  by_cases p1 : 0 ≤ n ∧ n < (N : Int)
  · obtain ⟨x, rfl⟩ := Int.eq_ofNat_of_zero_le p1.1
    have hx : x < N := by omega
    by_cases p2 : x ∈ rows.flatten
    · have hs : dropS N rows (x : Int) = (rows.set (listOf rows x) ((rowAt rows (listOf rows x)).take (posOf rows x) ++ (rowAt rows (listOf rows x)).drop (posOf rows x + 1)), 0) := by
        unfold dropS
        rw [if_pos p1, if_pos (by simpa using p2)]
        rfl
      rw [hs]
      obtain ⟨h1, h2, h3⟩ := L.listOf_eq p2
      obtain ⟨k1, k2, k3, k4, k5, k6, k7, k8⟩ := L.drop h1 h3
      have hm := L.many _ h1
      have hml := L.len_le h1
      have hN := Hg.sm.1
      refine (Drop_in x (listOf rows x) _ _ hx h1 h2 rfl rfl k6 k7 _ rfl k8 (by omega) W Hg).mono ?_
      rintro e W' ⟨rfl, R1, C1⟩
      exact ⟨rfl, ⟨_, R1, k1⟩, C1⟩
    · have hs : dropS N rows (x : Int) = (rows, 10) := by
        unfold dropS
        rw [if_pos p1, if_neg (by simpa using p2)]
      rw [hs]
      refine (Drop_none x hx (L.free x hx p2) W Hg).mono ?_
      rintro e W' ⟨rfl, he⟩
      exact ⟨rfl, ⟨g, Hg.ext he, L⟩, Rc.of_ext _ _ he⟩
  · have hs : dropS N rows n = (rows, 14) := by
      unfold dropS
      rw [if_neg p1]
    rw [hs]
    refine (Drop_out n p1 W Hg).mono ?_
    rintro e W' ⟨rfl, rfl⟩
    exact ⟨rfl, ⟨g, Hg, L⟩, Rc.refl _ _ _⟩

set_option maxRecDepth 100000 in
set_option maxHeartbeats 1600000 in
theorem Behind_any (a n : Int) (W : World) (H : Rr W B rb lb mb N M rows) :
    Calls Try.prog 30 #[.pointer (some ⟨rb, 0, none⟩), .int .i64 a, .int .i64 n] W fun e W' => e = .returned (.int .i64 (behindS N rows a n).2) ∧ Rr W' B rb lb mb N M (behindS N rows a n).1 ∧ Rc lb mb W W' := by
  obtain ⟨g, Hg, L⟩ := H
  by_cases p1 : 0 ≤ a ∧ a < (N : Int)
  · obtain ⟨x, rfl⟩ := Int.eq_ofNat_of_zero_le p1.1
    have hx : x < N := by omega
    have hx' : (x : Int) < (N : Int) + (M : Int) := by omega
    by_cases p2 : 0 ≤ n ∧ n < (N : Int)
    · obtain ⟨y, rfl⟩ := Int.eq_ofNat_of_zero_le p2.1
      have hy : y < N := by omega
      have d1 : decide (0 ≤ (x : Int) ∧ (x : Int) < (N : Int)) = true := decide_eq_true p1
      have d2 : decide (0 ≤ (y : Int) ∧ (y : Int) < (N : Int)) = true := decide_eq_true p2
      have h0 := Hg.c0
      have h1 := Hg.l0 x (by omega)
      by_cases p3 : x ∈ rows.flatten
      · obtain ⟨g1, g2, g3⟩ := L.listOf_eq p3
        rw [g2] at h1
        have q4 : ¬ ((listOf rows x : Nat) : Int) = -1 := by omega
        have q5 : (((listOf rows x : Nat) : Int) == -1) = false := by simp [q4]
        by_cases p4 : y ∈ rows.flatten
        · have hs : behindS N rows (x : Int) (y : Int) = (rows, 10) := by
            unfold behindS
            rw [if_pos ⟨p1, p2⟩, if_neg (by simp [p4])]
          rw [hs]
          obtain ⟨l', _, _, hl'⟩ := L.taken p4
          have hne : ¬ g.lst y = -1 := by omega
          clear p1 p2 p3 p4 hs g3
          go_enter Try.func30, Try.ntmps30
          go_wp2_with fail
          refine (node_any (x : Int) W Hg).mono ?_
          rintro e z1 ⟨he, hz1⟩
          have hz2 := hz1.symm; clear hz1; subst hz2
          rw [d1] at he
          subst he
          go_wp2_with fail
          refine (node_any (y : Int) W Hg).mono ?_
          rintro e z1 ⟨he, hz1⟩
          have hz2 := hz1.symm; clear hz1; subst hz2
          rw [d2] at he
          subst he
          go_wp2_with fail
          refine (free_in y hy W Hg).mono ?_
          rintro e z1 ⟨he, hz1⟩
          have hz2 := hz1.symm; clear hz1; subst hz2
          rw [if_neg hne] at he
          subst he
          go_wp2_with fail
          go_ret
          exact ⟨rfl, ⟨g, Hg, L⟩, Rc.refl _ _ _⟩
        · have hs : behindS N rows (x : Int) (y : Int) = (rows.set (listOf rows x) ((rowAt rows (listOf rows x)).take (posOf rows x + 1) ++ y :: (rowAt rows (listOf rows x)).drop (posOf rows x + 1)), 0) := by
            unfold behindS
            rw [if_pos ⟨p1, p2⟩, if_pos (by simp [p3, p4])]
            rfl
          rw [hs]
          obtain ⟨l, hl⟩ : ∃ l, l = listOf rows x := ⟨_, rfl⟩
          obtain ⟨i, hi⟩ : ∃ i, i = posOf rows x := ⟨_, rfl⟩
          rw [← hl, ← hi] at g3
          rw [← hl] at g1 g2 h1 q4 q5
          rw [← hl, ← hi]
          have hlast : lastOf (N + l) ((rowAt rows l).take (i + 1)) = x := by
            have e : (rowAt rows l).take (i + 1) = (rowAt rows l).take i ++ [x] := by
              have hil : i < (rowAt rows l).length := by
                rw [hi, hl]
                exact List.idxOf_lt_length_of_mem (listOf_mem p3)
              rw [List.take_succ_eq_append_getElem hil]
              congr 2
              have : (rowAt rows l)[i]? = some x := by
                rw [g3, List.getElem?_append_right (by rw [List.length_take]; omega), List.length_take, Nat.min_eq_left (by omega), Nat.sub_self]
                rfl
              rw [List.getElem?_eq_getElem hil] at this
              simpa using this
            rw [e, lastOf_append]
            rfl
          obtain ⟨hput, hat1, hat2, hat3⟩ := L.put g1 (List.take_append_drop (i + 1) (rowAt rows l)).symm hy p4
          rw [hlast] at hput hat1 hat2 hat3
          have hfr := L.free y hy p4
          have HP := Lib.hid hput
          have hm := L.many l g1
          have hml := L.len_le g1
          have hN := Hg.sm.1
          clear hput hlast g3 p1 p2 p3 p4 hs hl hi
          go_enter Try.func30, Try.ntmps30
          go_wp2_with fail
          refine (node_any (x : Int) W Hg).mono ?_
          rintro e z1 ⟨he, hz1⟩
          have hz2 := hz1.symm; clear hz1; subst hz2
          rw [d1] at he
          subst he
          go_wp2_with fail
          refine (node_any (y : Int) W Hg).mono ?_
          rintro e z1 ⟨he, hz1⟩
          have hz2 := hz1.symm; clear hz1; subst hz2
          rw [d2] at he
          subst he
          go_wp2_with fail
          refine (free_in y hy W Hg).mono ?_
          rintro e z1 ⟨he, hz1⟩
          have hz2 := hz1.symm; clear hz1; subst hz2
          rw [if_pos hfr] at he
          subst he
          go_wp2_with fail
          refine (put_any x y l _ hat2 (by omega) hat3 g1 rfl hat1 _ hm (by omega) (by omega) W Hg).mono ?_
          rintro e w1 ⟨rfl, R1, C1⟩
          go_wp2_with fail
          go_ret
          exact ⟨rfl, ⟨_, R1, HP.out⟩, C1⟩
      · have hs : behindS N rows (x : Int) (y : Int) = (rows, 10) := by
          unfold behindS
          rw [if_pos ⟨p1, p2⟩, if_neg (by simp [p3])]
        rw [hs]
        rw [L.free x hx p3] at h1
        clear p1 p2 p3 hs
        go_enter Try.func30, Try.ntmps30
        go_wp2_with fail
        refine (node_any (x : Int) W Hg).mono ?_
        rintro e z1 ⟨he, hz1⟩
        have hz2 := hz1.symm; clear hz1; subst hz2
        rw [d1] at he
        subst he
        go_wp2_with fail
        refine (node_any (y : Int) W Hg).mono ?_
        rintro e z1 ⟨he, hz1⟩
        have hz2 := hz1.symm; clear hz1; subst hz2
        rw [d2] at he
        subst he
        go_wp2_with fail
        go_ret
        exact ⟨rfl, ⟨g, Hg, L⟩, Rc.refl _ _ _⟩
    · have hs : behindS N rows (x : Int) n = (rows, 14) := by
        unfold behindS
        rw [if_neg (fun h => p2 h.2)]
      rw [hs]
      have d1 : decide (0 ≤ (x : Int) ∧ (x : Int) < (N : Int)) = true := decide_eq_true p1
      have d2 : decide (0 ≤ n ∧ n < (N : Int)) = false := decide_eq_false p2
      clear p1 p2 hs
      go_enter Try.func30, Try.ntmps30
      go_wp2_with fail
      refine (node_any (x : Int) W Hg).mono ?_
      rintro e z1 ⟨he, hz1⟩
      have hz2 := hz1.symm; clear hz1; subst hz2
      rw [d1] at he
      subst he
      go_wp2_with fail
      refine (node_any n W Hg).mono ?_
      rintro e z1 ⟨he, hz1⟩
      have hz2 := hz1.symm; clear hz1; subst hz2
      rw [d2] at he
      subst he
      go_wp2_with fail
      go_ret
      exact ⟨rfl, ⟨g, Hg, L⟩, Rc.refl _ _ _⟩
  · have hs : behindS N rows a n = (rows, 14) := by
      unfold behindS
      rw [if_neg (fun h => p1 h.1)]
    rw [hs]
    have d1 : decide (0 ≤ a ∧ a < (N : Int)) = false := decide_eq_false p1
    clear p1 hs
    go_enter Try.func30, Try.ntmps30
    go_wp2_with fail
    refine (node_any a W Hg).mono ?_
    rintro e z1 ⟨he, hz1⟩
    have hz2 := hz1.symm; clear hz1; subst hz2
    rw [d1] at he
    subst he
    go_wp2_with fail
    go_ret
    exact ⟨rfl, ⟨g, Hg, L⟩, Rc.refl _ _ _⟩
end
end Go.Proofs.Ytnlcbilmalfjaaa
