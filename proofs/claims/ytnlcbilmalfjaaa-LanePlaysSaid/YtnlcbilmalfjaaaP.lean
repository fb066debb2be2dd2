/- A part of the proof of a law of roundel: contracts of functions and lemmas, each true as it stands; no condition beyond those that its theorems state. -/
import Derived.Test.YtnlcbilmalfjaaaN
namespace Go.Proofs.Ytnlcbilmalfjaaa
set_option linter.unusedSimpArgs false
set_option linter.unusedVariables false
open Go.RowKit

section
variable {B rb lb mb N M : Nat} {rows : List (List Nat)}
theorem Rr.ge {W : World} (h : Rr W B rb lb mb N M rows) : B ≤ lb ∧ B ≤ mb ∧ lb < W.heap.size ∧ mb < W.heap.size := h.elim fun _ h => ⟨h.1.ge.2.1, h.1.ge.2.2, h.1.lt.2.1, h.1.lt.2.2⟩
theorem Rr.small {W : World} (h : Rr W B rb lb mb N M rows) : rows.length = M ∧ rows.length ≤ 64 ∧ ∀ l, (rowAt rows l).length ≤ 64 := by
  obtain ⟨g, Hg, L⟩ := h
  refine ⟨L.len, by rw [L.len]; exact Hg.sm.2, fun l => ?_⟩
  by_cases hl : l < M
  · exact Nat.le_trans (L.len_le hl) Hg.sm.1
  · rw [rowAt_out (by rw [L.len]; omega)]
    simp
theorem Rr.nodup {W : World} (h : Rr W B rb lb mb N M rows) : rows.flatten.Nodup ∧ ∀ x ∈ rows.flatten, x < N := h.elim fun _ h => ⟨h.2.nodup, h.2.lt⟩
/-- What a call on rings leaves, beside the caller's world. -/
theorem Rc.ext {w W W' : World} (e : Ext w W) (k : Rc lb mb W W') (h1 : w.heap.size ≤ lb) (h2 : w.heap.size ≤ mb) : Ext w W' :=
  e.step (k.below e.sz h1 h2) (Nat.le_refl _)
end
/-! A list's node by its place. -/
section
variable {B rb lb mb N M : Nat} {rows : List (List Nat)}
theorem Rr.spot {W : World} (h : Rr W B rb lb mb N M rows) {l i x : Nat} (hl : l < M) (hi : i < (rowAt rows l).length) (hx : x = (rowAt rows l).getD i 0) :
    x ∈ rows.flatten ∧ listOf rows x = l ∧ posOf rows x = i ∧ x < N := by
  obtain ⟨g, Hg, L⟩ := h
  have hxe : x = (rowAt rows l)[i] := by rw [hx]; simp [List.getD, hi]
  have hxm : x ∈ rowAt rows l := by rw [hxe]; exact List.getElem_mem hi
  have hxf := L.mem hl hxm
  obtain ⟨_, h2, _⟩ := L.listOf_eq hxf
  have h3 := L.lst l hl x hxm
  have e : listOf rows x = l := by omega
  refine ⟨hxf, e, ?_, L.lt x hxf⟩
  unfold posOf
  rw [e, hxe]
  exact List.Nodup.idxOf_getElem (rowAt_nodup (by rw [L.len]; exact hl) L.nodup) i hi
def lenTo (rows : List (List Nat)) : Nat → Nat
  | 0 => 0
  | l + 1 => lenTo rows l + (rowAt rows l).length
theorem lenTo_le : ∀ (rows : List (List Nat)) (l : Nat), l ≤ rows.length → lenTo rows l = (rows.take l).flatten.length
  | rows, 0, _ => by simp [lenTo]
  | rows, l + 1, h => by
    have hl : l < rows.length := by omega
    have e : rowAt rows l = rows[l] := by simp [rowAt, List.getD, hl]
    rw [lenTo, lenTo_le rows l (by omega), List.take_succ_eq_append_getElem hl, List.flatten_append, List.length_append, e]
    simp only [List.flatten_cons, List.flatten_nil, List.append_nil]
theorem Rr.total {W : World} (h : Rr W B rb lb mb N M rows) (l : Nat) (hl : l ≤ M) : lenTo rows l ≤ N := by
  obtain ⟨hlen, -⟩ := h.small
  obtain ⟨hn, hlt⟩ := h.nodup
  rw [lenTo_le rows l (by omega)]
  have h1 : (rows.take l).flatten.length ≤ rows.flatten.length := by
    conv => rhs; rw [← List.take_append_drop l rows, List.flatten_append, List.length_append]
    omega
  have h2 := nodup_len N rows.flatten hn hlt
  omega
theorem firstI_drop {r : List Nat} {i : Nat} (hi : i < r.length) : firstI (r.drop i) = ((r.getD i 0 : Nat) : Int) := by
  rw [List.drop_eq_getElem_cons hi]
  simp [firstI, List.getD, hi]
theorem firstI_end {r : List Nat} {i : Nat} (hi : r.length ≤ i) : firstI (r.drop i) = -1 := by
  rw [List.drop_of_length_le hi]; rfl
theorem lastI_take {r : List Nat} {i : Nat} (hi : i < r.length) : lastI (r.take (i + 1)) = ((r.getD i 0 : Nat) : Int) := by
  rw [List.take_succ_eq_append_getElem hi]
  cases h : r.take i with
  | nil => simp [lastI, lastOf, List.getD, hi]
  | cons a t =>
    simp only [List.cons_append, lastI, lastOf_append, lastOf]
    simp [List.getD, hi]
end

theorem Rr.blk {W W' : World} {B rb lb mb N M : Nat} {rows : List (List Nat)} (h : Rr W B rb lb mb N M rows) (hs : W.heap.size ≤ W'.heap.size) (h1 : W'.heap[rb]? = W.heap[rb]?) (h2 : W'.heap[lb]? = W.heap[lb]?) (h3 : W'.heap[mb]? = W.heap[mb]?) : Rr W' B rb lb mb N M rows :=
  h.elim fun g h => ⟨g, h.1.kept hs h1 h2 h3, h.2⟩
theorem Rr.rlt {W : World} {B rb lb mb N M : Nat} {rows : List (List Nat)} (h : Rr W B rb lb mb N M rows) : rb < W.heap.size ∧ B ≤ rb ∧ rb ≠ lb ∧ rb ≠ mb := h.elim fun g h => ⟨h.1.lt.1, h.1.ge.1, h.1.d1, h.1.d2⟩

/-- Lanes in memory: the lists, and each node's tag. -/
structure Ls (W : World) (B nb tg rb lb mb N M : Nat) (rows : List (List Nat)) (T : Nat → Int) : Prop where
  rr : Rr W B rb lb mb N M rows
  c0 : W.cell? ⟨nb, 0, none⟩ = some (.pointer (some ⟨rb, 0, none⟩))
  c1 : W.cell? ⟨nb, 1, none⟩ = some (.slice (some ⟨tg, 0, none⟩) N N)
  t : ∀ i, i < N → W.cell? ⟨tg, i, none⟩ = some (.int .i64 (T i))
  ft : ∀ o, W.frozen? ⟨tg, o, none⟩ = false
  d1 : nb ≠ tg ∧ nb ≠ rb ∧ nb ≠ lb ∧ nb ≠ mb
  d2 : tg ≠ rb ∧ tg ≠ lb ∧ tg ≠ mb
  ge : B ≤ nb ∧ B ≤ tg
  lt : nb < W.heap.size ∧ tg < W.heap.size
theorem Ls.kept {W W' : World} {B nb tg rb lb mb N M : Nat} {rows : List (List Nat)} {T : Nat → Int} (h : Ls W B nb tg rb lb mb N M rows T) (he : Ext W W') : Ls W' B nb tg rb lb mb N M rows T :=
  ⟨h.rr.kept he, (he.cell (p := ⟨nb, 0, none⟩) h.lt.1).trans h.c0, (he.cell (p := ⟨nb, 1, none⟩) h.lt.1).trans h.c1, fun i hi => (he.cell (p := ⟨tg, i, none⟩) h.lt.2).trans (h.t i hi), fun o => (Below.frozen (p := ⟨tg, o, none⟩) he h.lt.2).trans (h.ft o), h.d1, h.d2, h.ge, ⟨Nat.lt_of_lt_of_le h.lt.1 he.sz, Nat.lt_of_lt_of_le h.lt.2 he.sz⟩⟩

def tagS (rows : List (List Nat)) (T : Nat → Int) (n : Int) : Int := if listS rows n < 0 then 0 else T n.toNat
/-- How many of a lane stand ahead of a node with this tag. -/
def upFit (T : Nat → Int) (r : List Nat) (tag : Int) : Nat → Nat
  | 0 => 0
  | i + 1 => if tag < T (r.getD i 0) then upFit T r tag i else i + 1
theorem upFit_le (T : Nat → Int) (r : List Nat) (tag : Int) : ∀ i, upFit T r tag i ≤ i
  | 0 => Nat.le_refl _
  | i + 1 => by
    unfold upFit
    split
    · have := upFit_le T r tag i; omega
    · exact Nat.le_refl _
def lastFit (T : Nat → Int) (r : List Nat) (tag : Int) : Int := lastI (r.take (upFit T r tag r.length))
def placed (rows : List (List Nat)) (v : Int) : Nat := if v < 0 then 0 else posOf rows v.toNat + 1

section
variable {B nb tg rb lb mb N M : Nat} {rows : List (List Nat)} {T : Nat → Int}

theorem Core_any (n : Int) (W : World) (H : Ls W B nb tg rb lb mb N M rows T) :
    Calls Try.prog 24 #[.pointer (some ⟨nb, 0, none⟩), .int .i64 n] W fun e W' => e = .returned (.int .i64 (listS rows n)) ∧ W' = W := by
  have h0 := H.c0
  go_enter Try.func24, Try.ntmps24
  go_wp2_with fail
  refine (List_any n W H.rr).mono ?_
  rintro e z1 ⟨rfl, hz1⟩
  have hz2 := hz1.symm; clear hz1; subst hz2
  go_wp2_with fail
  go_ret
  exact ⟨rfl, rfl⟩

theorem listS_in {W : World} (h : Rr W B rb lb mb N M rows) (n : Int) (hn : ¬ listS rows n < 0) : ∃ x : Nat, n = (x : Int) ∧ x < N ∧ x ∈ rows.flatten := by
  unfold listS at hn
  split at hn
  · rename_i hc
    obtain ⟨x, rfl⟩ := Int.eq_ofNat_of_zero_le hc.1
    have : x ∈ rows.flatten := by simpa using hc.2
    exact ⟨x, rfl, h.nodup.2 x this, this⟩
  · omega

theorem Tag_any (n : Int) (W : World) (H : Ls W B nb tg rb lb mb N M rows T) :
    Calls Try.prog 14 #[.pointer (some ⟨nb, 0, none⟩), .int .i64 n] W fun e W' => e = .returned (.int .i64 (tagS rows T n)) ∧ W' = W := by
  have h1 := H.c1
  unfold tagS
  by_cases hn : listS rows n < 0
  · rw [if_pos hn]
    go_enter Try.func14, Try.ntmps14
    go_wp2_with fail
    refine (Core_any n W H).mono ?_
    rintro e z1 ⟨rfl, hz1⟩
    have hz2 := hz1.symm; clear hz1; subst hz2
    go_wp2_with fail
    go_ret
    exact ⟨rfl, rfl⟩
  · rw [if_neg hn]
    obtain ⟨x, rfl, hx, -⟩ := listS_in H.rr n hn
    have ht := H.t x hx
    have q : (x : Int) < (N : Int) := by omega
    have hn' : 0 ≤ listS rows (x : Int) := by omega
    go_enter Try.func14, Try.ntmps14
    go_wp2_with fail
    refine (Core_any (x : Int) W H).mono ?_
    rintro e z1 ⟨rfl, hz1⟩
    have hz2 := hz1.symm; clear hz1; subst hz2
    go_wp2_with fail
    go_ret
    exact ⟨rfl, rfl⟩

theorem last_any (core tag : Int) (W : World) (H : Ls W B nb tg rb lb mb N M rows T) :
    Calls Try.prog 28 #[.pointer (some ⟨nb, 0, none⟩), .int .i64 core, .int .i64 tag] W fun e W' => e = .returned (.int .i64 (lastFit T (rowI rows core) tag)) ∧ Ext W W' := by
  have h0 := H.c0
  obtain ⟨r, hr⟩ : ∃ r, r = rowI rows core := ⟨_, rfl⟩
  have HR := Lib.hid hr
  rw [← hr]
  clear hr
  go_enter Try.func28, Try.ntmps28
  go_wp2_with fail
  refine (Last_any core W H.rr).mono ?_
  rintro e w1 ⟨he, y1⟩
  rw [← HR.out] at he
  subst he
  have H1 := H.kept y1
  clear h0
  go_wp2_with fail
  go_loopw [7] (fun n wr => ∃ i : Nat, i ≤ r.length ∧ n = .int .i64 (lastI (r.take i)) ∧ upFit T r tag r.length = upFit T r tag i ∧ wr = w1) (fun n _ => placed rows (intOf n))
  case atStart => exact ⟨r.length, Nat.le_refl _, by simp, rfl, rfl⟩
  case round =>
    obtain ⟨i, hi, rfl, hu, rfl⟩ := hrel
    cases i with
    | zero =>
      have e0 : lastI (r.take 0) = -1 := by simp [lastI]
      have r1 : ¬ (0 : Int) ≤ -1 := by omega
      have e1 : lastFit T r tag = -1 := by unfold lastFit; rw [hu]; simp [upFit, lastI]
      rw [e0]
      have HE := Lib.hid e1
      clear e0 e1 hu
      go_wp2_with fail
      go_ret
      exact ⟨by rw [HE.out]; rfl, y1⟩
    | succ i =>
      have hin : i < r.length := by omega
      have hlt := lastI_take hin
      obtain ⟨x, hx⟩ : ∃ x, x = r.getD i 0 := ⟨_, rfl⟩
      rw [← hx] at hlt
      have hc : 0 ≤ core ∧ core < (M : Int) := by
        refine Decidable.byContradiction fun hne => ?_
        have := rowI_out (rows := rows) (l := core) (by rw [H1.rr.small.1]; exact hne)
        rw [← HR.out] at this
        rw [this] at hin
        simp at hin
      obtain ⟨l, rfl⟩ := Int.eq_ofNat_of_zero_le hc.1
      have hrl : r = rowAt rows l := by rw [HR.out, rowI_in]
      obtain ⟨m1, m2, m3, m4⟩ := H1.rr.spot (l := l) (i := i) (x := x) (by omega) (by rw [← hrl]; exact hin) (by rw [← hrl]; exact hx)
      have ep : prevS rows (x : Int) = lastI (r.take i) := by
        unfold prevS
        rw [if_pos ⟨by omega, by simpa using m1⟩, Int.toNat_natCast, m2, m3, ← hrl]
      have h0 := H1.c0
      have h1 := H1.c1
      have ht := H1.t x m4
      have q : (x : Int) < (N : Int) := by omega
      have r1 : (0 : Int) ≤ (x : Int) := by omega
      have hp : placed rows (x : Int) = i + 1 := by unfold placed; rw [if_neg (by omega), Int.toNat_natCast, m3]
      have hp2 : placed rows (lastI (r.take i)) ≤ i := by
        cases i with
        | zero => simp [lastI, placed]
        | succ i' =>
          rw [lastI_take (by omega : i' < r.length)]
          obtain ⟨_, _, k3, _⟩ := H1.rr.spot (l := l) (i := i') (x := r.getD i' 0) (by omega) (by rw [← hrl]; omega) (by rw [← hrl])
          unfold placed
          rw [if_neg (by omega), Int.toNat_natCast, k3]
          exact Nat.le_refl _
      by_cases hg : tag < T x
      · have hu2 : upFit T r tag r.length = upFit T r tag i := by
          rw [hu, show upFit T r tag (i + 1) = if tag < T (r.getD i 0) then upFit T r tag i else i + 1 from rfl, ← hx, if_pos hg]
        rw [hlt]
        have HP := Lib.hid (And.intro hu2 (And.intro ep (And.intro hp hp2)))
        clear hu hu2 ep hp hp2 hx hlt m1 m2 m3 hrl
        go_wp2_with fail
        refine (Prev_any (x : Int) wr H1.rr).mono ?_
        rintro e z1 ⟨he, hz1⟩
        have hz2 := hz1.symm; clear hz1; subst hz2
        rw [HP.out.2.1] at he
        subst he
        go_wp2_with fail
        go_roundw
        case rel => exact ⟨i, by omega, rfl, HP.out.1, trivial⟩
        case measure => have := HP.out.2.2; simp only [intOf]; omega
      · have hg' : T x ≤ tag := by omega
        have e1 : lastFit T r tag = (x : Int) := by
          unfold lastFit
          rw [hu, show upFit T r tag (i + 1) = if tag < T (r.getD i 0) then upFit T r tag i else i + 1 from rfl, ← hx, if_neg hg, hlt]
        rw [hlt]
        have HE := Lib.hid e1
        clear e1 hu ep hp hp2 hx hlt m1 m2 m3 hrl
        go_wp2_with fail
        go_ret
        exact ⟨by rw [HE.out]; rfl, y1⟩
end
end Go.Proofs.Ytnlcbilmalfjaaa
