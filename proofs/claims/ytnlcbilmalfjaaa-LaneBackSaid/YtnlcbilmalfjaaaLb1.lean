/- A part of the proof of a law of roundel: contracts of functions and lemmas, each true as it stands; no condition beyond those that its theorems state. -/
import Derived.Test.YtnlcbilmalfjaaaLp2
import Derived.Test.YtnlcbilmalfjaaaLo2
namespace Go.Proofs.Ytnlcbilmalfjaaa
set_option linter.unusedSimpArgs false
set_option linter.unusedVariables false
open Go.RowKit

section
variable {B nb tg rb lb mb N M : Nat} {rows : List (List Nat)} {T : Nat → Int}
set_option maxRecDepth 100000 in
set_option maxHeartbeats 1600000 in
theorem back1_any (x bl bt fb g : Nat) (la : Int) (V : World) (hg : g ≤ 255) (hx : x < N) (hxm : x ∈ rows.flatten) (H : Ls V B nb tg rb lb mb N M rows T)
    (c1 : V.cell? ⟨bl, 0, none⟩ = some (.pointer (some ⟨nb, 0, none⟩))) (c2 : V.cell? ⟨bt, 0, none⟩ = some (.int .u8 (g : Int))) (c4 : V.cell? ⟨fb, 0, none⟩ = some (.int .i64 la)) (f4 : V.frozen? ⟨fb, 0, none⟩ = false) :
    Calls Try.prog 25 #[.int .i64 (x : Int), .pointer (some ⟨bl, 0, none⟩), .pointer (some ⟨bt, 0, none⟩), .pointer (some ⟨fb, 0, none⟩)] V fun e W' =>
      e = .returned (.bool true) ∧ ∃ b, b = (T x == ((g % 4 : Nat) : Int)) ∧ if b = true then ∃ q, W' = (V.drewN q).setCell ⟨fb, 0, none⟩ (.int .i64 (x : Int)) else ∃ q, W' = V.drewN q := by
  have ht : tagS rows T (x : Int) = T x := by
    have e : listS rows (x : Int) = (listOf rows x : Int) := by
      unfold listS
      rw [if_pos ⟨by omega, by simpa using hxm⟩, Int.toNat_natCast]
    unfold tagS
    rw [e, if_neg (by omega), Int.toNat_natCast]
  have tsay : ∀ k, CallsIn Fence.wide 4 Try.prog 14 #[.pointer (some ⟨nb, 0, none⟩), .int .i64 (x : Int)] (V.drewN k) fun e w'' => e = .returned (.int .i64 (T x)) ∧ ∃ m, w'' = V.drewN m := fun k =>
    (callsIn_wide.2 (Tag_any (x : Int) _ (H.kept ((Ext.refl V).drewN k)))).mono (fun e w'' h => ⟨by rw [← ht]; exact h.1, k, h.2⟩)
  have hfa : ∀ k, Fence.wide.fn k := fun _ => trivial
  have wm : IntKind.i64.wrap ((g : Int) % 4) = (g : Int) % 4 := IntWalk.i64_in _ (by omega)
  have e4 : ((g % 4 : Nat) : Int) = (g : Int) % 4 := by omega
  rw [e4]
  clear H hxm ht e4
  go_enter Try.func25, Try.ntmps25
  go_wp2_with fail
  by_cases hT : T x = (g : Int) % 4
  · have hd : (T x == (g : Int) % 4) = true := by simp [hT]
    refine region_quiet_plain (n := 5) (by kernel_rfl) (by kernel_rfl) ?_
    repeat (gi_big_quiet_step (first | exact tsay _))
    refine wpQuietIn_nil ?_
    rintro w' ⟨q, rfl⟩
    simp only [Exit.then]
    go_wp2_with fail
    go_ret
    exact ⟨rfl, true, hd.symm, by rw [if_pos rfl]; exact ⟨q, rfl⟩⟩
  · have hd : (T x == (g : Int) % 4) = false := by simp [hT]
    refine region_quiet_plain (n := 5) (by kernel_rfl) (by kernel_rfl) ?_
    repeat (gi_big_quiet_step (first | exact tsay _))
    refine wpQuietIn_nil ?_
    rintro w' ⟨q, rfl⟩
    simp only [Exit.then]
    go_wp2_with fail
    go_ret
    exact ⟨rfl, false, hd.symm, by rw [if_neg (by simp)]; exact ⟨q, rfl⟩⟩

/-- The last of a row that has a tag. -/
def lastTag (T : Nat → Int) (tag : Int) (r : List Nat) : Int := lastI (r.filter (fun x => T x == tag))
set_option maxHeartbeats 1600000 in
theorem nodes_last (z : Int) (b1 b2 bl bt fb g : Nat) (W : World) (row : List Nat) (hrow : row = rowI rows z) (hg : g ≤ 255) (hM : 0 < M) (hN : 0 < N) (H : Ls W B nb tg rb lb mb N M rows T)
    (hb1 : W.cell? ⟨b1, 0, none⟩ = some (.pointer (some ⟨rb, 0, none⟩))) (hb2 : W.cell? ⟨b2, 0, none⟩ = some (.int .i64 z)) (c1 : W.cell? ⟨bl, 0, none⟩ = some (.pointer (some ⟨nb, 0, none⟩))) (c2 : W.cell? ⟨bt, 0, none⟩ = some (.int .u8 (g : Int))) (c4 : W.cell? ⟨fb, 0, none⟩ = some (.int .i64 (-1))) (f4 : W.frozen? ⟨fb, 0, none⟩ = false)
    (n0 : nb ≠ fb) (n0' : tg ≠ fb) (n1 : rb ≠ fb) (n2 : lb ≠ fb) (n3 : mb ≠ fb) (m1 : b1 ≠ fb) (m2 : bl ≠ fb) (m3 : bt ≠ fb) :
    Calls Try.prog 33 #[.func (.func 25) #[] #[.pointer (some ⟨bl, 0, none⟩), .pointer (some ⟨bt, 0, none⟩), .pointer (some ⟨fb, 0, none⟩)], .pointer (some ⟨b1, 0, none⟩), .pointer (some ⟨b2, 0, none⟩)] W fun e V => (∃ v, e = .returned v) ∧
      Rc fb fb W V ∧ V.cell? ⟨fb, 0, none⟩ = some (.int .i64 (lastTag T ((g % 4 : Nat) : Int) row)) := by
  have hmem : ∀ x ∈ row, x ∈ rows.flatten := fun x hx => by
    by_cases hz : 0 ≤ z
    · obtain ⟨k, rfl⟩ := Int.eq_ofNat_of_zero_le hz
      rw [hrow, rowI_in] at hx
      by_cases hk : k < rows.length
      · exact rowAt_mem hk hx
      · rw [rowAt_out (by omega)] at hx; simp at hx
    · rw [hrow, rowI_out (by omega)] at hx; simp at hx
  refine (nodes_call 25 _ (enters_of Try.func25 (by kernel_rfl) rfl) z b1 b2 W row hrow
    (fun pre V => Rc fb fb W V ∧ V.cell? ⟨fb, 0, none⟩ = some (.int .i64 (lastTag T ((g % 4 : Nat) : Int) pre)) ∧ V.frozen? ⟨fb, 0, none⟩ = false)
    (fun _ _ => False)
    H.rr ?_ hb1 hb2 ?_ ?_).mono ?_
  · rintro pre V ⟨C, -, -⟩
    have k := Kc.of_rc C
    exact ⟨H.rr.kc hM k n1 n2 n3, k.cell hb1 m1⟩
  · rintro pre x V ⟨C, v4, g4⟩ hpre hx
    have k := Kc.of_rc C
    refine (back1_any x bl bt fb g _ V hg hx (hmem x (hpre.subset (by simp))) (H.kc hM hN k n0 n0' n1 n2 n3) (k.cell c1 m2) (k.cell c2 m3) v4 g4).mono ?_
    rintro e V' ⟨rfl, b, hb, h⟩
    refine ⟨true, rfl, .inl ⟨rfl, ?_⟩⟩
    cases b with
    | true =>
      rw [if_pos rfl] at h
      obtain ⟨q, rfl⟩ := h
      have e1 : lastTag T ((g % 4 : Nat) : Int) (pre ++ [x]) = (x : Int) := by
        unfold lastTag
        rw [List.filter_append, List.filter_cons, ← hb]
        exact lastI_snoc _ _
      refine ⟨(C.trans (Rc.of_ext fb fb ((Ext.refl V).drewN q))).trans (Rc.setOb _ _), ?_, by rw [World.frozen?_setCell]; exact g4⟩
      rw [e1]
      exact World.cell?_setCell_same (u := .int .i64 (lastTag T ((g % 4 : Nat) : Int) pre)) _ _ _ v4
    | false =>
      rw [if_neg (by simp)] at h
      obtain ⟨q, rfl⟩ := h
      have e1 : lastTag T ((g % 4 : Nat) : Int) (pre ++ [x]) = lastTag T ((g % 4 : Nat) : Int) pre := by
        unfold lastTag
        rw [List.filter_append, List.filter_cons, ← hb]
        simp
      exact ⟨C.trans (Rc.of_ext fb fb ((Ext.refl V).drewN q)), by rw [e1]; exact v4, g4⟩
  · intro W' he
    exact ⟨Rc.of_ext fb fb he, (he.cell (p := ⟨fb, 0, none⟩) (block_lt_of_cell c4)).trans c4, (he.cells.2 _ _ (block_lt_of_cell c4)).trans f4⟩
  · rintro e V ⟨hv, ⟨C, v4, -⟩ | ⟨pre, -, h⟩⟩
    · exact ⟨hv, C, v4⟩
    · exact h.elim
end

/-! One goes, and comes back. -/
theorem oneRow_drop {W : World} {B rb lb mb N M : Nat} {c n k : Nat} {t : Nat → Int} (H : Rr W B rb lb mb N M (oneRow M c t n)) (hc : c < M) (hk : k < n) :
    ∃ r, dropS N (oneRow M c t n) (k : Int) = ((List.replicate M []).set c r, 0) ∧ k < N ∧ r.length + 1 = n ∧ k ∉ r ∧ ∀ x ∈ r, x < n := by
  have hkm : k ∈ laid t n := (laid_mem t n k).2 hk
  obtain ⟨i, hi, hki⟩ := List.getElem_of_mem hkm
  obtain ⟨m1, m2, m3, m4⟩ := H.spot (l := c) (i := i) (x := k) hc (by rw [oneRow_at hc]; exact hi) (by rw [oneRow_at hc]; simp [List.getD, hi, hki])
  refine ⟨(laid t n).take i ++ (laid t n).drop (i + 1), ?_, m4, ?_, ?_, ?_⟩
  · unfold dropS
    rw [if_pos ⟨by omega, by omega⟩, if_pos (by simpa using m1), Int.toNat_natCast, m2, m3, oneRow_at hc]
    unfold oneRow
    rw [List.set_set]
  · rw [List.length_append, List.length_take, List.length_drop]
    have := laid_length t n
    omega
  · have hd := H.nodup.1
    have hn := rowAt_nodup (l := c) (by simpa [oneRow] using hc) hd
    rw [oneRow_at hc] at hn
    have hsp : laid t n = (laid t n).take i ++ k :: (laid t n).drop (i + 1) := by
      have := List.take_append_drop i (laid t n)
      rw [List.drop_eq_getElem_cons hi, hki] at this
      exact this.symm
    rw [hsp] at hn
    have h1 := List.nodup_append.1 hn
    intro hm
    rcases List.mem_append.1 hm with h3 | h3
    · exact h1.2.2 k h3 k (by simp) rfl
    · exact (List.nodup_cons.1 h1.2.1).1 h3
  · intro x hx
    refine (laid_mem t n x).1 ?_
    rcases List.mem_append.1 hx with h | h
    · exact List.mem_of_mem_take h
    · exact List.mem_of_mem_drop h
theorem setRow_mem {M c x : Nat} {r : List Nat} (hc : c < M) : x ∈ ((List.replicate M []).set c r).flatten ↔ x ∈ r := by
  constructor
  · intro h
    obtain ⟨l, hl, hm⟩ := mem_rowAt h
    by_cases e : l = c
    · rw [e, rowAt_set_same _ _ _ (by simpa using hc)] at hm
      exact hm
    · rw [rowAt_set_other _ _ _ _ e] at hm
      simp only [rowAt, List.getD, List.getElem?_replicate] at hm
      split at hm <;> simp at hm
  · intro h
    exact rowAt_mem (l := c) (by simpa using hc) (by rw [rowAt_set_same _ _ _ (by simpa using hc)]; exact h)
/-- It stands behind all of its tag. -/
theorem last_back (T : Nat → Int) (r : List Nat) (k : Nat) (tag : Int) (hk : k ∉ r) : lastTag (fun (i : Nat) => if (i : Int) = (k : Int) then tag else T i) tag (insRow T r k tag) = (k : Int) := by
  unfold lastTag insRow
  rw [List.filter_append, List.filter_cons]
  have e1 : ((if (k : Int) = (k : Int) then tag else T k) == tag) = true := by simp
  have e2 : (r.drop (upFit T r tag r.length)).filter (fun (x : Nat) => (if (x : Int) = (k : Int) then tag else T x) == tag) = [] := by
    refine List.filter_eq_nil_iff.2 (fun y hy => ?_)
    obtain ⟨j, hj, rfl⟩ := List.getElem_of_mem hy
    rw [List.length_drop] at hj
    have hne : (r.drop (upFit T r tag r.length))[j] ≠ k := fun e => hk (by rw [← e]; exact List.mem_of_mem_drop (List.getElem_mem _))
    have ha := upFit_above T r tag r.length (upFit T r tag r.length + j) (by omega) (by omega)
    rw [List.getElem_drop] at hne ⊢
    have e : r.getD (upFit T r tag r.length + j) 0 = r[upFit T r tag r.length + j] := by simp [List.getD, show upFit T r tag r.length + j < r.length by omega]
    rw [e] at ha
    rw [if_neg (by omega)]
    simp
    omega
  rw [if_pos e1, e2]
  exact lastI_snoc _ _
end Go.Proofs.Ytnlcbilmalfjaaa
