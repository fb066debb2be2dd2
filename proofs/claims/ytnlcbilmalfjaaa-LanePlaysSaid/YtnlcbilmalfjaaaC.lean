/- A part of the proof of a law of roundel: contracts of functions and lemmas, each true as it stands; no condition beyond those that its theorems state. -/
import Derived.Test.YtnlcbilmalfjaaaB
import Derived.Deep.QuietTactic
import Derived.BigQuiet
namespace Go.Proofs.Ytnlcbilmalfjaaa
set_option linter.unusedSimpArgs false
set_option linter.unusedVariables false
open Go.RowKit

section
variable {B rb lb mb N M : Nat} {g : G}

theorem Rg.set0 {W : World} (h : Rg W B rb lb mb N M g) (i : Nat) (hi : i < N + M) (v : Int) : Rg (W.setCell ⟨lb, i * 3, none⟩ (.int .i64 v)) B rb lb mb N M { g with lst := upd g.lst i v } := by
  have d1 := h.d1
  have d3 := h.d3
  refine ⟨(World.cell?_setCell_other _ _ _ _ (by simp [Ne.symm d1])).trans h.c0, (World.cell?_setCell_other _ _ _ _ (by simp [Ne.symm d1])).trans h.c1, (World.cell?_setCell_other _ _ _ _ (by simp [Ne.symm d1])).trans h.c2,
    fun j hj => ?_, fun j hj => ?_, fun j hj => ?_, fun l hl => (World.cell?_setCell_other _ _ _ _ (by simp [d3])).trans (h.mm l hl), fun o => by rw [World.frozen?_setCell]; exact h.fl o, fun o => by rw [World.frozen?_setCell]; exact h.fm o, h.d1, h.d2, h.d3, by simpa using h.lt, h.ge, h.sm⟩
  · by_cases e : j = i
    · subst e
      rw [World.cell?_setCell_same _ _ _ (h.l0 j hj)]
      simp [upd]
    · rw [World.cell?_setCell_other _ ⟨lb, i * 3, none⟩ ⟨lb, j * 3, none⟩ _ (by simp <;> omega), h.l0 j hj]
      simp [upd, e]
  · rw [World.cell?_setCell_other _ ⟨lb, i * 3, none⟩ ⟨lb, j * 3 + 1, none⟩ _ (by simp <;> omega), h.l1 j hj]
  · rw [World.cell?_setCell_other _ ⟨lb, i * 3, none⟩ ⟨lb, j * 3 + 2, none⟩ _ (by simp <;> omega), h.l2 j hj]
theorem Rg.set1 {W : World} (h : Rg W B rb lb mb N M g) (i : Nat) (hi : i < N + M) (v : Nat) : Rg (W.setCell ⟨lb, i * 3 + 1, none⟩ (.int .i64 (v : Int))) B rb lb mb N M { g with nx := upd g.nx i v } := by
  have d1 := h.d1
  have d3 := h.d3
  refine ⟨(World.cell?_setCell_other _ _ _ _ (by simp [Ne.symm d1])).trans h.c0, (World.cell?_setCell_other _ _ _ _ (by simp [Ne.symm d1])).trans h.c1, (World.cell?_setCell_other _ _ _ _ (by simp [Ne.symm d1])).trans h.c2,
    fun j hj => ?_, fun j hj => ?_, fun j hj => ?_, fun l hl => (World.cell?_setCell_other _ _ _ _ (by simp [d3])).trans (h.mm l hl), fun o => by rw [World.frozen?_setCell]; exact h.fl o, fun o => by rw [World.frozen?_setCell]; exact h.fm o, h.d1, h.d2, h.d3, by simpa using h.lt, h.ge, h.sm⟩
  · rw [World.cell?_setCell_other _ ⟨lb, i * 3 + 1, none⟩ ⟨lb, j * 3, none⟩ _ (by simp <;> omega), h.l0 j hj]
  · by_cases e : j = i
    · subst e
      rw [World.cell?_setCell_same _ _ _ (h.l1 j hj)]
      simp [upd]
    · rw [World.cell?_setCell_other _ ⟨lb, i * 3 + 1, none⟩ ⟨lb, j * 3 + 1, none⟩ _ (by simp <;> omega), h.l1 j hj]
      simp [upd, e]
  · rw [World.cell?_setCell_other _ ⟨lb, i * 3 + 1, none⟩ ⟨lb, j * 3 + 2, none⟩ _ (by simp <;> omega), h.l2 j hj]
theorem Rg.set2 {W : World} (h : Rg W B rb lb mb N M g) (i : Nat) (hi : i < N + M) (v : Nat) : Rg (W.setCell ⟨lb, i * 3 + 2, none⟩ (.int .i64 (v : Int))) B rb lb mb N M { g with pv := upd g.pv i v } := by
  have d1 := h.d1
  have d3 := h.d3
  refine ⟨(World.cell?_setCell_other _ _ _ _ (by simp [Ne.symm d1])).trans h.c0, (World.cell?_setCell_other _ _ _ _ (by simp [Ne.symm d1])).trans h.c1, (World.cell?_setCell_other _ _ _ _ (by simp [Ne.symm d1])).trans h.c2,
    fun j hj => ?_, fun j hj => ?_, fun j hj => ?_, fun l hl => (World.cell?_setCell_other _ _ _ _ (by simp [d3])).trans (h.mm l hl), fun o => by rw [World.frozen?_setCell]; exact h.fl o, fun o => by rw [World.frozen?_setCell]; exact h.fm o, h.d1, h.d2, h.d3, by simpa using h.lt, h.ge, h.sm⟩
  · rw [World.cell?_setCell_other _ ⟨lb, i * 3 + 2, none⟩ ⟨lb, j * 3, none⟩ _ (by simp <;> omega), h.l0 j hj]
  · rw [World.cell?_setCell_other _ ⟨lb, i * 3 + 2, none⟩ ⟨lb, j * 3 + 1, none⟩ _ (by simp <;> omega), h.l1 j hj]
  · by_cases e : j = i
    · subst e
      rw [World.cell?_setCell_same _ _ _ (h.l2 j hj)]
      simp [upd]
    · rw [World.cell?_setCell_other _ ⟨lb, i * 3 + 2, none⟩ ⟨lb, j * 3 + 2, none⟩ _ (by simp <;> omega), h.l2 j hj]
      simp [upd, e]
theorem Rg.setM {W : World} (h : Rg W B rb lb mb N M g) (i : Nat) (hi : i < M) (v : Int) : Rg (W.setCell ⟨mb, i, none⟩ (.int .i64 v)) B rb lb mb N M { g with many := upd g.many i v } := by
  have d2 := h.d2
  have d3 := h.d3
  refine ⟨(World.cell?_setCell_other _ _ _ _ (by simp [Ne.symm d2])).trans h.c0, (World.cell?_setCell_other _ _ _ _ (by simp [Ne.symm d2])).trans h.c1, (World.cell?_setCell_other _ _ _ _ (by simp [Ne.symm d2])).trans h.c2,
    fun j hj => (World.cell?_setCell_other _ _ _ _ (by simp [Ne.symm d3])).trans (h.l0 j hj), fun j hj => (World.cell?_setCell_other _ _ _ _ (by simp [Ne.symm d3])).trans (h.l1 j hj), fun j hj => (World.cell?_setCell_other _ _ _ _ (by simp [Ne.symm d3])).trans (h.l2 j hj), fun l hl => ?_, fun o => by rw [World.frozen?_setCell]; exact h.fl o, fun o => by rw [World.frozen?_setCell]; exact h.fm o, h.d1, h.d2, h.d3, by simpa using h.lt, h.ge, h.sm⟩
  by_cases e : l = i
  · subst e
    exact (World.cell?_setCell_same _ _ _ (h.mm l hl)).trans (by simp [upd])
  · exact (World.cell?_setCell_other _ _ _ _ (by simp <;> omega)).trans ((h.mm l hl).trans (by simp [upd, e]))
theorem Rg.drewN {W : World} (h : Rg W B rb lb mb N M g) (n : Nat) : Rg (W.drewN n) B rb lb mb N M g := h.ext ((Ext.refl W).drewN n)
theorem Rc.drewN {W W' : World} (h : Rc lb mb W W') (n : Nat) : Rc lb mb W (W'.drewN n) := h.trans (Rc.of_ext lb mb ((Ext.refl _).drewN n))

set_option maxRecDepth 100000 in
set_option maxHeartbeats 1600000 in
theorem put_any (at_ node l nxt : Nat) (h1 : at_ < N + M) (h2 : node < N + M) (h3 : nxt < N + M) (hl : l < M) (hx : g.nx at_ = nxt) (hg : g.lst at_ = (l : Int)) (m : Int) (hm : g.many l = m) (m0 : 0 ≤ m) (m1 : m ≤ 1000) (W : World) (H : Rg W B rb lb mb N M g) :
    Calls Try.prog 48 #[.pointer (some ⟨rb, 0, none⟩), .int .i64 (at_ : Int), .int .i64 (node : Int)] W fun e W' => e = .returned (.tuple #[]) ∧ Rg W' B rb lb mb N M (putG g at_ node l) ∧ Rc lb mb W W' := by
  have a0 := H.c0
  have a2 := H.c2
  have a3 := H.l0 at_ h1
  have a4 := H.l1 at_ h1
  rw [hg] at a3
  rw [hx] at a4
  have b1 := H.l0 node h2
  have b2 := H.l1 node h2
  have b3 := H.l2 node h2
  have b4 := H.l2 nxt h3
  have b5 := H.mm l hl
  rw [hm] at b5
  have q1 : (at_ : Int) < (N : Int) + (M : Int) := by omega
  have q2 : (node : Int) < (N : Int) + (M : Int) := by omega
  have q3 : (nxt : Int) < (N : Int) + (M : Int) := by omega
  have q4 : (l : Int) < (M : Int) := by omega
  have f1 := H.fl
  have f2 := H.fm
  have d1 := H.d1
  have d2 := H.d2
  have d3 := H.d3
  have w1 : IntKind.i64.wrap (m + 1) = m + 1 := IntWalk.i64_in _ (by omega)
  go_enter Try.func48, Try.ntmps48
  go_wp2_with fail
  go_quiet (fail)
  go_wp2_with fail
  refine wp_abs (fun Wx => Rg Wx B rb lb mb N M { g with lst := upd g.lst node l, nx := upd g.nx node nxt, pv := upd g.pv node at_ } ∧ Rc lb mb W Wx) ⟨((((H.drewN nq).set0 node h2 l).set1 node h2 nxt).set2 node h2 at_), ((((Rc.refl lb mb W).drewN nq).setCell (.inl rfl) _).setCell (.inl rfl) _).setCell (.inl rfl) _⟩ ?_
  clear a0 a2 a3 a4 b1 b2 b3 b4 b5 f1 f2
  rintro wx ⟨H1, C1⟩
  have a0 := H1.c0
  have a4 := H1.l1 at_ h1
  have b4 := H1.l2 nxt h3
  have f1 := H1.fl
  dsimp only at a4 b4
  go_region
  refine post_abs (fun Wx => Rg Wx B rb lb mb N M { g with lst := upd g.lst node l, nx := upd (upd g.nx node nxt) at_ node, pv := upd (upd g.pv node at_) nxt node } ∧ Rc lb mb W Wx) ⟨((H1.set1 at_ h1 node).set2 nxt h3 node).drew, ((C1.setCell (.inl rfl) _).setCell (.inl rfl) _).drew⟩ ?_
  clear a0 a4 b4 f1 H1 C1
  rintro wy ⟨H2, C2⟩
  have a2 := H2.c2
  have b5 := H2.mm l hl
  dsimp only at b5
  rw [hm] at b5
  have f2 := H2.fm
  go_wp2_with fail
  go_end0
  have z := H2.setM l hl (m + 1)
  refine ⟨rfl, ?_, C2.setCell (.inr rfl) _⟩
  dsimp only at z
  have e : putG g at_ node l = { lst := upd g.lst node l, nx := upd (upd g.nx node nxt) at_ node, pv := upd (upd g.pv node at_) nxt node, many := upd g.many l (m + 1) } := by
    unfold putG
    rw [hg, hx, hm]
  rw [e]
  exact z

set_option maxRecDepth 100000 in
set_option maxHeartbeats 1600000 in
theorem Drop_in (x l pr nxt : Nat) (h1 : x < N) (hl : l < M) (hg : g.lst x = (l : Int)) (hx : g.nx x = nxt) (hp : g.pv x = pr) (h3 : nxt < N + M) (h4 : pr < N + M) (m : Int) (hm : g.many l = m) (m0 : 0 < m) (m1 : m ≤ 1000) (W : World) (H : Rg W B rb lb mb N M g) :
    Calls Try.prog 20 #[.pointer (some ⟨rb, 0, none⟩), .int .i64 (x : Int)] W fun e W' => e = .returned (.int .i64 0) ∧ Rg W' B rb lb mb N M (dropG g x l) ∧ Rc lb mb W W' := by
  have h2 : x < N + M := by omega
  have a0 := H.c0
  have b1 := H.l0 x h2
  have b2 := H.l1 x h2
  have b3 := H.l2 x h2
  rw [hg] at b1
  rw [hx] at b2
  rw [hp] at b3
  have q1 : (x : Int) < (N : Int) + (M : Int) := by omega
  have q3 : (nxt : Int) < (N : Int) + (M : Int) := by omega
  have q4 : (pr : Int) < (N : Int) + (M : Int) := by omega
  have q5 : (l : Int) < (M : Int) := by omega
  have q6 : ¬ (l : Int) = -1 := by omega
  have w1 : IntKind.i64.wrap (m - 1) = m - 1 := IntWalk.i64_in _ (by omega)
  go_enter Try.func20, Try.ntmps20
  go_wp2_with fail
  refine (node_any (x : Int) W H).mono ?_
  rintro e z1 ⟨he, hz1⟩
  have hz2 := hz1.symm; clear hz1; subst hz2
  rw [decide_eq_true (show 0 ≤ (x : Int) ∧ (x : Int) < (N : Int) by omega)] at he
  subst he
  go_wp2_with fail
  obtain ⟨xb, hxb⟩ : ∃ xb, xb = W.heap.size := ⟨_, rfl⟩
  have xl : xb ≠ lb := by have := H.lt; omega
  have xm : xb ≠ mb := by have := H.lt; omega
  have xl' := Ne.symm xl
  have xm' := Ne.symm xm
  rw [← hxb]
  refine wp_abs (fun Wx => Rg Wx B rb lb mb N M g ∧ Rc lb mb W Wx ∧ Wx.cell? ⟨xb, 0, none⟩ = some (.int .i64 (l : Int)) ∧ Wx.cell? ⟨xb, 1, none⟩ = some (.int .i64 (nxt : Int)) ∧ Wx.cell? ⟨xb, 2, none⟩ = some (.int .i64 (pr : Int))) ⟨H.ext ((Ext.refl W).alloc _), (Rc.refl lb mb W).alloc _, by rw [hxb]; simp, by rw [hxb]; simp, by rw [hxb]; simp⟩ ?_
  clear a0 b1 b2 b3 hxb
  rintro wx ⟨H1, C1, c0, c1, c2⟩
  have a0 := H1.c0
  have a4 := H1.l1 pr h4
  have b4 := H1.l2 nxt h3
  have f1 := H1.fl
  go_region
  refine post_abs (fun Wx => Rg Wx B rb lb mb N M { g with nx := upd g.nx pr nxt, pv := upd g.pv nxt pr } ∧ Rc lb mb W Wx ∧ Wx.cell? ⟨xb, 0, none⟩ = some (.int .i64 (l : Int))) ⟨((H1.set1 pr h4 nxt).set2 nxt h3 pr).drew, ((C1.setCell (.inl rfl) _).setCell (.inl rfl) _).drew, by
    rw [World.cell?_drew, World.cell?_setCell_other _ _ ⟨xb, 0, none⟩ _ (by simp [xl']), World.cell?_setCell_other _ _ ⟨xb, 0, none⟩ _ (by simp [xl'])]; exact c0⟩ ?_
  clear a0 a4 b4 f1 H1 C1 c0 c1 c2
  rintro wy ⟨H2, C2, c0⟩
  have a0 := H2.c0
  have b1 := H2.l0 x h2
  have b2 := H2.l1 x h2
  have b3 := H2.l2 x h2
  have f1 := H2.fl
  go_wp2_with fail
  refine wp_abs (fun Wx => Rg Wx B rb lb mb N M { g with lst := upd g.lst x (-1), nx := upd (upd g.nx pr nxt) x x, pv := upd (upd g.pv nxt pr) x x } ∧ Rc lb mb W Wx ∧ Wx.cell? ⟨xb, 0, none⟩ = some (.int .i64 (l : Int))) ⟨((H2.set0 x h2 (-1)).set1 x h2 x).set2 x h2 x, ((C2.setCell (.inl rfl) _).setCell (.inl rfl) _).setCell (.inl rfl) _, by
    rw [World.cell?_setCell_other _ _ ⟨xb, 0, none⟩ _ (by simp [xl']), World.cell?_setCell_other _ _ ⟨xb, 0, none⟩ _ (by simp [xl']), World.cell?_setCell_other _ _ ⟨xb, 0, none⟩ _ (by simp [xl'])]; exact c0⟩ ?_
  clear a0 b1 b2 b3 f1 H2 C2 c0
  rintro wz ⟨H3, C3, c0⟩
  have a2 := H3.c2
  have b5 := H3.mm l hl
  dsimp only at b5
  rw [hm] at b5
  have f2 := H3.fm
  go_region
  refine post_abs (fun Wx => Rg Wx B rb lb mb N M (dropG g x l) ∧ Rc lb mb W Wx) ⟨?_, (C3.setCell (.inr rfl) _).drew⟩ ?_
  · have z := (H3.setM l hl (m - 1)).drew
    dsimp only at z
    have e : dropG g x l = { lst := upd g.lst x (-1), nx := upd (upd g.nx pr nxt) x x, pv := upd (upd g.pv nxt pr) x x, many := upd g.many l (m - 1) } := by
      unfold dropG
      rw [hp, hx, hm]
    rw [e]
    exact z
  clear a2 b5 f2 H3 C3 c0
  rintro wu ⟨H4, C4⟩
  go_wp2_with fail
  go_ret
  exact ⟨rfl, H4, C4⟩

theorem Drop_out (n : Int) (hn : ¬ (0 ≤ n ∧ n < (N : Int))) (W : World) (H : Rg W B rb lb mb N M g) :
    Calls Try.prog 20 #[.pointer (some ⟨rb, 0, none⟩), .int .i64 n] W fun e W' => e = .returned (.int .i64 14) ∧ W' = W := by
  go_enter Try.func20, Try.ntmps20
  go_wp2_with fail
  refine (node_any n W H).mono ?_
  rintro e z1 ⟨he, hz1⟩
  have hz2 := hz1.symm; clear hz1; subst hz2
  rw [decide_eq_false hn] at he
  subst he
  go_wp2
  go_ret
  exact ⟨rfl, rfl⟩
theorem Drop_none (n : Nat) (hn : n < N) (hl : g.lst n = -1) (W : World) (H : Rg W B rb lb mb N M g) :
    Calls Try.prog 20 #[.pointer (some ⟨rb, 0, none⟩), .int .i64 (n : Int)] W fun e W' => e = .returned (.int .i64 10) ∧ Ext W W' := by
  have h2 : n < N + M := by omega
  have a0 := H.c0
  have b1 := H.l0 n h2
  have b2 := H.l1 n h2
  have b3 := H.l2 n h2
  rw [hl] at b1
  have q1 : (n : Int) < (N : Int) + (M : Int) := by omega
  go_enter Try.func20, Try.ntmps20
  go_wp2_with fail
  refine (node_any (n : Int) W H).mono ?_
  rintro e z1 ⟨he, hz1⟩
  have hz2 := hz1.symm; clear hz1; subst hz2
  rw [decide_eq_true (show 0 ≤ (n : Int) ∧ (n : Int) < (N : Int) by omega)] at he
  subst he
  go_wp2_with fail
  go_ret
  exact ⟨rfl, (Ext.refl W).alloc _⟩
end
end Go.Proofs.Ytnlcbilmalfjaaa
