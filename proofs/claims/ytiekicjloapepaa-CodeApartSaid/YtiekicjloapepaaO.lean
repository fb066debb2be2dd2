/- A part of the proof of a law of roundel: contracts of functions and lemmas, each true as it stands; no condition beyond those that its theorems state. -/
import Derived.Test.YtiekicjloapepaaN
namespace Go.Proofs.Ytiekicjloapepaa
set_option linter.unusedSimpArgs false
set_option linter.unusedVariables false
open Go.RowKit

theorem apart_take {a1 a2 a3 a4 b1 b2 b3 b4 : Int} {n m n4 n6 : Nat} {A4 A6 : Option Addr} {l4 l6 : List Int} {w w' : World} (hl4 : Hid (l4 = encL a1.toNat a2 a3 a4)) (hl6 : Hid (l6 = encL b1.toNat b2 b3 b4))
    (r4 : Rd w A4 n4 l4) (r6 : Rd w' A6 n6 l6) (HN : Hid (a1 = n)) (HM : Hid (b1 = m)) (Q : Hid ¬ (a1 = b1 ∧ a2 = b2 ∧ a3 = b3 ∧ a4 = b4))
    (h40 : 0 ≤ a4) (h4 : a4 < 18446744073709551616) (k40 : 0 ≤ b4) (k4 : b4 < 18446744073709551616) (hg : goodB a1.toNat a2 a3 a4 = true) (hk : goodB b1.toNat b2 b3 b4 = true)
    (k : Nat) (h1 : k = n4 ∨ k = n6) (h2 : k ≤ n4) (h3 : k ≤ n6) : l4.take k ≠ l6.take k := by
  have e4 := hl4.out
  have e6 := hl6.out
  have f4 := r4.1
  have f6 := r6.1
  subst e4
  subst e6
  refine encL_apart h40 h4 k40 k4 hg hk ?_ k ?_ (by rw [f4]; exact h2) (by rw [f6]; exact h3)
  · rintro ⟨e1, e2⟩
    refine Q.out ⟨?_, e2⟩
    rw [HN.out, HM.out] at e1 ⊢
    have e3 : n = m := by simpa using e1
    rw [e3]
  · rw [f4, f6]
    exact h1

set_option maxHeartbeats 4000000 in
theorem apart_any (a1 a2 a3 a4 b1 b2 b3 b4 : Int) (h40 : 0 ≤ a4) (h4 : a4 < 18446744073709551616) (k40 : 0 ≤ b4) (k4 : b4 < 18446744073709551616) (w : World) :
    Calls Try.prog 3 #[.agg #[.int .i64 a1, .int .i64 a2, .int .i64 a3, .int .u64 a4], .agg #[.int .i64 b1, .int .i64 b2, .int .i64 b3, .int .u64 b4]] w fun e w' => e = .returned (.bool true) ∧ Ext w w' := by
  by_cases c1 : 255 < a1
  · go_enter Try.func3, Try.ntmps3
    go_wp2_with (first | (go_at_call 8; refine (awake_any _).mono ?_; rintro e w1 ⟨rfl, he1⟩; obtain ⟨he1c, he1f⟩ := Ext.cells he1; have he1z := Ext.sz he1; (try simp only [World.size_alloc, World.size_drew, World.heap_drewN, World.size_setCell] at he1z); have he1x0 : w.heap.size < w1.heap.size := (by omega); have he1y0 : w.heap.size < w1.heap.size + 1 := (by omega); have he1p0 := fun o => he1c (w.heap.size) o (by first | omega | (simp only [World.size_alloc, World.size_drew, World.heap_drewN, World.size_setCell] <;> omega)); have he1q0 := fun o => he1f (w.heap.size) o (by first | omega | (simp only [World.size_alloc, World.size_drew, World.heap_drewN, World.size_setCell] <;> omega)); have he1x1 : w.heap.size + 1 < w1.heap.size := (by omega); have he1y1 : w.heap.size + 1 < w1.heap.size + 1 := (by omega); have he1p1 := fun o => he1c (w.heap.size + 1) o (by first | omega | (simp only [World.size_alloc, World.size_drew, World.heap_drewN, World.size_setCell] <;> omega)); have he1q1 := fun o => he1f (w.heap.size + 1) o (by first | omega | (simp only [World.size_alloc, World.size_drew, World.heap_drewN, World.size_setCell] <;> omega))) | (go_at_call 9; refine (rgood_any _ _ _ _ _).mono ?_; rintro e w2 ⟨rfl, he2⟩; obtain ⟨he2c, he2f⟩ := Ext.cells he2; have he2z := Ext.sz he2; (try simp only [World.size_alloc, World.size_drew, World.heap_drewN, World.size_setCell] at he2z); have he2x0 : w.heap.size < w2.heap.size := (by omega); have he2y0 : w.heap.size < w2.heap.size + 1 := (by omega); have he2p0 := fun o => he2c (w.heap.size) o (by first | omega | (simp only [World.size_alloc, World.size_drew, World.heap_drewN, World.size_setCell] <;> omega)); have he2q0 := fun o => he2f (w.heap.size) o (by first | omega | (simp only [World.size_alloc, World.size_drew, World.heap_drewN, World.size_setCell] <;> omega)); have he2x1 : w.heap.size + 1 < w2.heap.size := (by omega); have he2y1 : w.heap.size + 1 < w2.heap.size + 1 := (by omega); have he2p1 := fun o => he2c (w.heap.size + 1) o (by first | omega | (simp only [World.size_alloc, World.size_drew, World.heap_drewN, World.size_setCell] <;> omega)); have he2q1 := fun o => he2f (w.heap.size + 1) o (by first | omega | (simp only [World.size_alloc, World.size_drew, World.heap_drewN, World.size_setCell] <;> omega))))
    go_ret
    refine ⟨rfl, ?_⟩
    (repeat (first | with_reducible exact Ext.refl _ | with_reducible assumption | with_reducible apply Ext.drew | with_reducible apply Ext.drewN | with_reducible apply Ext.alloc | (with_reducible refine Ext.setCell ?_ (by simp <;> omega) _) | (with_reducible refine Ext.trans ?_ (by with_reducible assumption))))
  by_cases c2 : 255 < b1
  · go_enter Try.func3, Try.ntmps3
    go_wp2_with (first | (go_at_call 8; refine (awake_any _).mono ?_; rintro e w1 ⟨rfl, he1⟩; obtain ⟨he1c, he1f⟩ := Ext.cells he1; have he1z := Ext.sz he1; (try simp only [World.size_alloc, World.size_drew, World.heap_drewN, World.size_setCell] at he1z); have he1x0 : w.heap.size < w1.heap.size := (by omega); have he1y0 : w.heap.size < w1.heap.size + 1 := (by omega); have he1p0 := fun o => he1c (w.heap.size) o (by first | omega | (simp only [World.size_alloc, World.size_drew, World.heap_drewN, World.size_setCell] <;> omega)); have he1q0 := fun o => he1f (w.heap.size) o (by first | omega | (simp only [World.size_alloc, World.size_drew, World.heap_drewN, World.size_setCell] <;> omega)); have he1x1 : w.heap.size + 1 < w1.heap.size := (by omega); have he1y1 : w.heap.size + 1 < w1.heap.size + 1 := (by omega); have he1p1 := fun o => he1c (w.heap.size + 1) o (by first | omega | (simp only [World.size_alloc, World.size_drew, World.heap_drewN, World.size_setCell] <;> omega)); have he1q1 := fun o => he1f (w.heap.size + 1) o (by first | omega | (simp only [World.size_alloc, World.size_drew, World.heap_drewN, World.size_setCell] <;> omega))) | (go_at_call 9; refine (rgood_any _ _ _ _ _).mono ?_; rintro e w2 ⟨rfl, he2⟩; obtain ⟨he2c, he2f⟩ := Ext.cells he2; have he2z := Ext.sz he2; (try simp only [World.size_alloc, World.size_drew, World.heap_drewN, World.size_setCell] at he2z); have he2x0 : w.heap.size < w2.heap.size := (by omega); have he2y0 : w.heap.size < w2.heap.size + 1 := (by omega); have he2p0 := fun o => he2c (w.heap.size) o (by first | omega | (simp only [World.size_alloc, World.size_drew, World.heap_drewN, World.size_setCell] <;> omega)); have he2q0 := fun o => he2f (w.heap.size) o (by first | omega | (simp only [World.size_alloc, World.size_drew, World.heap_drewN, World.size_setCell] <;> omega)); have he2x1 : w.heap.size + 1 < w2.heap.size := (by omega); have he2y1 : w.heap.size + 1 < w2.heap.size + 1 := (by omega); have he2p1 := fun o => he2c (w.heap.size + 1) o (by first | omega | (simp only [World.size_alloc, World.size_drew, World.heap_drewN, World.size_setCell] <;> omega)); have he2q1 := fun o => he2f (w.heap.size + 1) o (by first | omega | (simp only [World.size_alloc, World.size_drew, World.heap_drewN, World.size_setCell] <;> omega))))
    go_ret
    refine ⟨rfl, ?_⟩
    (repeat (first | with_reducible exact Ext.refl _ | with_reducible assumption | with_reducible apply Ext.drew | with_reducible apply Ext.drewN | with_reducible apply Ext.alloc | (with_reducible refine Ext.setCell ?_ (by simp <;> omega) _) | (with_reducible refine Ext.trans ?_ (by with_reducible assumption))))
  cases g1 : rG a1 a2 a3 a4 with
  | false =>
    go_enter Try.func3, Try.ntmps3
    go_wp2_with (first | (go_at_call 8; refine (awake_any _).mono ?_; rintro e w1 ⟨rfl, he1⟩; obtain ⟨he1c, he1f⟩ := Ext.cells he1; have he1z := Ext.sz he1; (try simp only [World.size_alloc, World.size_drew, World.heap_drewN, World.size_setCell] at he1z); have he1x0 : w.heap.size < w1.heap.size := (by omega); have he1y0 : w.heap.size < w1.heap.size + 1 := (by omega); have he1p0 := fun o => he1c (w.heap.size) o (by first | omega | (simp only [World.size_alloc, World.size_drew, World.heap_drewN, World.size_setCell] <;> omega)); have he1q0 := fun o => he1f (w.heap.size) o (by first | omega | (simp only [World.size_alloc, World.size_drew, World.heap_drewN, World.size_setCell] <;> omega)); have he1x1 : w.heap.size + 1 < w1.heap.size := (by omega); have he1y1 : w.heap.size + 1 < w1.heap.size + 1 := (by omega); have he1p1 := fun o => he1c (w.heap.size + 1) o (by first | omega | (simp only [World.size_alloc, World.size_drew, World.heap_drewN, World.size_setCell] <;> omega)); have he1q1 := fun o => he1f (w.heap.size + 1) o (by first | omega | (simp only [World.size_alloc, World.size_drew, World.heap_drewN, World.size_setCell] <;> omega))) | (go_at_call 9; refine (rgood_any _ _ _ _ _).mono ?_; rintro e w2 ⟨rfl, he2⟩; obtain ⟨he2c, he2f⟩ := Ext.cells he2; have he2z := Ext.sz he2; (try simp only [World.size_alloc, World.size_drew, World.heap_drewN, World.size_setCell] at he2z); have he2x0 : w.heap.size < w2.heap.size := (by omega); have he2y0 : w.heap.size < w2.heap.size + 1 := (by omega); have he2p0 := fun o => he2c (w.heap.size) o (by first | omega | (simp only [World.size_alloc, World.size_drew, World.heap_drewN, World.size_setCell] <;> omega)); have he2q0 := fun o => he2f (w.heap.size) o (by first | omega | (simp only [World.size_alloc, World.size_drew, World.heap_drewN, World.size_setCell] <;> omega)); have he2x1 : w.heap.size + 1 < w2.heap.size := (by omega); have he2y1 : w.heap.size + 1 < w2.heap.size + 1 := (by omega); have he2p1 := fun o => he2c (w.heap.size + 1) o (by first | omega | (simp only [World.size_alloc, World.size_drew, World.heap_drewN, World.size_setCell] <;> omega)); have he2q1 := fun o => he2f (w.heap.size + 1) o (by first | omega | (simp only [World.size_alloc, World.size_drew, World.heap_drewN, World.size_setCell] <;> omega))))
    go_ret
    refine ⟨rfl, ?_⟩
    (repeat (first | with_reducible exact Ext.refl _ | with_reducible assumption | with_reducible apply Ext.drew | with_reducible apply Ext.drewN | with_reducible apply Ext.alloc | (with_reducible refine Ext.setCell ?_ (by simp <;> omega) _) | (with_reducible refine Ext.trans ?_ (by with_reducible assumption))))
  | true =>
  cases g2 : rG b1 b2 b3 b4 with
  | false =>
    go_enter Try.func3, Try.ntmps3
    go_wp2_with (first | (go_at_call 8; refine (awake_any _).mono ?_; rintro e w1 ⟨rfl, he1⟩; obtain ⟨he1c, he1f⟩ := Ext.cells he1; have he1z := Ext.sz he1; (try simp only [World.size_alloc, World.size_drew, World.heap_drewN, World.size_setCell] at he1z); have he1x0 : w.heap.size < w1.heap.size := (by omega); have he1y0 : w.heap.size < w1.heap.size + 1 := (by omega); have he1p0 := fun o => he1c (w.heap.size) o (by first | omega | (simp only [World.size_alloc, World.size_drew, World.heap_drewN, World.size_setCell] <;> omega)); have he1q0 := fun o => he1f (w.heap.size) o (by first | omega | (simp only [World.size_alloc, World.size_drew, World.heap_drewN, World.size_setCell] <;> omega)); have he1x1 : w.heap.size + 1 < w1.heap.size := (by omega); have he1y1 : w.heap.size + 1 < w1.heap.size + 1 := (by omega); have he1p1 := fun o => he1c (w.heap.size + 1) o (by first | omega | (simp only [World.size_alloc, World.size_drew, World.heap_drewN, World.size_setCell] <;> omega)); have he1q1 := fun o => he1f (w.heap.size + 1) o (by first | omega | (simp only [World.size_alloc, World.size_drew, World.heap_drewN, World.size_setCell] <;> omega))) | (go_at_call 9; refine (rgood_any _ _ _ _ _).mono ?_; rintro e w2 ⟨rfl, he2⟩; obtain ⟨he2c, he2f⟩ := Ext.cells he2; have he2z := Ext.sz he2; (try simp only [World.size_alloc, World.size_drew, World.heap_drewN, World.size_setCell] at he2z); have he2x0 : w.heap.size < w2.heap.size := (by omega); have he2y0 : w.heap.size < w2.heap.size + 1 := (by omega); have he2p0 := fun o => he2c (w.heap.size) o (by first | omega | (simp only [World.size_alloc, World.size_drew, World.heap_drewN, World.size_setCell] <;> omega)); have he2q0 := fun o => he2f (w.heap.size) o (by first | omega | (simp only [World.size_alloc, World.size_drew, World.heap_drewN, World.size_setCell] <;> omega)); have he2x1 : w.heap.size + 1 < w2.heap.size := (by omega); have he2y1 : w.heap.size + 1 < w2.heap.size + 1 := (by omega); have he2p1 := fun o => he2c (w.heap.size + 1) o (by first | omega | (simp only [World.size_alloc, World.size_drew, World.heap_drewN, World.size_setCell] <;> omega)); have he2q1 := fun o => he2f (w.heap.size + 1) o (by first | omega | (simp only [World.size_alloc, World.size_drew, World.heap_drewN, World.size_setCell] <;> omega))))
    go_ret
    refine ⟨rfl, ?_⟩
    (repeat (first | with_reducible exact Ext.refl _ | with_reducible assumption | with_reducible apply Ext.drew | with_reducible apply Ext.drewN | with_reducible apply Ext.alloc | (with_reducible refine Ext.setCell ?_ (by simp <;> omega) _) | (with_reducible refine Ext.trans ?_ (by with_reducible assumption))))
  | true =>
  by_cases q : a1 = b1 ∧ a2 = b2 ∧ a3 = b3 ∧ a4 = b4
  · obtain ⟨rfl, rfl, rfl, rfl⟩ := q
    clear g2 c2
    go_enter Try.func3, Try.ntmps3
    go_wp2_with (first | (go_at_call 8; refine (awake_any _).mono ?_; rintro e w1 ⟨rfl, he1⟩; obtain ⟨he1c, he1f⟩ := Ext.cells he1; have he1z := Ext.sz he1; (try simp only [World.size_alloc, World.size_drew, World.heap_drewN, World.size_setCell] at he1z); have he1x0 : w.heap.size < w1.heap.size := (by omega); have he1y0 : w.heap.size < w1.heap.size + 1 := (by omega); have he1p0 := fun o => he1c (w.heap.size) o (by first | omega | (simp only [World.size_alloc, World.size_drew, World.heap_drewN, World.size_setCell] <;> omega)); have he1q0 := fun o => he1f (w.heap.size) o (by first | omega | (simp only [World.size_alloc, World.size_drew, World.heap_drewN, World.size_setCell] <;> omega)); have he1x1 : w.heap.size + 1 < w1.heap.size := (by omega); have he1y1 : w.heap.size + 1 < w1.heap.size + 1 := (by omega); have he1p1 := fun o => he1c (w.heap.size + 1) o (by first | omega | (simp only [World.size_alloc, World.size_drew, World.heap_drewN, World.size_setCell] <;> omega)); have he1q1 := fun o => he1f (w.heap.size + 1) o (by first | omega | (simp only [World.size_alloc, World.size_drew, World.heap_drewN, World.size_setCell] <;> omega))) | (go_at_call 9; refine (rgood_any _ _ _ _ _).mono ?_; rintro e w2 ⟨rfl, he2⟩; obtain ⟨he2c, he2f⟩ := Ext.cells he2; have he2z := Ext.sz he2; (try simp only [World.size_alloc, World.size_drew, World.heap_drewN, World.size_setCell] at he2z); have he2x0 : w.heap.size < w2.heap.size := (by omega); have he2y0 : w.heap.size < w2.heap.size + 1 := (by omega); have he2p0 := fun o => he2c (w.heap.size) o (by first | omega | (simp only [World.size_alloc, World.size_drew, World.heap_drewN, World.size_setCell] <;> omega)); have he2q0 := fun o => he2f (w.heap.size) o (by first | omega | (simp only [World.size_alloc, World.size_drew, World.heap_drewN, World.size_setCell] <;> omega)); have he2x1 : w.heap.size + 1 < w2.heap.size := (by omega); have he2y1 : w.heap.size + 1 < w2.heap.size + 1 := (by omega); have he2p1 := fun o => he2c (w.heap.size + 1) o (by first | omega | (simp only [World.size_alloc, World.size_drew, World.heap_drewN, World.size_setCell] <;> omega)); have he2q1 := fun o => he2f (w.heap.size + 1) o (by first | omega | (simp only [World.size_alloc, World.size_drew, World.heap_drewN, World.size_setCell] <;> omega))))
    go_ret
    refine ⟨rfl, ?_⟩
    (repeat (first | with_reducible exact Ext.refl _ | with_reducible assumption | with_reducible apply Ext.drew | with_reducible apply Ext.drewN | with_reducible apply Ext.alloc | (with_reducible refine Ext.setCell ?_ (by simp <;> omega) _) | (with_reducible refine Ext.trans ?_ (by with_reducible assumption))))
  · obtain ⟨n, hn1, hn, hg⟩ := rG_true g1
    obtain ⟨m, hm1, hm, hk⟩ := rG_true g2
    have Q := Lib.hid q
    have HN := Lib.hid hn1
    have HM := Lib.hid hm1
    have parts : (a1 == b1) = false ∨ ((a1 == b1) = true ∧ (a2 == b2) = false) ∨ ((a1 == b1) = true ∧ (a2 == b2) = true ∧ (a3 == b3) = false) ∨ ((a1 == b1) = true ∧ (a2 == b2) = true ∧ (a3 == b3) = true ∧ (a4 == b4) = false) := by
      by_cases h1 : a1 = b1 <;> by_cases h2 : a2 = b2 <;> by_cases h3 : a3 = b3 <;> by_cases h4 : a4 = b4 <;> simp_all
    have i1 : 0 ≤ a1 := by omega
    have i2 : a1 ≤ 255 := by omega
    have j1 : 0 ≤ b1 := by omega
    have j2 : b1 ≤ 255 := by omega
    have hg' : goodB a1.toNat a2 a3 a4 = true := by rw [hn1]; simpa using hg
    have hk' : goodB b1.toNat b2 b3 b4 = true := by rw [hm1]; simpa using hk
    clear q hn1 hm1 hg hk
    rcases parts with p1 | ⟨p1, p2⟩ | ⟨p1, p2, p3⟩ | ⟨p1, p2, p3, p4⟩
    all_goals
      go_enter Try.func3, Try.ntmps3
      go_wp2_with (first | (go_at_call 8; refine (awake_any _).mono ?_; rintro e w1 ⟨rfl, he1⟩; obtain ⟨he1c, he1f⟩ := Ext.cells he1; have he1z := Ext.sz he1; (try simp only [World.size_alloc, World.size_drew, World.heap_drewN, World.size_setCell] at he1z); have he1x0 : w.heap.size < w1.heap.size := (by omega); have he1y0 : w.heap.size < w1.heap.size + 1 := (by omega); have he1p0 := fun o => he1c (w.heap.size) o (by first | omega | (simp only [World.size_alloc, World.size_drew, World.heap_drewN, World.size_setCell] <;> omega)); have he1q0 := fun o => he1f (w.heap.size) o (by first | omega | (simp only [World.size_alloc, World.size_drew, World.heap_drewN, World.size_setCell] <;> omega)); have he1x1 : w.heap.size + 1 < w1.heap.size := (by omega); have he1y1 : w.heap.size + 1 < w1.heap.size + 1 := (by omega); have he1p1 := fun o => he1c (w.heap.size + 1) o (by first | omega | (simp only [World.size_alloc, World.size_drew, World.heap_drewN, World.size_setCell] <;> omega)); have he1q1 := fun o => he1f (w.heap.size + 1) o (by first | omega | (simp only [World.size_alloc, World.size_drew, World.heap_drewN, World.size_setCell] <;> omega))) | (go_at_call 9; refine (rgood_any _ _ _ _ _).mono ?_; rintro e w2 ⟨rfl, he2⟩; obtain ⟨he2c, he2f⟩ := Ext.cells he2; have he2z := Ext.sz he2; (try simp only [World.size_alloc, World.size_drew, World.heap_drewN, World.size_setCell] at he2z); have he2x0 : w.heap.size < w2.heap.size := (by omega); have he2y0 : w.heap.size < w2.heap.size + 1 := (by omega); have he2p0 := fun o => he2c (w.heap.size) o (by first | omega | (simp only [World.size_alloc, World.size_drew, World.heap_drewN, World.size_setCell] <;> omega)); have he2q0 := fun o => he2f (w.heap.size) o (by first | omega | (simp only [World.size_alloc, World.size_drew, World.heap_drewN, World.size_setCell] <;> omega)); have he2x1 : w.heap.size + 1 < w2.heap.size := (by omega); have he2y1 : w.heap.size + 1 < w2.heap.size + 1 := (by omega); have he2p1 := fun o => he2c (w.heap.size + 1) o (by first | omega | (simp only [World.size_alloc, World.size_drew, World.heap_drewN, World.size_setCell] <;> omega)); have he2q1 := fun o => he2f (w.heap.size + 1) o (by first | omega | (simp only [World.size_alloc, World.size_drew, World.heap_drewN, World.size_setCell] <;> omega))))
    all_goals
      refine (real_int a1 i1 i2 _ _ _ _).mono ?_
      rintro e w3 ⟨rfl, he3⟩
      obtain ⟨he3c, he3f⟩ := Ext.cells he3; have he3z := Ext.sz he3; (try simp only [World.size_alloc, World.size_drew, World.heap_drewN, World.size_setCell] at he3z); have he3x0 : w.heap.size < w3.heap.size := (by omega); have he3y0 : w.heap.size < w3.heap.size + 1 := (by omega); have he3p0 := fun o => he3c (w.heap.size) o (by first | omega | (simp only [World.size_alloc, World.size_drew, World.heap_drewN, World.size_setCell] <;> omega)); have he3q0 := fun o => he3f (w.heap.size) o (by first | omega | (simp only [World.size_alloc, World.size_drew, World.heap_drewN, World.size_setCell] <;> omega)); have he3x1 : w.heap.size + 1 < w3.heap.size := (by omega); have he3y1 : w.heap.size + 1 < w3.heap.size + 1 := (by omega); have he3p1 := fun o => he3c (w.heap.size + 1) o (by first | omega | (simp only [World.size_alloc, World.size_drew, World.heap_drewN, World.size_setCell] <;> omega)); have he3q1 := fun o => he3f (w.heap.size + 1) o (by first | omega | (simp only [World.size_alloc, World.size_drew, World.heap_drewN, World.size_setCell] <;> omega))
      go_wp2_with fail
      refine (enc_int a1 i1 i2 _ _ _ h40 h4 hg' _).mono ?_
      rintro e w4 ⟨A4, n4, c4, l4, rfl, hl4, hnc4, hc4, hn4, hm4, r4, o4, he4⟩
      obtain ⟨he4c, he4f⟩ := Ext.cells he4; have he4z := Ext.sz he4; (try simp only [World.size_alloc, World.size_drew, World.heap_drewN, World.size_setCell] at he4z); have he4x0 : w.heap.size < w4.heap.size := (by omega); have he4y0 : w.heap.size < w4.heap.size + 1 := (by omega); have he4p0 := fun o => he4c (w.heap.size) o (by first | omega | (simp only [World.size_alloc, World.size_drew, World.heap_drewN, World.size_setCell] <;> omega)); have he4q0 := fun o => he4f (w.heap.size) o (by first | omega | (simp only [World.size_alloc, World.size_drew, World.heap_drewN, World.size_setCell] <;> omega)); have he4x1 : w.heap.size + 1 < w4.heap.size := (by omega); have he4y1 : w.heap.size + 1 < w4.heap.size + 1 := (by omega); have he4p1 := fun o => he4c (w.heap.size + 1) o (by first | omega | (simp only [World.size_alloc, World.size_drew, World.heap_drewN, World.size_setCell] <;> omega)); have he4q1 := fun o => he4f (w.heap.size + 1) o (by first | omega | (simp only [World.size_alloc, World.size_drew, World.heap_drewN, World.size_setCell] <;> omega))
      go_wp2_with fail
      refine (real_int b1 j1 j2 _ _ _ _).mono ?_
      rintro e w5 ⟨rfl, he5⟩
      obtain ⟨he5c, he5f⟩ := Ext.cells he5; have he5z := Ext.sz he5; (try simp only [World.size_alloc, World.size_drew, World.heap_drewN, World.size_setCell] at he5z); have he5x0 : w.heap.size < w5.heap.size := (by omega); have he5y0 : w.heap.size < w5.heap.size + 1 := (by omega); have he5p0 := fun o => he5c (w.heap.size) o (by first | omega | (simp only [World.size_alloc, World.size_drew, World.heap_drewN, World.size_setCell] <;> omega)); have he5q0 := fun o => he5f (w.heap.size) o (by first | omega | (simp only [World.size_alloc, World.size_drew, World.heap_drewN, World.size_setCell] <;> omega)); have he5x1 : w.heap.size + 1 < w5.heap.size := (by omega); have he5y1 : w.heap.size + 1 < w5.heap.size + 1 := (by omega); have he5p1 := fun o => he5c (w.heap.size + 1) o (by first | omega | (simp only [World.size_alloc, World.size_drew, World.heap_drewN, World.size_setCell] <;> omega)); have he5q1 := fun o => he5f (w.heap.size + 1) o (by first | omega | (simp only [World.size_alloc, World.size_drew, World.heap_drewN, World.size_setCell] <;> omega))
      go_wp2_with fail
      refine (enc_int b1 j1 j2 _ _ _ k40 k4 hk' _).mono ?_
      rintro e w6 ⟨A6, n6, c6, l6, rfl, hl6, hnc6, hc6, hn6, hm6, r6, o6, he6⟩
      have ne := fun k h1 h2 h3 => str_ne (fun x hx => r4.2.1 x (List.mem_of_mem_take hx)) (fun x hx => r6.2.1 x (List.mem_of_mem_take hx)) (apart_take hl4 hl6 r4 r6 HN HM Q h40 h4 k40 k4 hg' hk' k h1 h2 h3)
      have r4' := (r4.ext he5).ext he6
      have ew6 : Ext w w6 := by
        (repeat (first | with_reducible exact Ext.refl _ | with_reducible assumption | with_reducible apply Ext.drew | with_reducible apply Ext.drewN | with_reducible apply Ext.alloc | (with_reducible refine Ext.setCell ?_ (by simp <;> omega) _) | (with_reducible refine Ext.trans ?_ (by with_reducible assumption))))
      clear he3c he3f he3p0 he3q0 he3p1 he3q1 he4c he4f he4p0 he4q0 he4p1 he4q1 he5c he5f he5p0 he5q0 he5p1 he5q1
      by_cases hmn : n4 ≤ n6
      · have ne4 := ne n4 (.inl rfl) (Nat.le_refl _) hmn
        rw [List.take_of_length_le (by rw [r4.1]; exact Nat.le_refl _)] at ne4
        have k4 : ∀ q, (convert 27 9 (.slice A4 n4 c4)).run Try.prog (w6.drewN q) = .ok (.string (strOf l4)) (w6.drewN q) := fun q => conv_rd A4 n4 c4 l4 _ r4'
        have k6 : ∀ q, (convert 27 9 (.slice A6 n4 c6)).run Try.prog (w6.drewN q) = .ok (.string (strOf (l6.take n4))) (w6.drewN q) := fun q => conv_rd A6 n4 c6 _ _ (r6.pre n4 hmn)
        have q1 : (0 : Int) ≤ (n4 : Int) := by omega
        have q2 : (n4 : Int) ≤ (c4 : Int) := by omega
        have q3 : (n4 : Int) ≤ (c6 : Int) := by omega
        clear ne r4 r6 o4 o6
        go_wp2_with fail
        go_quiet (fail)
        go_wp2
        go_ret
        exact ⟨rfl, ew6.drewN _⟩
      · have hmn' : n6 ≤ n4 := by omega
        have ne6 := ne n6 (.inr rfl) hmn' (Nat.le_refl _)
        rw [List.take_of_length_le (l := l6) (by rw [r6.1]; exact Nat.le_refl _)] at ne6
        have k4 : ∀ q, (convert 27 9 (.slice A4 n6 c4)).run Try.prog (w6.drewN q) = .ok (.string (strOf (l4.take n6))) (w6.drewN q) := fun q => conv_rd A4 n6 c4 _ _ (r4'.pre n6 hmn')
        have k6 : ∀ q, (convert 27 9 (.slice A6 n6 c6)).run Try.prog (w6.drewN q) = .ok (.string (strOf l6)) (w6.drewN q) := fun q => conv_rd A6 n6 c6 _ _ r6
        have q1 : (0 : Int) ≤ (n6 : Int) := by omega
        have q2 : (n6 : Int) ≤ (c4 : Int) := by omega
        have q3 : (n6 : Int) ≤ (c6 : Int) := by omega
        clear ne r4 r6 o4 o6
        go_wp2_with fail
        go_quiet (fail)
        go_wp2
        go_ret
        exact ⟨rfl, ew6.drewN _⟩
end Go.Proofs.Ytiekicjloapepaa
