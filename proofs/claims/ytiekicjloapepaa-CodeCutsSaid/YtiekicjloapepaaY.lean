/- A part of the proof of a law of roundel: contracts of functions and lemmas, each true as it stands; no condition beyond those that its theorems state. -/
import Derived.Test.YtiekicjloapepaaT
namespace Go.Proofs.Ytiekicjloapepaa
set_option linter.unusedSimpArgs false
set_option linter.unusedVariables false
open Go.RowKit

theorem dec_cut (op : Int) (h0 : 0 ≤ op) (h1 : op ≤ 255) (A B M : Int) (hg : goodB op.toNat A B M = true) (l3 : List Int) (hl3 : Hid (l3 = encL op.toNat A B M))
    (X : Option Addr) (n c k : Nat) (hn : n ≤ 20) (hk : k < n) (w : World) (hr : Rd w X n l3) :
    Calls Try.prog 17 #[.slice X k c] w fun e w' => e = .returned (.tuple #[cmd0, .int .i64 (k : Int), .int .i64 1]) ∧ Ext w w' := by
  obtain ⟨o, rfl⟩ := Int.eq_ofNat_of_zero_le h0
  have e := hl3.out
  rw [Int.toNat_natCast] at hg e
  subst e
  have hlen := encL_length o A B M
  have ha := wa_in o
  have hb' := wb_in o
  have hm := wm_in o
  have hn' := hr.1
  have hop : isOp o = true := by
    have h := hg
    simp only [goodB, Bool.and_eq_true] at h
    exact h.1.1.1
  rcases Nat.eq_zero_or_pos k with rfl | hk0
  · exact dec_0 X c w
  · exact dec_short X k c _ hk0 (by omega) w (hr.pre k (by omega)) o (by
      rw [show ((encL o A B M).take k).getD 0 0 = (encL o A B M).getD 0 0 by simp [List.getD, List.getElem?_take_of_lt hk0]]
      simp [encL, List.getD]) hop (by omega)

set_option maxHeartbeats 2000000 in
theorem cuts_bad (op : Int) (h0 : 0 ≤ op) (h1 : op ≤ 255) (A B M : Int) (hbad : goodB op.toNat A B M = false) (w : World) :
    Calls Try.prog 7 #[.int .u8 op, .agg #[.int .i64 A, .int .i64 B, .int .u64 M]] w fun e w' => e = .returned (.bool true) ∧ Ext w w' := by
  have HB := Lib.hid hbad
  clear hbad
  go_enter Try.func7, Try.ntmps7
  go_wp2_with (first
    | (go_at_call 8; refine (awake_any _).mono ?_; rintro e w1 ⟨rfl, he1⟩; obtain ⟨he1c, he1f⟩ := Ext.cells he1; have he1z := Ext.sz he1; (try simp only [World.size_alloc, World.size_drew, World.heap_drewN, World.size_setCell] at he1z); have he1x0 : w.heap.size < w1.heap.size := (by omega); have he1y0 : w.heap.size < w1.heap.size + 1 := (by omega); have he1p0 := fun o => he1c (w.heap.size) o (by first | omega | (simp only [World.size_alloc, World.size_drew, World.heap_drewN, World.size_setCell] <;> omega)); have he1q0 := fun o => he1f (w.heap.size) o (by first | omega | (simp only [World.size_alloc, World.size_drew, World.heap_drewN, World.size_setCell] <;> omega)); have he1x1 : w.heap.size + 1 < w1.heap.size := (by omega); have he1y1 : w.heap.size + 1 < w1.heap.size + 1 := (by omega); have he1p1 := fun o => he1c (w.heap.size + 1) o (by first | omega | (simp only [World.size_alloc, World.size_drew, World.heap_drewN, World.size_setCell] <;> omega)); have he1q1 := fun o => he1f (w.heap.size + 1) o (by first | omega | (simp only [World.size_alloc, World.size_drew, World.heap_drewN, World.size_setCell] <;> omega)))
    | (go_at_call 9; refine (rgood_g op h0 _ _ _ false HB.out _).mono ?_; rintro e w2 ⟨rfl, he2⟩; obtain ⟨he2c, he2f⟩ := Ext.cells he2; have he2z := Ext.sz he2; (try simp only [World.size_alloc, World.size_drew, World.heap_drewN, World.size_setCell] at he2z); have he2x0 : w.heap.size < w2.heap.size := (by omega); have he2y0 : w.heap.size < w2.heap.size + 1 := (by omega); have he2p0 := fun o => he2c (w.heap.size) o (by first | omega | (simp only [World.size_alloc, World.size_drew, World.heap_drewN, World.size_setCell] <;> omega)); have he2q0 := fun o => he2f (w.heap.size) o (by first | omega | (simp only [World.size_alloc, World.size_drew, World.heap_drewN, World.size_setCell] <;> omega)); have he2x1 : w.heap.size + 1 < w2.heap.size := (by omega); have he2y1 : w.heap.size + 1 < w2.heap.size + 1 := (by omega); have he2p1 := fun o => he2c (w.heap.size + 1) o (by first | omega | (simp only [World.size_alloc, World.size_drew, World.heap_drewN, World.size_setCell] <;> omega)); have he2q1 := fun o => he2f (w.heap.size + 1) o (by first | omega | (simp only [World.size_alloc, World.size_drew, World.heap_drewN, World.size_setCell] <;> omega))))
  go_ret
  refine ⟨rfl, ?_⟩
  (repeat (first | with_reducible exact Ext.refl _ | with_reducible assumption | with_reducible apply Ext.drew | with_reducible apply Ext.drewN | with_reducible apply Ext.alloc | (with_reducible refine Ext.setCell ?_ (by simp <;> omega) _) | (with_reducible refine Ext.trans ?_ (by with_reducible assumption))))

set_option maxHeartbeats 4000000 in
theorem cuts_good (op : Int) (h0 : 0 ≤ op) (h1 : op ≤ 255) (A B M : Int) (hM0 : 0 ≤ M) (hM : M < 18446744073709551616) (hg : goodB op.toNat A B M = true) (w : World) :
    Calls Try.prog 7 #[.int .u8 op, .agg #[.int .i64 A, .int .i64 B, .int .u64 M]] w fun e w' => e = .returned (.bool true) ∧ Ext w w' := by
  have HB := Lib.hid hg
  clear hg
  go_enter Try.func7, Try.ntmps7
  go_wp2_with (first
    | (go_at_call 8; refine (awake_any _).mono ?_; rintro e w1 ⟨rfl, he1⟩; obtain ⟨he1c, he1f⟩ := Ext.cells he1; have he1z := Ext.sz he1; (try simp only [World.size_alloc, World.size_drew, World.heap_drewN, World.size_setCell] at he1z); have he1x0 : w.heap.size < w1.heap.size := (by omega); have he1y0 : w.heap.size < w1.heap.size + 1 := (by omega); have he1p0 := fun o => he1c (w.heap.size) o (by first | omega | (simp only [World.size_alloc, World.size_drew, World.heap_drewN, World.size_setCell] <;> omega)); have he1q0 := fun o => he1f (w.heap.size) o (by first | omega | (simp only [World.size_alloc, World.size_drew, World.heap_drewN, World.size_setCell] <;> omega)); have he1x1 : w.heap.size + 1 < w1.heap.size := (by omega); have he1y1 : w.heap.size + 1 < w1.heap.size + 1 := (by omega); have he1p1 := fun o => he1c (w.heap.size + 1) o (by first | omega | (simp only [World.size_alloc, World.size_drew, World.heap_drewN, World.size_setCell] <;> omega)); have he1q1 := fun o => he1f (w.heap.size + 1) o (by first | omega | (simp only [World.size_alloc, World.size_drew, World.heap_drewN, World.size_setCell] <;> omega)))
    | (go_at_call 9; refine (rgood_g op h0 _ _ _ true HB.out _).mono ?_; rintro e w2 ⟨rfl, he2⟩; obtain ⟨he2c, he2f⟩ := Ext.cells he2; have he2z := Ext.sz he2; (try simp only [World.size_alloc, World.size_drew, World.heap_drewN, World.size_setCell] at he2z); have he2x0 : w.heap.size < w2.heap.size := (by omega); have he2y0 : w.heap.size < w2.heap.size + 1 := (by omega); have he2p0 := fun o => he2c (w.heap.size) o (by first | omega | (simp only [World.size_alloc, World.size_drew, World.heap_drewN, World.size_setCell] <;> omega)); have he2q0 := fun o => he2f (w.heap.size) o (by first | omega | (simp only [World.size_alloc, World.size_drew, World.heap_drewN, World.size_setCell] <;> omega)); have he2x1 : w.heap.size + 1 < w2.heap.size := (by omega); have he2y1 : w.heap.size + 1 < w2.heap.size + 1 := (by omega); have he2p1 := fun o => he2c (w.heap.size + 1) o (by first | omega | (simp only [World.size_alloc, World.size_drew, World.heap_drewN, World.size_setCell] <;> omega)); have he2q1 := fun o => he2f (w.heap.size + 1) o (by first | omega | (simp only [World.size_alloc, World.size_drew, World.heap_drewN, World.size_setCell] <;> omega)))
    | (go_at_call 11; refine (real_int op h0 h1 _ _ _ _).mono ?_; rintro e w2 ⟨rfl, he2⟩; obtain ⟨he2c, he2f⟩ := Ext.cells he2; have he2z := Ext.sz he2; (try simp only [World.size_alloc, World.size_drew, World.heap_drewN, World.size_setCell] at he2z); have he2x0 : w.heap.size < w2.heap.size := (by omega); have he2y0 : w.heap.size < w2.heap.size + 1 := (by omega); have he2p0 := fun o => he2c (w.heap.size) o (by first | omega | (simp only [World.size_alloc, World.size_drew, World.heap_drewN, World.size_setCell] <;> omega)); have he2q0 := fun o => he2f (w.heap.size) o (by first | omega | (simp only [World.size_alloc, World.size_drew, World.heap_drewN, World.size_setCell] <;> omega)); have he2x1 : w.heap.size + 1 < w2.heap.size := (by omega); have he2y1 : w.heap.size + 1 < w2.heap.size + 1 := (by omega); have he2p1 := fun o => he2c (w.heap.size + 1) o (by first | omega | (simp only [World.size_alloc, World.size_drew, World.heap_drewN, World.size_setCell] <;> omega)); have he2q1 := fun o => he2f (w.heap.size + 1) o (by first | omega | (simp only [World.size_alloc, World.size_drew, World.heap_drewN, World.size_setCell] <;> omega))))
  refine calls_abs (fun W => Ext w W) (by (repeat (first | with_reducible exact Ext.refl _ | with_reducible assumption | with_reducible apply Ext.drew | with_reducible apply Ext.drewN | with_reducible apply Ext.alloc | (with_reducible refine Ext.setCell ?_ (by simp <;> omega) _) | (with_reducible refine Ext.trans ?_ (by with_reducible assumption))))) ?_
  clear he1c he1f he1p0 he1q0 he1p1 he1q1 he2c he2f he2p0 he2q0 he2p1 he2q1
  rintro W0 e0
  refine (enc_int op h0 h1 A B M hM0 hM HB.out W0).mono ?_
  rintro e w3 ⟨A3, n3, c3, l3, rfl, hl3, hnc3, hc3, hn3, hm3, r3, o3, he3⟩
  have e3 := e0.trans he3
  have hlk : (encL op.toNat A B M).length = n3 := by rw [← hl3.out]; exact r3.1
  have HK := Lib.hid hlk
  have R3 := Lib.hid r3
  clear o3 hlk r3
  go_wp2_with fail
  go_loopw [37] (fun i wr => ∃ k : Nat, k ≤ n3 ∧ i = .int .i64 (k : Int) ∧ Ext w3 wr) (fun i _ => n3 - (intOf i).toNat)
  case atStart => exact ⟨0, by omega, rfl, Ext.refl _⟩
  case round =>
    obtain ⟨k, hk, rfl, hew⟩ := hrel
    by_cases hkn : k < n3
    · have q1 : (0 : Int) ≤ (k : Int) := by omega
      have q2 : (k : Int) ≤ (c3 : Int) := by omega
      have q3 : (k : Int) < (n3 : Int) := by omega
      go_wp2_with (first
        | (go_at_call 17; refine (dec_cut op h0 h1 A B M HB.out l3 hl3 A3 n3 c3 k hm3 hkn wr (R3.out.ext hew)).mono ?_; rintro e w5 ⟨rfl, he5⟩; unfold cmd0))
      go_roundw
      case rel => exact ⟨k + 1, by omega, by go_num, by (repeat (first | with_reducible exact Ext.refl _ | with_reducible assumption | with_reducible apply Ext.drew | with_reducible apply Ext.drewN | with_reducible apply Ext.alloc | (with_reducible refine Ext.setCell ?_ (by simp <;> omega) _) | (with_reducible refine Ext.trans ?_ (by with_reducible assumption))))⟩
      case measure => simp [intOf]; omega
    · obtain rfl : k = n3 := by omega
      go_wp2_with (first
        | (go_at_call 16; refine (size_g op h0 _ _ _ HB.out k HK.out _).mono ?_; rintro e w6 ⟨rfl, he6⟩))
      go_ret
      refine ⟨by simp, ?_⟩
      (repeat (first | with_reducible exact Ext.refl _ | with_reducible assumption | with_reducible apply Ext.drew | with_reducible apply Ext.drewN | with_reducible apply Ext.alloc | (with_reducible refine Ext.setCell ?_ (by simp <;> omega) _) | (with_reducible refine Ext.trans ?_ (by with_reducible assumption))))
end Go.Proofs.Ytiekicjloapepaa
