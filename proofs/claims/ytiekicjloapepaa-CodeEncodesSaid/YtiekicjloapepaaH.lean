/- A part of the proof of a law of roundel: contracts of functions and lemmas, each true as it stands; no condition beyond those that its theorems state. -/
import Derived.Test.YtiekicjloapepaaG
namespace Go.Proofs.Ytiekicjloapepaa
set_option linter.unusedSimpArgs false
set_option linter.unusedVariables false
open Go.RowKit

theorem pow_le {k : Nat} (h : k ≤ 4) : (256 : Int) ^ k ≤ 4294967296 := by
  obtain rfl | rfl | rfl | rfl | rfl : k = 0 ∨ k = 1 ∨ k = 2 ∨ k = 3 ∨ k = 4 := by omega
  all_goals decide

theorem take_int (A : Option Addr) (n c : Nat) (l : List Int) (K : Int) (hK0 : 0 ≤ K) (hK8 : K ≤ 8) (hkn : K ≤ n) (hnc : n ≤ c) (hc63 : c ≤ 9223372036854775807) (w : World) (hr : Rd w A n l) :
    Calls Try.prog 26 #[.slice A n c, .int .i64 K] w fun e w' => ∃ A' x, e = .returned (.tuple #[.int .u64 x, .slice A' (n - K.toNat) (c - K.toNat)]) ∧ Hid (x = beNum (l.take K.toNat)) ∧ 0 ≤ x ∧ (K ≤ 4 → x < 4294967296) ∧
      Rd w' A' (n - K.toNat) (l.drop K.toNat) ∧ Ext w w' := by
  obtain ⟨k, rfl⟩ := Int.eq_ofNat_of_zero_le hK0
  refine (take_any A n c l k (by omega) (by omega) hnc hc63 w hr).mono ?_
  rintro e w' ⟨rfl, he⟩
  have hb := beNum_bound k (l.take k) (by rw [List.length_take, hr.1]; omega) (fun x hx => hr.2.1 x (List.mem_of_mem_take hx))
  exact ⟨_, _, rfl, Lib.hid rfl, hb.1, fun h => Int.lt_of_lt_of_le hb.2 (pow_le (by omega)), (hr.cut k (by omega) hnc).ext he, he⟩

abbrev cmd0 : Value := .agg #[.int .u8 0, .int .i64 0, .int .i64 0, .int .u64 0]

theorem dec_0 (A : Option Addr) (c : Nat) (w : World) :
    Calls Try.prog 17 #[.slice A 0 c] w fun e w' => e = .returned (.tuple #[cmd0, .int .i64 0, .int .i64 1]) ∧ Ext w w' := by
  go_enter Try.func17, Try.ntmps17
  go_wp2
  refine bodyPost_ret (v := .tuple #[cmd0, .int .i64 0, .int .i64 1]) (by simp [results, Try.results17, go_sem]) rfl ⟨rfl, ?_⟩
  (repeat (first | with_reducible exact Ext.refl _ | with_reducible assumption | with_reducible apply Ext.drew | with_reducible apply Ext.drewN | with_reducible apply Ext.alloc | (with_reducible refine Ext.setCell ?_ (by simp <;> omega) _) | (with_reducible refine Ext.trans ?_ (by with_reducible assumption))))

theorem dec_bad (A : Option Addr) (n c : Nat) (l : List Int) (hn0 : 0 < n) (hn : n ≤ 1000) (w : World) (hr : Rd w A n l) (op : Nat) (hop : l.getD 0 0 = (op : Int)) (hbad : isOp op = false) :
    Calls Try.prog 17 #[.slice A n c] w fun e w' => e = .returned (.tuple #[cmd0, .int .i64 1, .int .i64 1]) ∧ Ext w w' := by
  obtain ⟨b, o, rfl, hbw, hcell⟩ := hr.2.2 hn0
  have h0 := hcell 0 hn0
  rw [hop] at h0
  simp only [Nat.add_zero] at h0
  clear hcell hop hr
  have hn0' : ((n : Int) == 0) = false := by simp; omega
  go_enter Try.func17, Try.ntmps17
  go_wp2_with (first | (go_at_call 23; refine (of_any _ _).mono ?_; rintro e w1 ⟨rfl, hb⟩; obtain ⟨hbc, hbf⟩ := Ext.cells hb; have hbz := Ext.sz hb; (try simp only [World.size_alloc, World.size_drew, World.heap_drewN, World.size_setCell] at hbz); have hbx0 : w.heap.size < w1.heap.size := (by omega); have hby0 : w.heap.size < w1.heap.size + 1 := (by omega); have hbp0 := fun o => hbc (w.heap.size) o (by first | omega | (simp only [World.size_alloc, World.size_drew, World.heap_drewN, World.size_setCell] <;> omega)); have hbq0 := fun o => hbf (w.heap.size) o (by first | omega | (simp only [World.size_alloc, World.size_drew, World.heap_drewN, World.size_setCell] <;> omega))))
  refine bodyPost_ret (v := .tuple #[cmd0, .int .i64 1, .int .i64 1]) (by simp [results, Try.results17, go_sem, *]) rfl ⟨rfl, ?_⟩
  (repeat (first | with_reducible exact Ext.refl _ | with_reducible assumption | with_reducible apply Ext.drew | with_reducible apply Ext.drewN | with_reducible apply Ext.alloc | (with_reducible refine Ext.setCell ?_ (by simp <;> omega) _) | (with_reducible refine Ext.trans ?_ (by with_reducible assumption))))

theorem dec_short (A : Option Addr) (n c : Nat) (l : List Int) (hn0 : 0 < n) (hn : n ≤ 1000) (w : World) (hr : Rd w A n l) (op : Nat) (hop : l.getD 0 0 = (op : Int)) (hgood : isOp op = true) (hs : (n : Int) < 1 + wa op + wb op + wm op) :
    Calls Try.prog 17 #[.slice A n c] w fun e w' => e = .returned (.tuple #[cmd0, .int .i64 n, .int .i64 1]) ∧ Ext w w' := by
  obtain ⟨b, o, rfl, hbw, hcell⟩ := hr.2.2 hn0
  have h0 := hcell 0 hn0
  rw [hop] at h0
  simp only [Nat.add_zero] at h0
  clear hcell hop hr
  have hn0' : ((n : Int) == 0) = false := by simp; omega
  have ha := wa_in op
  have hb' := wb_in op
  have hm := wm_in op
  go_enter Try.func17, Try.ntmps17
  go_wp2_with (first | (go_at_call 23; refine (of_any _ _).mono ?_; rintro e w1 ⟨rfl, hb⟩; obtain ⟨hbc, hbf⟩ := Ext.cells hb; have hbz := Ext.sz hb; (try simp only [World.size_alloc, World.size_drew, World.heap_drewN, World.size_setCell] at hbz); have hbx0 : w.heap.size < w1.heap.size := (by omega); have hby0 : w.heap.size < w1.heap.size + 1 := (by omega); have hbp0 := fun o => hbc (w.heap.size) o (by first | omega | (simp only [World.size_alloc, World.size_drew, World.heap_drewN, World.size_setCell] <;> omega)); have hbq0 := fun o => hbf (w.heap.size) o (by first | omega | (simp only [World.size_alloc, World.size_drew, World.heap_drewN, World.size_setCell] <;> omega))) | (go_at_call 25; refine (size_any _ _ _ _ (by omega) (by omega) (by omega) _).mono ?_; rintro e w2 ⟨rfl, hd⟩; obtain ⟨hdc, hdf⟩ := Ext.cells hd; have hdz := Ext.sz hd; (try simp only [World.size_alloc, World.size_drew, World.heap_drewN, World.size_setCell] at hdz); have hdx0 : w.heap.size < w2.heap.size := (by omega); have hdy0 : w.heap.size < w2.heap.size + 1 := (by omega); have hdp0 := fun o => hdc (w.heap.size) o (by first | omega | (simp only [World.size_alloc, World.size_drew, World.heap_drewN, World.size_setCell] <;> omega)); have hdq0 := fun o => hdf (w.heap.size) o (by first | omega | (simp only [World.size_alloc, World.size_drew, World.heap_drewN, World.size_setCell] <;> omega))))
  refine bodyPost_ret (v := .tuple #[cmd0, .int .i64 n, .int .i64 1]) (by simp [results, Try.results17, go_sem, *]) rfl ⟨rfl, ?_⟩
  (repeat (first | with_reducible exact Ext.refl _ | with_reducible assumption | with_reducible apply Ext.drew | with_reducible apply Ext.drewN | with_reducible apply Ext.alloc | (with_reducible refine Ext.setCell ?_ (by simp <;> omega) _) | (with_reducible refine Ext.trans ?_ (by with_reducible assumption))))

def fA (op : Nat) (l : List Int) : Int := beNum ((l.drop 1).take (wa op).toNat)
def fB (op : Nat) (l : List Int) : Int := beNum (((l.drop 1).drop (wa op).toNat).take (wb op).toNat)
def fM (op : Nat) (l : List Int) : Int := beNum ((((l.drop 1).drop (wa op).toNat).drop (wb op).toNat).take (wm op).toNat)

set_option maxHeartbeats 1000000 in
theorem dec_ok (A : Option Addr) (n c : Nat) (l : List Int) (hn0 : 0 < n) (hn : n ≤ 1000) (hnc : n ≤ c) (hc63 : c ≤ 9223372036854775807) (w : World) (hr : Rd w A n l) (op : Nat) (hop : l.getD 0 0 = (op : Int)) (hgood : isOp op = true) (hs : 1 + wa op + wb op + wm op ≤ n) :
    Calls Try.prog 17 #[.slice A n c] w fun e w' => e = .returned (.tuple #[.agg #[.int .u8 op, .int .i64 (fA op l), .int .i64 (fB op l), .int .u64 (fM op l)], .int .i64 (1 + wa op + wb op + wm op), .int .i64 0]) ∧ Ext w w' := by
  have hrk := Lib.hid hr
  obtain ⟨b, o, rfl, hbw, hcell⟩ := hr.2.2 hn0
  have h0 := hcell 0 hn0
  rw [hop] at h0
  simp only [Nat.add_zero] at h0
  clear hcell hop hr
  have hn0' : ((n : Int) == 0) = false := by simp; omega
  have ha := wa_in op
  have hb' := wb_in op
  have hm := wm_in op
  go_enter Try.func17, Try.ntmps17
  go_wp2_with (first | (go_at_call 23; refine (of_any _ _).mono ?_; rintro e w1 ⟨rfl, hb⟩; obtain ⟨hbc, hbf⟩ := Ext.cells hb; have hbz := Ext.sz hb; (try simp only [World.size_alloc, World.size_drew, World.heap_drewN, World.size_setCell] at hbz); have hbx0 : w.heap.size < w1.heap.size := (by omega); have hby0 : w.heap.size < w1.heap.size + 1 := (by omega); have hbp0 := fun o => hbc (w.heap.size) o (by first | omega | (simp only [World.size_alloc, World.size_drew, World.heap_drewN, World.size_setCell] <;> omega)); have hbq0 := fun o => hbf (w.heap.size) o (by first | omega | (simp only [World.size_alloc, World.size_drew, World.heap_drewN, World.size_setCell] <;> omega))) | (go_at_call 25; refine (size_any _ _ _ _ (by omega) (by omega) (by omega) _).mono ?_; rintro e w2 ⟨rfl, hd⟩; obtain ⟨hdc, hdf⟩ := Ext.cells hd; have hdz := Ext.sz hd; (try simp only [World.size_alloc, World.size_drew, World.heap_drewN, World.size_setCell] at hdz); have hdx0 : w.heap.size < w2.heap.size := (by omega); have hdy0 : w.heap.size < w2.heap.size + 1 := (by omega); have hdp0 := fun o => hdc (w.heap.size) o (by first | omega | (simp only [World.size_alloc, World.size_drew, World.heap_drewN, World.size_setCell] <;> omega)); have hdq0 := fun o => hdf (w.heap.size) o (by first | omega | (simp only [World.size_alloc, World.size_drew, World.heap_drewN, World.size_setCell] <;> omega)); have hdx1 : w1.heap.size < w2.heap.size := (by omega); have hdy1 : w1.heap.size < w2.heap.size + 1 := (by omega); have hdp1 := fun o => hdc (w1.heap.size) o (by first | omega | (simp only [World.size_alloc, World.size_drew, World.heap_drewN, World.size_setCell] <;> omega)); have hdq1 := fun o => hdf (w1.heap.size) o (by first | omega | (simp only [World.size_alloc, World.size_drew, World.heap_drewN, World.size_setCell] <;> omega))))
  have g1 : w2.cell? ⟨w1.heap.size, 1, none⟩ = some (.int .i64 (wa op)) := by rw [hdp1]; simp
  have g2 : w2.cell? ⟨w1.heap.size, 2, none⟩ = some (.int .i64 (wb op)) := by rw [hdp1]; simp
  have g3 : w2.cell? ⟨w1.heap.size, 3, none⟩ = some (.int .i64 (wm op)) := by rw [hdp1]; simp
  have g0 : w2.cell? ⟨w1.heap.size, 0, none⟩ = some (.string (wd op)) := by rw [hdp1]; simp
  have z0 : w2.cell? ⟨w.heap.size, 0, none⟩ = some (.int .u8 0) := by rw [hdp0]; simp [go_sem, hbp0, hbx0]
  have z1 : w2.cell? ⟨w.heap.size, 1, none⟩ = some (.int .i64 0) := by rw [hdp0]; simp [go_sem, hbp0, hbx0]
  have z2 : w2.cell? ⟨w.heap.size, 2, none⟩ = some (.int .i64 0) := by rw [hdp0]; simp [go_sem, hbp0, hbx0]
  have z3 : w2.cell? ⟨w.heap.size, 3, none⟩ = some (.int .u64 0) := by rw [hdp0]; simp [go_sem, hbp0, hbx0]
  have zf : ∀ o, w2.frozen? ⟨w.heap.size, o, none⟩ = false := by intro o; rw [hdq0]; simp [go_sem, hbq0, hbx0]
  have ew2 : Ext w w2 := by
    (repeat (first | with_reducible exact Ext.refl _ | with_reducible assumption | with_reducible apply Ext.drew | with_reducible apply Ext.drewN | with_reducible apply Ext.alloc | (with_reducible refine Ext.setCell ?_ (by simp <;> omega) _) | (with_reducible refine Ext.trans ?_ (by with_reducible assumption))))
  have hop1 : 1 ≤ op := by have : 1 ≤ op ∧ op ≤ 19 := by simpa [isOp] using hgood
                           exact this.1
  have hc1 : ¬ c = 1 := by
    intro e
    subst e
    have : wa op + wb op + wm op ≤ 0 := by omega
    have h4 : wa op = 1 ∨ wa op = 4 := by
      have h5 : 1 ≤ op ∧ op ≤ 19 := by simpa [isOp] using hgood
      rcases op_cases h5.1 h5.2 with h | h | h | h | h | h | h | h | h | h | h | h | h | h | h | h | h | h | h <;> subst h <;> simp [wa]
    omega
  have hr1 : Rd w2 (some ⟨b, o + 1, none⟩) (n - 1) (l.drop 1) := by
    have := (hrk.out.cut 1 (by omega) hnc).ext ew2
    rw [if_neg hc1] at this
    simpa [Addr.add_mid] using this
  have hr1d : Rd w2.drew (some ⟨b, o + 1, none⟩) (n - 1) (l.drop 1) := hr1
  have ka : wa op ≤ ((n - 1 : Nat) : Int) := by omega
  have kb : wb op ≤ ((n - 1 - (wa op).toNat : Nat) : Int) := by omega
  have km : wm op ≤ ((n - 1 - (wa op).toNat - (wb op).toNat : Nat) : Int) := by omega
  have ca : n - 1 ≤ c - 1 := by omega
  have cb : n - 1 - (wa op).toNat ≤ c - 1 - (wa op).toNat := by omega
  have cm : n - 1 - (wa op).toNat - (wb op).toNat ≤ c - 1 - (wa op).toNat - (wb op).toNat := by omega
  have ha0 : 0 ≤ wa op := by omega
  have ha8 : wa op ≤ 8 := by omega
  have hb0 : 0 ≤ wb op := by omega
  have hb8 : wb op ≤ 8 := by omega
  have ha4 : wa op ≤ 4 := by omega
  have hb4 : wb op ≤ 4 := by omega
  have hm0 : 0 ≤ wm op := by omega
  have hm8 : wm op ≤ 8 := by omega
  have za : c - 1 ≤ 9223372036854775807 := by omega
  have zb : c - 1 - (wa op).toNat ≤ 9223372036854775807 := by omega
  have zm : c - 1 - (wa op).toNat - (wb op).toNat ≤ 9223372036854775807 := by omega
  have n1 : (1 : Int) ≤ (n : Int) := by omega
  have hbw2 : b < w2.heap.size := by omega
  have h02 : w2.cell? ⟨b, o, none⟩ = some (.int .u8 op) := by rw [Ext.cell ew2 (p := ⟨b, o, none⟩) hbw]; exact h0
  clear hbc hbf hbp0 hbq0 hdc hdf hdp0 hdq0 hdp1 hdq1 ha hb' hm
  go_region_held3 (fun w' => w'.cell? ⟨w1.heap.size, 1, none⟩ = some (.int .i64 (wa op))) (go_keep)
    (first
      | (go_at_call 26; (with_reducible refine (take_int (some ⟨b, o + 1, none⟩) (n - 1) (c - 1) (l.drop 1) (wa op) ha0 ha8 ka ca za w2.drew hr1d).mono ?_); rintro e w3 ⟨A3, x3, rfl, hx3, x30, x34, hr3, he3⟩; obtain ⟨he3c, he3f⟩ := Ext.cells he3; have he3z := Ext.sz he3; (try simp only [World.size_alloc, World.size_drew, World.heap_drewN, World.size_setCell] at he3z); have he3x0 : w.heap.size < w3.heap.size := (by omega); have he3y0 : w.heap.size < w3.heap.size + 1 := (by omega); have he3p0 := fun o => he3c (w.heap.size) o (by first | omega | (simp only [World.size_alloc, World.size_drew, World.heap_drewN, World.size_setCell] <;> omega)); have he3q0 := fun o => he3f (w.heap.size) o (by first | omega | (simp only [World.size_alloc, World.size_drew, World.heap_drewN, World.size_setCell] <;> omega)); have he3x1 : w1.heap.size < w3.heap.size := (by omega); have he3y1 : w1.heap.size < w3.heap.size + 1 := (by omega); have he3p1 := fun o => he3c (w1.heap.size) o (by first | omega | (simp only [World.size_alloc, World.size_drew, World.heap_drewN, World.size_setCell] <;> omega)); have he3q1 := fun o => he3f (w1.heap.size) o (by first | omega | (simp only [World.size_alloc, World.size_drew, World.heap_drewN, World.size_setCell] <;> omega)); have he3x2 : b < w3.heap.size := (by omega); have he3y2 : b < w3.heap.size + 1 := (by omega); have he3p2 := fun o => he3c (b) o (by first | omega | (simp only [World.size_alloc, World.size_drew, World.heap_drewN, World.size_setCell] <;> omega)); have he3q2 := fun o => he3f (b) o (by first | omega | (simp only [World.size_alloc, World.size_drew, World.heap_drewN, World.size_setCell] <;> omega))))
  go_wp2_with fail
  refine (take_int A3 (n - 1 - (wa op).toNat) (c - 1 - (wa op).toNat) _ (wb op) hb0 hb8 kb cb zb w3 hr3).mono ?_
  rintro e w4 ⟨A4, x4, rfl, hx4, x40, x44, hr4, he4⟩
  obtain ⟨he4c, he4f⟩ := Ext.cells he4; have he4z := Ext.sz he4; (try simp only [World.size_alloc, World.size_drew, World.heap_drewN, World.size_setCell] at he4z); have he4x0 : w.heap.size < w4.heap.size := (by omega); have he4y0 : w.heap.size < w4.heap.size + 1 := (by omega); have he4p0 := fun o => he4c (w.heap.size) o (by first | omega | (simp only [World.size_alloc, World.size_drew, World.heap_drewN, World.size_setCell] <;> omega)); have he4q0 := fun o => he4f (w.heap.size) o (by first | omega | (simp only [World.size_alloc, World.size_drew, World.heap_drewN, World.size_setCell] <;> omega)); have he4x1 : w1.heap.size < w4.heap.size := (by omega); have he4y1 : w1.heap.size < w4.heap.size + 1 := (by omega); have he4p1 := fun o => he4c (w1.heap.size) o (by first | omega | (simp only [World.size_alloc, World.size_drew, World.heap_drewN, World.size_setCell] <;> omega)); have he4q1 := fun o => he4f (w1.heap.size) o (by first | omega | (simp only [World.size_alloc, World.size_drew, World.heap_drewN, World.size_setCell] <;> omega)); have he4x2 : b < w4.heap.size := (by omega); have he4y2 : b < w4.heap.size + 1 := (by omega); have he4p2 := fun o => he4c (b) o (by first | omega | (simp only [World.size_alloc, World.size_drew, World.heap_drewN, World.size_setCell] <;> omega)); have he4q2 := fun o => he4f (b) o (by first | omega | (simp only [World.size_alloc, World.size_drew, World.heap_drewN, World.size_setCell] <;> omega))
  go_wp2_with fail
  refine (take_int A4 (n - 1 - (wa op).toNat - (wb op).toNat) (c - 1 - (wa op).toNat - (wb op).toNat) _ (wm op) hm0 hm8 km cm zm w4 hr4).mono ?_
  rintro e w5 ⟨A5, x5, rfl, hx5, x50, x54, hr5, he5⟩
  obtain ⟨he5c, he5f⟩ := Ext.cells he5; have he5z := Ext.sz he5; (try simp only [World.size_alloc, World.size_drew, World.heap_drewN, World.size_setCell] at he5z); have he5x0 : w.heap.size < w5.heap.size := (by omega); have he5y0 : w.heap.size < w5.heap.size + 1 := (by omega); have he5p0 := fun o => he5c (w.heap.size) o (by first | omega | (simp only [World.size_alloc, World.size_drew, World.heap_drewN, World.size_setCell] <;> omega)); have he5q0 := fun o => he5f (w.heap.size) o (by first | omega | (simp only [World.size_alloc, World.size_drew, World.heap_drewN, World.size_setCell] <;> omega)); have he5x1 : w1.heap.size < w5.heap.size := (by omega); have he5y1 : w1.heap.size < w5.heap.size + 1 := (by omega); have he5p1 := fun o => he5c (w1.heap.size) o (by first | omega | (simp only [World.size_alloc, World.size_drew, World.heap_drewN, World.size_setCell] <;> omega)); have he5q1 := fun o => he5f (w1.heap.size) o (by first | omega | (simp only [World.size_alloc, World.size_drew, World.heap_drewN, World.size_setCell] <;> omega)); have he5x2 : b < w5.heap.size := (by omega); have he5y2 : b < w5.heap.size + 1 := (by omega); have he5p2 := fun o => he5c (b) o (by first | omega | (simp only [World.size_alloc, World.size_drew, World.heap_drewN, World.size_setCell] <;> omega)); have he5q2 := fun o => he5f (b) o (by first | omega | (simp only [World.size_alloc, World.size_drew, World.heap_drewN, World.size_setCell] <;> omega))
  have x3u : x3 < 4294967296 := x34 ha4
  have x4u : x4 < 4294967296 := x44 hb4
  have wx3 : IntKind.i64.wrap x3 = x3 := IntWalk.i64_in _ (by omega)
  have wx4 : IntKind.i64.wrap x4 = x4 := IntWalk.i64_in _ (by omega)
  have ew5 : Ext w2 w5 := ((Ext.refl _).drew.trans he3).trans he4 |>.trans he5
  have k0 : w5.cell? ⟨w1.heap.size, 0, none⟩ = some (.string (wd op)) := (ew5.cell (p := ⟨w1.heap.size, 0, none⟩) hdx1).trans g0
  have k1 : w5.cell? ⟨w1.heap.size, 1, none⟩ = some (.int .i64 (wa op)) := (ew5.cell (p := ⟨w1.heap.size, 1, none⟩) hdx1).trans g1
  have k2 : w5.cell? ⟨w1.heap.size, 2, none⟩ = some (.int .i64 (wb op)) := (ew5.cell (p := ⟨w1.heap.size, 2, none⟩) hdx1).trans g2
  have k3 : w5.cell? ⟨w1.heap.size, 3, none⟩ = some (.int .i64 (wm op)) := (ew5.cell (p := ⟨w1.heap.size, 3, none⟩) hdx1).trans g3
  have kb' : w5.cell? ⟨b, o, none⟩ = some (.int .u8 op) := (ew5.cell (p := ⟨b, o, none⟩) hbw2).trans h02
  have r0 := (ew5.cell (p := ⟨w.heap.size, 0, none⟩) hdx0).trans z0
  have r1 := (ew5.cell (p := ⟨w.heap.size, 1, none⟩) hdx0).trans z1
  have r2 := (ew5.cell (p := ⟨w.heap.size, 2, none⟩) hdx0).trans z2
  have r3 := (ew5.cell (p := ⟨w.heap.size, 3, none⟩) hdx0).trans z3
  have rf : ∀ o, w5.frozen? ⟨w.heap.size, o, none⟩ = false := fun o => ((ew5.cells).2 _ o hdx0).trans (zf o)
  have hsz : w1.heap.size < w5.heap.size := by omega
  have nb1 : ¬ b = w.heap.size := by omega
  have nb2 : ¬ w.heap.size = b := by omega
  have nb3 : ¬ w1.heap.size = w.heap.size := by omega
  have nb4 : ¬ w.heap.size = w1.heap.size := by omega
  have hsz0 : w.heap.size < w5.heap.size := by omega
  clear he3c he3f he3p0 he3q0 he3p1 he3q1 he3p2 he3q2 he4c he4f he4p0 he4q0 he4p1 he4q1 he4p2 he4q2 he5c he5f he5p0 he5q0 he5p1 he5q1 he5p2 he5q2 g0 g1 g2 g3 z0 z1 z2 z3 zf
  go_wp2_with fail
  go_region_held3 (fun w' => w'.cell? ⟨b, o, none⟩ = some (.int .u8 op) ∧ w'.cell? ⟨w1.heap.size, 0, none⟩ = some (.string (wd op)) ∧ w'.cell? ⟨w1.heap.size, 1, none⟩ = some (.int .i64 (wa op)) ∧ w'.cell? ⟨w1.heap.size, 2, none⟩ = some (.int .i64 (wb op)) ∧ w'.cell? ⟨w1.heap.size, 3, none⟩ = some (.int .i64 (wm op))) (go_keep)
    (first
      | (go_at_call 25; refine (size_any _ _ _ _ ⟨ha0, ha8⟩ ⟨hb0, hb8⟩ ⟨hm0, hm8⟩ _).mono ?_; rintro e w6 ⟨rfl, he6⟩; obtain ⟨he6c, he6f⟩ := Ext.cells he6; have he6z := Ext.sz he6; (try simp only [World.size_alloc, World.size_drew, World.heap_drewN, World.size_setCell] at he6z); have he6x0 : w.heap.size < w6.heap.size := (by omega); have he6y0 : w.heap.size < w6.heap.size + 1 := (by omega); have he6p0 := fun o => he6c (w.heap.size) o (by first | omega | (simp only [World.size_alloc, World.size_drew, World.heap_drewN, World.size_setCell] <;> omega)); have he6q0 := fun o => he6f (w.heap.size) o (by first | omega | (simp only [World.size_alloc, World.size_drew, World.heap_drewN, World.size_setCell] <;> omega)); have he6x1 : w1.heap.size < w6.heap.size := (by omega); have he6y1 : w1.heap.size < w6.heap.size + 1 := (by omega); have he6p1 := fun o => he6c (w1.heap.size) o (by first | omega | (simp only [World.size_alloc, World.size_drew, World.heap_drewN, World.size_setCell] <;> omega)); have he6q1 := fun o => he6f (w1.heap.size) o (by first | omega | (simp only [World.size_alloc, World.size_drew, World.heap_drewN, World.size_setCell] <;> omega)); have he6x2 : b < w6.heap.size := (by omega); have he6y2 : b < w6.heap.size + 1 := (by omega); have he6p2 := fun o => he6c (b) o (by first | omega | (simp only [World.size_alloc, World.size_drew, World.heap_drewN, World.size_setCell] <;> omega)); have he6q2 := fun o => he6f (b) o (by first | omega | (simp only [World.size_alloc, World.size_drew, World.heap_drewN, World.size_setCell] <;> omega))))
  have eA := Lib.hid (show fA op l = x3 from hx3.out.symm)
  have eB := Lib.hid (show fB op l = x4 from hx4.out.symm)
  have eM := Lib.hid (show fM op l = x5 from hx5.out.symm)
  have e6 : Ext w w6 := ((ew2.trans ew5).drew).trans he6
  go_wp2
  refine bodyPost_ret (v := .tuple #[.agg #[.int .u8 op, .int .i64 x3, .int .i64 x4, .int .u64 x5], .int .i64 (1 + wa op + wb op + wm op), .int .i64 0]) (by simp [results, Try.results17, go_sem, *]) rfl ⟨by rw [eA.out, eB.out, eM.out], ?_⟩
  exact (((e6.setCell (Nat.le_refl _) _).setCell (Nat.le_refl _) _).setCell (Nat.le_refl _) _).setCell (Nat.le_refl _) _
end Go.Proofs.Ytiekicjloapepaa
