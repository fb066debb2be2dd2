/- A part of the proof of a law of roundel: contracts of functions and lemmas, each true as it stands; no condition beyond those that its theorems state. -/
import Derived.Test.YtiekicjloapepaaQ
namespace Go.Proofs.Ytiekicjloapepaa
set_option linter.unusedSimpArgs false
set_option linter.unusedVariables false
open Go.RowKit

/-- append([]byte{}, b...): what comes behind it reads as b. -/
theorem OwnB.nil_lit (w : World) (t : TypeId) (ht : t = 5) : OwnB (w.alloc (.cells #[] t)) w.heap.size (.slice (some ⟨w.heap.size, 0, none⟩) 0 0) [] := by
  subst ht
  exact World.ownsRow_lit w #[] 0 (Nat.le_refl _) (by unfold maxLen; omega) rfl

theorem dec_0' (A : Option Addr) (n c : Nat) (h : Hid (n = 0)) (w : World) : Calls Try.prog 17 #[.slice A n c] w fun e w' => e = .returned (.tuple #[cmd0, .int .i64 n, .int .i64 1]) ∧ Ext w w' := by
  have h := h.out
  subst h
  exact dec_0 A c w
theorem rdec_0' (A : Option Addr) (n c : Nat) (h : Hid (n = 0)) (w : World) : Calls Try.prog 18 #[.slice A n c] w fun e w' => e = .returned (.tuple #[c0, .int .i64 n, .bool false]) ∧ Ext w w' := by
  have h := h.out
  subst h
  exact rdec_0 A c w

theorem decodes_far (A : Option Addr) (n c : Nat) (hn : 300 < n) (hc63 : n ≤ 9223372036854775807) (w : World) :
    Calls Try.prog 5 #[.slice A n c] w fun e w' => e = .returned (.bool true) ∧ Ext w w' := by
  have hn' : (300 : Int) < (n : Int) := by omega
  go_enter Try.func5, Try.ntmps5
  go_wp2_with (first | (go_at_call 8; refine (awake_any _).mono ?_; rintro e w1 ⟨rfl, he1⟩; obtain ⟨he1c, he1f⟩ := Ext.cells he1; have he1z := Ext.sz he1; (try simp only [World.size_alloc, World.size_drew, World.heap_drewN, World.size_setCell] at he1z)))
  go_ret
  refine ⟨rfl, ?_⟩
  (repeat (first | with_reducible exact Ext.refl _ | with_reducible assumption | with_reducible apply Ext.drew | with_reducible apply Ext.drewN | with_reducible apply Ext.alloc | (with_reducible refine Ext.setCell ?_ (by simp <;> omega) _) | (with_reducible refine Ext.trans ?_ (by with_reducible assumption))))

set_option maxHeartbeats 2000000 in
theorem decodes_0 (A : Option Addr) (n c : Nat) (l : List Int) (hAc : A = none → c = 0) (hn : n ≤ 300) (hnc : n ≤ c) (hc63 : c ≤ 9223372036854775807) (w : World) (hr : Rd w A n l) (h0 : Hid (n = 0)) :
    Calls Try.prog 5 #[.slice A n c] w fun e w' => e = .returned (.bool true) ∧ Ext w w' := by
  have hn' : (n : Int) ≤ 300 := by omega
  have hlen := Lib.hid hr.1
  go_enter Try.func5, Try.ntmps5
  go_wp2_with (first
    | (go_at_call 8; refine (awake_any _).mono ?_; rintro e w1 ⟨rfl, he1⟩; obtain ⟨he1c, he1f⟩ := Ext.cells he1; have he1z := Ext.sz he1; (try simp only [World.size_alloc, World.size_drew, World.heap_drewN, World.size_setCell] at he1z))
    | (at_builtin; refine wpList_append_rd rfl (.tmp 20) (.tmp 21) rfl w1.heap.size _ [] rfl (OwnB.nil_lit w1 5 rfl) A n c l rfl hAc ((hr.ext he1).ext ((Ext.refl _).alloc _)) ?_ (by simp) ?_; (simp; omega); intro v2 w2 o2 b2))
  rw [List.nil_append] at o2
  obtain ⟨A2, c2, hv2, hnc2, hc2, hr2⟩ := own_rd o2 hr.2.1
  rw [hlen.out] at hv2 hnc2 hr2
  rw [hv2]
  clear hv2 o2
  have ew2 : Ext w w2 := Ext.step (he1.alloc _) b2 he1.sz
  refine calls_abs (fun W => Rd W A n l ∧ Rd W A2 n l ∧ Ext w W) ⟨hr.ext ew2, hr2, ew2⟩ ?_
  clear b2 he1c he1f hr2 hr ew2
  rintro w3 ⟨hr, hr2, ew3⟩
  refine (dec_0' A2 n c2 h0 w3).mono ?_
  rintro e w4 ⟨rfl, he4⟩
  have hr4 := hr.ext he4
  have e4 := ew3.trans he4
  clear hr hr2
  go_wp2_with fail
  refine (rdec_0' A n c h0 _).mono ?_
  rintro e w5 ⟨rfl, he5⟩
  obtain ⟨he5c, he5f⟩ := Ext.cells he5; have he5z := Ext.sz he5; (try simp only [World.size_alloc, World.size_drew, World.heap_drewN, World.size_setCell] at he5z); have he5x0 : w4.heap.size < w5.heap.size := (by omega); have he5y0 : w4.heap.size < w5.heap.size + 1 := (by omega); have he5p0 := fun o => he5c (w4.heap.size) o (by first | omega | (simp only [World.size_alloc, World.size_drew, World.heap_drewN, World.size_setCell] <;> omega)); have he5q0 := fun o => he5f (w4.heap.size) o (by first | omega | (simp only [World.size_alloc, World.size_drew, World.heap_drewN, World.size_setCell] <;> omega))
  go_wp2
  go_ret
  refine ⟨rfl, ?_⟩
  (repeat (first | with_reducible exact Ext.refl _ | with_reducible assumption | with_reducible apply Ext.drew | with_reducible apply Ext.drewN | with_reducible apply Ext.alloc | (with_reducible refine Ext.setCell ?_ (by simp <;> omega) _) | (with_reducible refine Ext.trans ?_ (by with_reducible assumption))))

set_option maxHeartbeats 2000000 in
theorem decodes_bad (A : Option Addr) (n c : Nat) (l : List Int) (hAc : A = none → c = 0) (hn : n ≤ 300) (hnc : n ≤ c) (hc63 : c ≤ 9223372036854775807) (w : World) (hr : Rd w A n l) (op : Nat) (hop : l.getD 0 0 = (op : Int)) (hn0 : 0 < n) (hbad : isOp op = false) :
    Calls Try.prog 5 #[.slice A n c] w fun e w' => e = .returned (.bool true) ∧ Ext w w' := by
  have hn' : (n : Int) ≤ 300 := by omega
  have hlen := Lib.hid hr.1
  go_enter Try.func5, Try.ntmps5
  go_wp2_with (first
    | (go_at_call 8; refine (awake_any _).mono ?_; rintro e w1 ⟨rfl, he1⟩; obtain ⟨he1c, he1f⟩ := Ext.cells he1; have he1z := Ext.sz he1; (try simp only [World.size_alloc, World.size_drew, World.heap_drewN, World.size_setCell] at he1z))
    | (at_builtin; refine wpList_append_rd rfl (.tmp 20) (.tmp 21) rfl w1.heap.size _ [] rfl (OwnB.nil_lit w1 5 rfl) A n c l rfl hAc ((hr.ext he1).ext ((Ext.refl _).alloc _)) ?_ (by simp) ?_; (simp; omega); intro v2 w2 o2 b2))
  rw [List.nil_append] at o2
  obtain ⟨A2, c2, hv2, hnc2, hc2, hr2⟩ := own_rd o2 hr.2.1
  rw [hlen.out] at hv2 hnc2 hr2
  rw [hv2]
  clear hv2 o2
  have ew2 : Ext w w2 := Ext.step (he1.alloc _) b2 he1.sz
  refine calls_abs (fun W => Rd W A n l ∧ Rd W A2 n l ∧ Ext w W) ⟨hr.ext ew2, hr2, ew2⟩ ?_
  clear b2 he1c he1f hr2 hr ew2
  rintro w3 ⟨hr, hr2, ew3⟩
  refine (dec_bad A2 n c2 l hn0 (by omega) w3 hr2 op hop hbad).mono ?_
  rintro e w4 ⟨rfl, he4⟩
  have hr4 := hr.ext he4
  have e4 := ew3.trans he4
  clear hr hr2
  go_wp2_with fail
  refine (rdec_bad A n c l hn0 (by omega) _ (hr4.ext ((Ext.refl _).alloc _)) op hop hbad).mono ?_
  rintro e w5 ⟨rfl, he5⟩
  obtain ⟨he5c, he5f⟩ := Ext.cells he5; have he5z := Ext.sz he5; (try simp only [World.size_alloc, World.size_drew, World.heap_drewN, World.size_setCell] at he5z); have he5x0 : w4.heap.size < w5.heap.size := (by omega); have he5y0 : w4.heap.size < w5.heap.size + 1 := (by omega); have he5p0 := fun o => he5c (w4.heap.size) o (by first | omega | (simp only [World.size_alloc, World.size_drew, World.heap_drewN, World.size_setCell] <;> omega)); have he5q0 := fun o => he5f (w4.heap.size) o (by first | omega | (simp only [World.size_alloc, World.size_drew, World.heap_drewN, World.size_setCell] <;> omega))
  go_wp2
  go_ret
  refine ⟨rfl, ?_⟩
  (repeat (first | with_reducible exact Ext.refl _ | with_reducible assumption | with_reducible apply Ext.drew | with_reducible apply Ext.drewN | with_reducible apply Ext.alloc | (with_reducible refine Ext.setCell ?_ (by simp <;> omega) _) | (with_reducible refine Ext.trans ?_ (by with_reducible assumption))))

set_option maxHeartbeats 2000000 in
theorem decodes_short (A : Option Addr) (n c : Nat) (l : List Int) (hAc : A = none → c = 0) (hn : n ≤ 300) (hnc : n ≤ c) (hc63 : c ≤ 9223372036854775807) (w : World) (hr : Rd w A n l) (op : Nat) (hop : l.getD 0 0 = (op : Int)) (hn0 : 0 < n) (hgood : isOp op = true) (hs : (n : Int) < 1 + wa op + wb op + wm op) :
    Calls Try.prog 5 #[.slice A n c] w fun e w' => e = .returned (.bool true) ∧ Ext w w' := by
  have hn' : (n : Int) ≤ 300 := by omega
  have hlen := Lib.hid hr.1
  go_enter Try.func5, Try.ntmps5
  go_wp2_with (first
    | (go_at_call 8; refine (awake_any _).mono ?_; rintro e w1 ⟨rfl, he1⟩; obtain ⟨he1c, he1f⟩ := Ext.cells he1; have he1z := Ext.sz he1; (try simp only [World.size_alloc, World.size_drew, World.heap_drewN, World.size_setCell] at he1z))
    | (at_builtin; refine wpList_append_rd rfl (.tmp 20) (.tmp 21) rfl w1.heap.size _ [] rfl (OwnB.nil_lit w1 5 rfl) A n c l rfl hAc ((hr.ext he1).ext ((Ext.refl _).alloc _)) ?_ (by simp) ?_; (simp; omega); intro v2 w2 o2 b2))
  rw [List.nil_append] at o2
  obtain ⟨A2, c2, hv2, hnc2, hc2, hr2⟩ := own_rd o2 hr.2.1
  rw [hlen.out] at hv2 hnc2 hr2
  rw [hv2]
  clear hv2 o2
  have ew2 : Ext w w2 := Ext.step (he1.alloc _) b2 he1.sz
  refine calls_abs (fun W => Rd W A n l ∧ Rd W A2 n l ∧ Ext w W) ⟨hr.ext ew2, hr2, ew2⟩ ?_
  clear b2 he1c he1f hr2 hr ew2
  rintro w3 ⟨hr, hr2, ew3⟩
  refine (dec_short A2 n c2 l hn0 (by omega) w3 hr2 op hop hgood hs).mono ?_
  rintro e w4 ⟨rfl, he4⟩
  have hr4 := hr.ext he4
  have e4 := ew3.trans he4
  clear hr hr2
  go_wp2_with fail
  refine (rdec_short A n c l hn0 (by omega) _ (hr4.ext ((Ext.refl _).alloc _)) op hop hgood hs).mono ?_
  rintro e w5 ⟨rfl, he5⟩
  obtain ⟨he5c, he5f⟩ := Ext.cells he5; have he5z := Ext.sz he5; (try simp only [World.size_alloc, World.size_drew, World.heap_drewN, World.size_setCell] at he5z); have he5x0 : w4.heap.size < w5.heap.size := (by omega); have he5y0 : w4.heap.size < w5.heap.size + 1 := (by omega); have he5p0 := fun o => he5c (w4.heap.size) o (by first | omega | (simp only [World.size_alloc, World.size_drew, World.heap_drewN, World.size_setCell] <;> omega)); have he5q0 := fun o => he5f (w4.heap.size) o (by first | omega | (simp only [World.size_alloc, World.size_drew, World.heap_drewN, World.size_setCell] <;> omega))
  go_wp2
  go_ret
  refine ⟨rfl, ?_⟩
  (repeat (first | with_reducible exact Ext.refl _ | with_reducible assumption | with_reducible apply Ext.drew | with_reducible apply Ext.drewN | with_reducible apply Ext.alloc | (with_reducible refine Ext.setCell ?_ (by simp <;> omega) _) | (with_reducible refine Ext.trans ?_ (by with_reducible assumption))))

end Go.Proofs.Ytiekicjloapepaa
