/- A part of the proof of a law of roundel: contracts of functions and lemmas, each true as it stands; no condition beyond those that its theorems state. -/
import Derived.Test.YtiekicjloapepaaC
namespace Go.Proofs.Ytiekicjloapepaa
set_option linter.unusedSimpArgs false
set_option linter.unusedVariables false
open Go.RowKit

def goodB (n : Nat) (A B M : Int) : Bool := isOp n && fitsB A (wa n) && fitsB B (wb n) && (decide (0 < wm n) || decide (M = 0))

theorem wa_fit (n : Nat) : wa n = 0 ∨ wa n = 1 ∨ wa n = 2 ∨ wa n = 4 := by rcases wa_in n with h | h | h <;> simp [h]
theorem wb_fit (n : Nat) : wb n = 0 ∨ wb n = 1 ∨ wb n = 2 ∨ wb n = 4 := by rcases wb_in n with h | h | h <;> simp [h]

set_option maxHeartbeats 1000000 in
theorem good_any (n : Nat) (A B M : Int) (w : World) :
    Calls Try.prog 20 #[.agg #[.int .u8 (n : Int), .int .i64 A, .int .i64 B, .int .u64 M]] w fun e w' => e = .returned (.bool (goodB n A B M)) ∧ Ext w w' := by
  cases h0 : isOp n with
  | false =>
    rw [show goodB n A B M = false by simp [goodB, h0]]
    go_enter Try.func20, Try.ntmps20
    go_wp2_with (first | (go_at_call 23; refine (of_any _ _).mono ?_; rintro e w1 ⟨rfl, hb⟩; obtain ⟨hbc, hbf⟩ := Ext.cells hb; have hbz := Ext.sz hb; (try simp only [World.size_alloc, World.size_drew, World.heap_drewN, World.size_setCell] at hbz); have hbx0 : w.heap.size < w1.heap.size := (by omega); have hby0 : w.heap.size < w1.heap.size + 1 := (by omega); have hbp0 := fun o => hbc (w.heap.size) o (by first | omega | (simp only [World.size_alloc, World.size_drew, World.heap_drewN, World.size_setCell] <;> omega)); have hbq0 := fun o => hbf (w.heap.size) o (by first | omega | (simp only [World.size_alloc, World.size_drew, World.heap_drewN, World.size_setCell] <;> omega))))
    go_ret
    refine ⟨rfl, ?_⟩
    (repeat (first | with_reducible exact Ext.refl _ | with_reducible assumption | with_reducible apply Ext.drew | with_reducible apply Ext.drewN | with_reducible apply Ext.alloc | (with_reducible refine Ext.setCell ?_ (by simp <;> omega) _) | (with_reducible refine Ext.trans ?_ (by with_reducible assumption))))
  | true =>
  cases h1 : fitsB A (wa n) with
  | false =>
    rw [show goodB n A B M = false by simp [goodB, h1]]
    go_enter Try.func20, Try.ntmps20
    go_wp2_with (first | (go_at_call 23; refine (of_any _ _).mono ?_; rintro e w1 ⟨rfl, hb⟩; obtain ⟨hbc, hbf⟩ := Ext.cells hb; have hbz := Ext.sz hb; (try simp only [World.size_alloc, World.size_drew, World.heap_drewN, World.size_setCell] at hbz); have hbx0 : w.heap.size < w1.heap.size := (by omega); have hby0 : w.heap.size < w1.heap.size + 1 := (by omega); have hbp0 := fun o => hbc (w.heap.size) o (by first | omega | (simp only [World.size_alloc, World.size_drew, World.heap_drewN, World.size_setCell] <;> omega)); have hbq0 := fun o => hbf (w.heap.size) o (by first | omega | (simp only [World.size_alloc, World.size_drew, World.heap_drewN, World.size_setCell] <;> omega))) | (go_at_call 28; refine (fits_any _ _ (wa_fit _) _).mono ?_; rintro e w2 ⟨rfl, rfl⟩))
    go_ret
    refine ⟨rfl, ?_⟩
    (repeat (first | with_reducible exact Ext.refl _ | with_reducible assumption | with_reducible apply Ext.drew | with_reducible apply Ext.drewN | with_reducible apply Ext.alloc | (with_reducible refine Ext.setCell ?_ (by simp <;> omega) _) | (with_reducible refine Ext.trans ?_ (by with_reducible assumption))))
  | true =>
  cases h2 : fitsB B (wb n) with
  | false =>
    rw [show goodB n A B M = false by simp [goodB, h2]]
    go_enter Try.func20, Try.ntmps20
    go_wp2_with (first | (go_at_call 23; refine (of_any _ _).mono ?_; rintro e w1 ⟨rfl, hb⟩; obtain ⟨hbc, hbf⟩ := Ext.cells hb; have hbz := Ext.sz hb; (try simp only [World.size_alloc, World.size_drew, World.heap_drewN, World.size_setCell] at hbz); have hbx0 : w.heap.size < w1.heap.size := (by omega); have hby0 : w.heap.size < w1.heap.size + 1 := (by omega); have hbp0 := fun o => hbc (w.heap.size) o (by first | omega | (simp only [World.size_alloc, World.size_drew, World.heap_drewN, World.size_setCell] <;> omega)); have hbq0 := fun o => hbf (w.heap.size) o (by first | omega | (simp only [World.size_alloc, World.size_drew, World.heap_drewN, World.size_setCell] <;> omega))) | (go_at_call_of 28 (wa n); refine (fits_any _ _ (wa_fit _) _).mono ?_; rintro e w2 ⟨rfl, rfl⟩) | (go_at_call_of 28 (wb n); refine (fits_any _ _ (wb_fit _) _).mono ?_; rintro e w2 ⟨rfl, rfl⟩))
    go_ret
    refine ⟨rfl, ?_⟩
    (repeat (first | with_reducible exact Ext.refl _ | with_reducible assumption | with_reducible apply Ext.drew | with_reducible apply Ext.drewN | with_reducible apply Ext.alloc | (with_reducible refine Ext.setCell ?_ (by simp <;> omega) _) | (with_reducible refine Ext.trans ?_ (by with_reducible assumption))))
  | true =>
  rcases wm_in n with h3 | h3
  · by_cases h4 : M = 0
    · subst h4
      rw [show goodB n A B 0 = true by simp [goodB, h0, h1, h2]]
      go_enter Try.func20, Try.ntmps20
      go_wp2_with (first | (go_at_call 23; refine (of_any _ _).mono ?_; rintro e w1 ⟨rfl, hb⟩; obtain ⟨hbc, hbf⟩ := Ext.cells hb; have hbz := Ext.sz hb; (try simp only [World.size_alloc, World.size_drew, World.heap_drewN, World.size_setCell] at hbz); have hbx0 : w.heap.size < w1.heap.size := (by omega); have hby0 : w.heap.size < w1.heap.size + 1 := (by omega); have hbp0 := fun o => hbc (w.heap.size) o (by first | omega | (simp only [World.size_alloc, World.size_drew, World.heap_drewN, World.size_setCell] <;> omega)); have hbq0 := fun o => hbf (w.heap.size) o (by first | omega | (simp only [World.size_alloc, World.size_drew, World.heap_drewN, World.size_setCell] <;> omega))) | (go_at_call_of 28 (wa n); refine (fits_any _ _ (wa_fit _) _).mono ?_; rintro e w2 ⟨rfl, rfl⟩) | (go_at_call_of 28 (wb n); refine (fits_any _ _ (wb_fit _) _).mono ?_; rintro e w2 ⟨rfl, rfl⟩))
      go_ret
      refine ⟨rfl, ?_⟩
      (repeat (first | with_reducible exact Ext.refl _ | with_reducible assumption | with_reducible apply Ext.drew | with_reducible apply Ext.drewN | with_reducible apply Ext.alloc | (with_reducible refine Ext.setCell ?_ (by simp <;> omega) _) | (with_reducible refine Ext.trans ?_ (by with_reducible assumption))))
    · have h5 : (M == 0) = false := by simp [h4]
      rw [show goodB n A B M = false by simp [goodB, h3, h4]]
      go_enter Try.func20, Try.ntmps20
      go_wp2_with (first | (go_at_call 23; refine (of_any _ _).mono ?_; rintro e w1 ⟨rfl, hb⟩; obtain ⟨hbc, hbf⟩ := Ext.cells hb; have hbz := Ext.sz hb; (try simp only [World.size_alloc, World.size_drew, World.heap_drewN, World.size_setCell] at hbz); have hbx0 : w.heap.size < w1.heap.size := (by omega); have hby0 : w.heap.size < w1.heap.size + 1 := (by omega); have hbp0 := fun o => hbc (w.heap.size) o (by first | omega | (simp only [World.size_alloc, World.size_drew, World.heap_drewN, World.size_setCell] <;> omega)); have hbq0 := fun o => hbf (w.heap.size) o (by first | omega | (simp only [World.size_alloc, World.size_drew, World.heap_drewN, World.size_setCell] <;> omega))) | (go_at_call_of 28 (wa n); refine (fits_any _ _ (wa_fit _) _).mono ?_; rintro e w2 ⟨rfl, rfl⟩) | (go_at_call_of 28 (wb n); refine (fits_any _ _ (wb_fit _) _).mono ?_; rintro e w2 ⟨rfl, rfl⟩))
      go_ret
      refine ⟨rfl, ?_⟩
      (repeat (first | with_reducible exact Ext.refl _ | with_reducible assumption | with_reducible apply Ext.drew | with_reducible apply Ext.drewN | with_reducible apply Ext.alloc | (with_reducible refine Ext.setCell ?_ (by simp <;> omega) _) | (with_reducible refine Ext.trans ?_ (by with_reducible assumption))))
  · rw [show goodB n A B M = true by simp [goodB, h0, h1, h2, h3]]
    go_enter Try.func20, Try.ntmps20
    go_wp2_with (first | (go_at_call 23; refine (of_any _ _).mono ?_; rintro e w1 ⟨rfl, hb⟩; obtain ⟨hbc, hbf⟩ := Ext.cells hb; have hbz := Ext.sz hb; (try simp only [World.size_alloc, World.size_drew, World.heap_drewN, World.size_setCell] at hbz); have hbx0 : w.heap.size < w1.heap.size := (by omega); have hby0 : w.heap.size < w1.heap.size + 1 := (by omega); have hbp0 := fun o => hbc (w.heap.size) o (by first | omega | (simp only [World.size_alloc, World.size_drew, World.heap_drewN, World.size_setCell] <;> omega)); have hbq0 := fun o => hbf (w.heap.size) o (by first | omega | (simp only [World.size_alloc, World.size_drew, World.heap_drewN, World.size_setCell] <;> omega))) | (go_at_call_of 28 (wa n); refine (fits_any _ _ (wa_fit _) _).mono ?_; rintro e w2 ⟨rfl, rfl⟩) | (go_at_call_of 28 (wb n); refine (fits_any _ _ (wb_fit _) _).mono ?_; rintro e w2 ⟨rfl, rfl⟩))
    go_ret
    refine ⟨rfl, ?_⟩
    (repeat (first | with_reducible exact Ext.refl _ | with_reducible assumption | with_reducible apply Ext.drew | with_reducible apply Ext.drewN | with_reducible apply Ext.alloc | (with_reducible refine Ext.setCell ?_ (by simp <;> omega) _) | (with_reducible refine Ext.trans ?_ (by with_reducible assumption))))
end Go.Proofs.Ytiekicjloapepaa
