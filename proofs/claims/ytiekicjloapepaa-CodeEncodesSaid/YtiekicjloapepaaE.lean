/- A part of the proof of a law of roundel: contracts of functions and lemmas, each true as it stands; no condition beyond those that its theorems state. -/
import Derived.Test.YtiekicjloapepaaD
namespace Go.Proofs.Ytiekicjloapepaa
set_option linter.unusedSimpArgs false
set_option linter.unusedVariables false
open Go.RowKit

theorem rgood_out (op A B M : Int) (h : op < 1 ∨ 19 < op) (w : World) :
    Calls Try.prog 9 #[.agg #[.int .i64 op, .int .i64 A, .int .i64 B, .int .u64 M]] w fun e w' => e = .returned (.bool false) ∧ Ext w w' := by
  by_cases h1 : op < 1
  · clear h
    go_enter Try.func9, Try.ntmps9
    go_wp2
    go_ret
    refine ⟨rfl, ?_⟩
    (repeat (first | with_reducible exact Ext.refl _ | with_reducible assumption | with_reducible apply Ext.drew | with_reducible apply Ext.drewN | with_reducible apply Ext.alloc | (with_reducible refine Ext.setCell ?_ (by simp <;> omega) _) | (with_reducible refine Ext.trans ?_ (by with_reducible assumption))))
  · have h2 : 19 < op := by omega
    clear h
    go_enter Try.func9, Try.ntmps9
    go_wp2
    go_ret
    refine ⟨rfl, ?_⟩
    (repeat (first | with_reducible exact Ext.refl _ | with_reducible assumption | with_reducible apply Ext.drew | with_reducible apply Ext.drewN | with_reducible apply Ext.alloc | (with_reducible refine Ext.setCell ?_ (by simp <;> omega) _) | (with_reducible refine Ext.trans ?_ (by with_reducible assumption))))

set_option maxHeartbeats 1000000 in
theorem rgood_in (n : Nat) (h0 : isOp n = true) (A B M : Int) (w : World) :
    Calls Try.prog 9 #[.agg #[.int .i64 (n : Int), .int .i64 A, .int .i64 B, .int .u64 M]] w fun e w' => e = .returned (.bool (goodB n A B M)) ∧ Ext w w' := by
  have hn : 1 ≤ n ∧ n ≤ 19 := by simpa [isOp] using h0
  have hn1 := hn.1
  have hn2 := hn.2
  clear hn
  cases h1 : fitsB A (wa n) with
  | false =>
    rw [show goodB n A B M = false by simp [goodB, h1]]
    go_enter Try.func9, Try.ntmps9
    go_wp2_with (first | (go_at_call 13; refine (widths_any _ h0 _).mono ?_; rintro e w2 ⟨rfl, rfl⟩) | (go_at_call 22; refine (rfits_any _ _ (wa_fit _) _).mono ?_; rintro e w2 ⟨rfl, rfl⟩))
    go_ret
    refine ⟨rfl, ?_⟩
    (repeat (first | with_reducible exact Ext.refl _ | with_reducible assumption | with_reducible apply Ext.drew | with_reducible apply Ext.drewN | with_reducible apply Ext.alloc | (with_reducible refine Ext.setCell ?_ (by simp <;> omega) _) | (with_reducible refine Ext.trans ?_ (by with_reducible assumption))))
  | true =>
  cases h2 : fitsB B (wb n) with
  | false =>
    rw [show goodB n A B M = false by simp [goodB, h2]]
    go_enter Try.func9, Try.ntmps9
    go_wp2_with (first | (go_at_call 13; refine (widths_any _ h0 _).mono ?_; rintro e w2 ⟨rfl, rfl⟩) | (go_at_call_of 22 (wa n); refine (rfits_any _ _ (wa_fit _) _).mono ?_; rintro e w2 ⟨rfl, rfl⟩) | (go_at_call_of 22 (wb n); refine (rfits_any _ _ (wb_fit _) _).mono ?_; rintro e w2 ⟨rfl, rfl⟩))
    go_ret
    refine ⟨rfl, ?_⟩
    (repeat (first | with_reducible exact Ext.refl _ | with_reducible assumption | with_reducible apply Ext.drew | with_reducible apply Ext.drewN | with_reducible apply Ext.alloc | (with_reducible refine Ext.setCell ?_ (by simp <;> omega) _) | (with_reducible refine Ext.trans ?_ (by with_reducible assumption))))
  | true =>
  rcases wm_in n with h3 | h3
  · by_cases h4 : M = 0
    · subst h4
      rw [show goodB n A B 0 = true by simp [goodB, h0, h1, h2]]
      go_enter Try.func9, Try.ntmps9
      go_wp2_with (first | (go_at_call 13; refine (widths_any _ h0 _).mono ?_; rintro e w2 ⟨rfl, rfl⟩) | (go_at_call_of 22 (wa n); refine (rfits_any _ _ (wa_fit _) _).mono ?_; rintro e w2 ⟨rfl, rfl⟩) | (go_at_call_of 22 (wb n); refine (rfits_any _ _ (wb_fit _) _).mono ?_; rintro e w2 ⟨rfl, rfl⟩))
      go_ret
      refine ⟨rfl, ?_⟩
      (repeat (first | with_reducible exact Ext.refl _ | with_reducible assumption | with_reducible apply Ext.drew | with_reducible apply Ext.drewN | with_reducible apply Ext.alloc | (with_reducible refine Ext.setCell ?_ (by simp <;> omega) _) | (with_reducible refine Ext.trans ?_ (by with_reducible assumption))))
    · have h5 : (M == 0) = false := by simp [h4]
      rw [show goodB n A B M = false by simp [goodB, h3, h4]]
      go_enter Try.func9, Try.ntmps9
      go_wp2_with (first | (go_at_call 13; refine (widths_any _ h0 _).mono ?_; rintro e w2 ⟨rfl, rfl⟩) | (go_at_call_of 22 (wa n); refine (rfits_any _ _ (wa_fit _) _).mono ?_; rintro e w2 ⟨rfl, rfl⟩) | (go_at_call_of 22 (wb n); refine (rfits_any _ _ (wb_fit _) _).mono ?_; rintro e w2 ⟨rfl, rfl⟩))
      go_ret
      refine ⟨rfl, ?_⟩
      (repeat (first | with_reducible exact Ext.refl _ | with_reducible assumption | with_reducible apply Ext.drew | with_reducible apply Ext.drewN | with_reducible apply Ext.alloc | (with_reducible refine Ext.setCell ?_ (by simp <;> omega) _) | (with_reducible refine Ext.trans ?_ (by with_reducible assumption))))
  · rw [show goodB n A B M = true by simp [goodB, h0, h1, h2, h3]]
    go_enter Try.func9, Try.ntmps9
    go_wp2_with (first | (go_at_call 13; refine (widths_any _ h0 _).mono ?_; rintro e w2 ⟨rfl, rfl⟩) | (go_at_call_of 22 (wa n); refine (rfits_any _ _ (wa_fit _) _).mono ?_; rintro e w2 ⟨rfl, rfl⟩) | (go_at_call_of 22 (wb n); refine (rfits_any _ _ (wb_fit _) _).mono ?_; rintro e w2 ⟨rfl, rfl⟩))
    go_ret
    refine ⟨rfl, ?_⟩
    (repeat (first | with_reducible exact Ext.refl _ | with_reducible assumption | with_reducible apply Ext.drew | with_reducible apply Ext.drewN | with_reducible apply Ext.alloc | (with_reducible refine Ext.setCell ?_ (by simp <;> omega) _) | (with_reducible refine Ext.trans ?_ (by with_reducible assumption))))

/-- A slice of bytes that the call itself made. -/
def OwnB (w : World) (B : Nat) (v : Value) (l : List Int) : Prop := w.ownsRow B 5 1 v l.length (l.map (Value.int .u8))
/-- A number's bytes, the highest first. -/
def beL : Nat → Nat → List Int
  | 0, _ => []
  | k + 1, N => ((N / 256 ^ k % 256 : Nat) : Int) :: beL k N
theorem beL_length (k N : Nat) : (beL k N).length = k := by induction k <;> simp [beL, *]
theorem info5 : (Try.prog.info? 5).map (fun i => (i.zero, i.size, i.bytes)) = some (some (.int .u8 0), 1, 1) := by kernel_rfl

theorem byte_at (N m : Nat) : (N : Int) / 2 ^ (8 * m) % 256 = ((N / 256 ^ m % 256 : Nat) : Int) := by
  have e : (2 : Int) ^ (8 * m) = ((256 ^ m : Nat) : Int) := by
    rw [show (256 : Nat) = 2 ^ 8 from rfl, ← Nat.pow_mul]
    simp
  rw [e]
  simp

set_option maxHeartbeats 1000000 in
theorem put_any (B : Nat) (v : Value) (l : List Int) (N k : Nat) (hk : k ≤ 8) (hN : N < 18446744073709551616) (hl : l.length ≤ 1000) (w : World) (hown : OwnB w B v l) (hB : B ≤ w.heap.size) :
    Calls Try.prog 24 #[v, .int .u64 (N : Int), .int .i64 (k : Int)] w fun e w' => ∃ v', e = .returned v' ∧ OwnB w' B v' (l ++ beL k N) ∧ w.grownBy w' v.ownBlock ∧ SameOrNew w v v' := by
  go_enter Try.func24, Try.ntmps24
  go_wp2
  go_loopw [0, 7] (fun b i wr => ∃ (j : Nat) (l' : List Int), i = .int .i64 ((j : Int) - 1) ∧ j ≤ k ∧ OwnB wr B b l' ∧ l' ++ beL j N = l ++ beL k N ∧ w.grownBy wr v.ownBlock ∧ SameOrNew w v b)
    (fun _ i _ => (intOf i + 1).toNat)
  case atStart => exact ⟨k, l, rfl, Nat.le_refl _, hown, rfl, World.grownBy.refl _ _, SameOrNew.refl _ _⟩
  case round =>
    obtain ⟨j, l', rfl, hjk, hown', hlist, hgr, hat⟩ := hrel
    have HL := Lib.hid hlist
    clear hlist hown
    cases j with
    | zero =>
      have e : ((0 : Nat) : Int) - 1 = -1 := by omega
      rw [e]
      clear e
      go_wp2
      go_ret
      have hlist := HL.out
      simp only [beL, List.append_nil] at hlist
      subst hlist
      exact ⟨_, rfl, hown', hgr, hat⟩
    | succ m =>
      have e : ((m + 1 : Nat) : Int) - 1 = (m : Int) := by omega
      rw [e]
      clear e
      have hlen : l'.length ≤ 1008 := by
        have h := congrArg List.length HL.out
        simp only [List.length_append, beL_length] at h
        omega
      have hBr : B ≤ wr.heap.size := Nat.le_trans hB hgr.size
      go_wp2_with (first
        | (at_builtin; refine wpList_append_one rfl (.tmp 14) (.tmp 20) 27 rfl B 5 (.int .u8 0) 1 Try.underlying27 info5 rfl u0 l'.length (l'.map (Value.int .u8)) (.int .u8 ((N : Int) / 2 ^ (8 * m) % 256)) rfl hown' rfl rfl (by unfold maxLen; omega) (by omega) hBr ?_; intro v1 w1 hown1 hg1 hat1))
      go_roundw
      case rel =>
        refine ⟨m, l' ++ [((N / 256 ^ m % 256 : Nat) : Int)], by go_num, by omega, ?_, ?_, grown_trans hgr hat hg1, hat.trans hgr.size hat1⟩
        · rw [byte_at] at hown1
          unfold OwnB
          simpa using hown1
        · have hlist := HL.out
          simp only [beL] at hlist
          simpa using hlist
      case measure => simp [intOf]
end Go.Proofs.Ytiekicjloapepaa
