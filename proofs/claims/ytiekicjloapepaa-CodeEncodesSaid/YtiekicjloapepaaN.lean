/- A part of the proof of a law of roundel: contracts of functions and lemmas, each true as it stands; no condition beyond those that its theorems state. -/
import Derived.Test.YtiekicjloapepaaM
namespace Go.Proofs.Ytiekicjloapepaa
set_option linter.unusedSimpArgs false
set_option linter.unusedVariables false
open Go.RowKit

/-- May the document's command be? -/
def rG (op A B M : Int) : Bool := decide (1 ≤ op ∧ op ≤ 19) && goodB op.toNat A B M
theorem rgood_any (op A B M : Int) (w : World) :
    Calls Try.prog 9 #[.agg #[.int .i64 op, .int .i64 A, .int .i64 B, .int .u64 M]] w fun e w' => e = .returned (.bool (rG op A B M)) ∧ Ext w w' := by
  by_cases h : 1 ≤ op ∧ op ≤ 19
  · obtain ⟨n, rfl⟩ := Int.eq_ofNat_of_zero_le (show 0 ≤ op by omega)
    rw [show rG n A B M = goodB n A B M by simp only [rG, h, and_self, decide_true, Bool.true_and, Int.toNat_natCast]]
    exact rgood_in n (by simp [isOp]; omega) A B M w
  · rw [show rG op A B M = false by simp [rG, h]]
    exact rgood_out op A B M (by omega) w
theorem rG_true {op A B M : Int} (h : rG op A B M = true) : ∃ n : Nat, op = n ∧ n ≤ 19 ∧ goodB n A B M = true := by
  simp only [rG, Bool.and_eq_true, decide_eq_true_eq] at h
  obtain ⟨n, rfl⟩ := Int.eq_ofNat_of_zero_le (show 0 ≤ op by omega)
  exact ⟨n, rfl, by omega, by simpa using h.2⟩

theorem beL_inj : ∀ (k N N' : Nat), beL k N = beL k N' → N % 256 ^ k = N' % 256 ^ k
  | 0, N, N', _ => by simp [Nat.mod_one]
  | k + 1, N, N', h => by
    simp only [beL, List.cons.injEq] at h
    have ih := beL_inj k N N' h.2
    have h1 : N / 256 ^ k % 256 = N' / 256 ^ k % 256 := by exact_mod_cast h.1
    rw [Nat.pow_succ, Nat.mod_mul, Nat.mod_mul, ih, h1]

theorem field_inj {K x y : Int} (hx : 0 ≤ x ∧ x < 256 ^ K.toNat) (hy : 0 ≤ y ∧ y < 256 ^ K.toNat) (h : beL K.toNat x.toNat = beL K.toNat y.toNat) : x = y := by
  obtain ⟨a, rfl⟩ := Int.eq_ofNat_of_zero_le hx.1
  obtain ⟨b, rfl⟩ := Int.eq_ofNat_of_zero_le hy.1
  have e := beL_inj _ _ _ h
  simp only [Int.toNat_natCast] at e
  have ha : a < 256 ^ K.toNat := by
    have := hx.2
    rw [show (256 : Int) = ((256 : Nat) : Int) from rfl, ← Int.natCast_pow] at this
    exact Int.ofNat_lt.1 this
  have hb : b < 256 ^ K.toNat := by
    have := hy.2
    rw [show (256 : Int) = ((256 : Nat) : Int) from rfl, ← Int.natCast_pow] at this
    exact Int.ofNat_lt.1 this
  rw [Nat.mod_eq_of_lt ha, Nat.mod_eq_of_lt hb] at e
  rw [e]

theorem fits_pow {x K : Int} (h : fitsB x K = true) : 0 ≤ x ∧ x < 256 ^ K.toNat := by simpa [fitsB] using h
theorem good_m {n : Nat} {M : Int} (hM0 : 0 ≤ M) (hM : M < 18446744073709551616) (h : (decide (0 < wm n) || decide (M = 0)) = true) : 0 ≤ M ∧ M < 256 ^ (wm n).toNat := by
  rcases wm_in n with e | e
  · rw [e] at h ⊢
    simp at h
    simp [h]
  · rw [e]
    exact ⟨hM0, by simpa using hM⟩

theorem encL_inj {n : Nat} {A B M A' B' M' : Int} (hM0 : 0 ≤ M) (hM : M < 18446744073709551616) (hM0' : 0 ≤ M') (hM' : M' < 18446744073709551616)
    (h : goodB n A B M = true) (h' : goodB n A' B' M' = true) (e : encL n A B M = encL n A' B' M') : A = A' ∧ B = B' ∧ M = M' := by
  simp only [goodB, Bool.and_eq_true] at h h'
  obtain ⟨⟨⟨_, h1⟩, h2⟩, h3⟩ := h
  obtain ⟨⟨⟨_, k1⟩, k2⟩, k3⟩ := h'
  unfold encL at e
  obtain ⟨e1, e4⟩ := List.append_inj e (by simp [beL_length])
  obtain ⟨e0, e3⟩ := List.append_inj e1 (by simp [beL_length])
  obtain ⟨_, e2⟩ := List.append_inj e0 (by simp)
  exact ⟨field_inj (fits_pow h1) (fits_pow k1) e2, field_inj (fits_pow h2) (fits_pow k2) e3, field_inj (good_m hM0 hM h3) (good_m hM0' hM' k3) e4⟩

theorem encL_apart {n m : Nat} {A B M A' B' M' : Int} (hM0 : 0 ≤ M) (hM : M < 18446744073709551616) (hM0' : 0 ≤ M') (hM' : M' < 18446744073709551616)
    (h : goodB n A B M = true) (h' : goodB m A' B' M' = true) (hne : ¬ (n = m ∧ A = A' ∧ B = B' ∧ M = M')) (k : Nat) (hk : k = (encL n A B M).length ∨ k = (encL m A' B' M').length)
    (hk1 : k ≤ (encL n A B M).length) (hk2 : k ≤ (encL m A' B' M').length) : (encL n A B M).take k ≠ (encL m A' B' M').take k := by
  intro e
  have l1 := encL_length n A B M
  have l2 := encL_length m A' B' M'
  have hk0 : 0 < k := by omega
  have hnm : n = m := by
    have e2 := congrArg (·[0]?) e
    simp only [List.getElem?_take_of_lt hk0] at e2
    simp [encL] at e2
    omega
  subst hnm
  rw [List.take_of_length_le (by omega), List.take_of_length_le (by omega)] at e
  exact hne ⟨rfl, encL_inj hM0 hM hM0' hM' h h' e⟩

theorem str_ne {l m : List Int} (hl : ∀ x ∈ l, 0 ≤ x ∧ x ≤ 255) (hm : ∀ x ∈ m, 0 ≤ x ∧ x ≤ 255) (h : l ≠ m) : ((strOf l).toList == (strOf m).toList) = false := by
  rw [beq_eq_false_iff_ne]
  intro e
  rw [ByteArray.toList_eq, ByteArray.toList_eq] at e
  exact h (strOf_inj hl hm (ByteArray.ext (Array.toList_inj.1 e)))

theorem real_int (op : Int) (h0 : 0 ≤ op) (h : op ≤ 255) (A B M : Int) (w : World) :
    Calls Try.prog 11 #[.agg #[.int .i64 op, .int .i64 A, .int .i64 B, .int .u64 M]] w
      fun e w' => e = .returned (.agg #[.int .u8 op, .int .i64 A, .int .i64 B, .int .u64 M]) ∧ Ext w w' := by
  obtain ⟨n, rfl⟩ := Int.eq_ofNat_of_zero_le h0
  exact real_any n (by omega) A B M w

/-- A good command's bytes, in memory of the call's own. -/
theorem enc_int (op : Int) (h0 : 0 ≤ op) (h255 : op ≤ 255) (A B M : Int) (hM0 : 0 ≤ M) (hM : M < 18446744073709551616) (h : goodB op.toNat A B M = true) (w : World) :
    Calls Try.prog 10 #[.agg #[.int .u8 op, .int .i64 A, .int .i64 B, .int .u64 M]] w
      fun e w' => ∃ A' n c l, e = .returned (.tuple #[.slice A' n c, .int .i64 0]) ∧ Hid (l = encL op.toNat A B M) ∧ n ≤ c ∧ c ≤ 9223372036854775807 ∧ 1 ≤ n ∧ n ≤ 20 ∧ Rd w' A' n l ∧ OwnB w' w.heap.size (.slice A' n c) l ∧ Ext w w' := by
  obtain ⟨n, rfl⟩ := Int.eq_ofNat_of_zero_le h0
  refine (enc_good n A B M hM0 hM (by simpa using h) w).mono ?_
  rintro e w' ⟨v, rfl, ho, he⟩
  have hb := encL_bytes n (by omega) A B M
  obtain ⟨A', c, rfl, h1, h2, h3⟩ := own_rd ho hb
  have hl := encL_length n A B M
  have ha := wa_in n
  have hb' := wb_in n
  have hm := wm_in n
  exact ⟨A', _, c, _, rfl, Lib.hid (by simp), h1, h2, by omega, by omega, h3, ho, he⟩

end Go.Proofs.Ytiekicjloapepaa
