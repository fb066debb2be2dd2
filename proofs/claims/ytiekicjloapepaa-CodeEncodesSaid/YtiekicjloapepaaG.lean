/- A part of the proof of a law of roundel: contracts of functions and lemmas, each true as it stands; no condition beyond those that its theorems state. -/
import Derived.Test.YtiekicjloapepaaF
namespace Go.Proofs.Ytiekicjloapepaa
set_option linter.unusedSimpArgs false
set_option linter.unusedVariables false
open Go.RowKit

/-- The slice of n elements at A reads as the bytes l. -/
def Rd (w : World) (A : Option Addr) (n : Nat) (l : List Int) : Prop :=
  l.length = n ∧ (∀ x ∈ l, 0 ≤ x ∧ x ≤ 255) ∧ (0 < n → ∃ b o, A = some ⟨b, o, none⟩ ∧ b < w.heap.size ∧ ∀ j, j < n → w.cell? ⟨b, o + j, none⟩ = some (.int .u8 (l.getD j 0)))

theorem Rd.ext {w w' : World} {A : Option Addr} {n : Nat} {l : List Int} (h : Rd w A n l) (he : Ext w w') : Rd w' A n l := by
  refine ⟨h.1, h.2.1, fun hn => ?_⟩
  obtain ⟨b, o, rfl, hb, hc⟩ := h.2.2 hn
  exact ⟨b, o, rfl, Nat.lt_of_lt_of_le hb he.sz, fun j hj => (he.cell (p := ⟨b, o + j, none⟩) hb).trans (hc j hj)⟩

theorem Rd.pre {w : World} {A : Option Addr} {n : Nat} {l : List Int} (h : Rd w A n l) (k : Nat) (hk : k ≤ n) : Rd w A k (l.take k) := by
  refine ⟨by rw [List.length_take, h.1]; omega, fun x hx => h.2.1 x (List.mem_of_mem_take hx), fun hn => ?_⟩
  obtain ⟨b, o, rfl, hb, hc⟩ := h.2.2 (by omega)
  refine ⟨b, o, rfl, hb, fun j hj => ?_⟩
  rw [hc j (by omega)]
  simp [List.getD, List.getElem?_take_of_lt hj]

theorem Rd.cut {w : World} {A : Option Addr} {n c : Nat} {l : List Int} (h : Rd w A n l) (k : Nat) (hk : k ≤ n) (hc : n ≤ c) : Rd w (if c = k then A else A.map (·.add k)) (n - k) (l.drop k) := by
  refine ⟨by rw [List.length_drop, h.1], fun x hx => h.2.1 x (List.mem_of_mem_drop hx), fun hn => ?_⟩
  obtain ⟨b, o, rfl, hb, hcell⟩ := h.2.2 (by omega)
  rw [if_neg (by omega)]
  refine ⟨b, o + k, ?_, hb, fun j hj => ?_⟩
  · simp [Addr.add_mid]
  · rw [Nat.add_assoc, hcell (k + j) (by omega)]
    simp [List.getD]

def beNum (l : List Int) : Int := l.foldl (fun n x => n * 256 + x) 0

theorem beNum_snoc (l : List Int) (x : Int) : beNum (l ++ [x]) = beNum l * 256 + x := by simp [beNum]
theorem beNum_bound : ∀ (k : Nat) (l : List Int), l.length = k → (∀ x ∈ l, 0 ≤ x ∧ x ≤ 255) → 0 ≤ beNum l ∧ beNum l < 256 ^ k
  | 0, l, hl, _ => by
    have : l = [] := List.eq_nil_of_length_eq_zero hl
    subst this
    simp [beNum]
  | k + 1, l, hl, h => by
    have hne : l ≠ [] := by intro e; subst e; simp at hl
    obtain ⟨m, x, rfl⟩ : ∃ m x, l = m ++ [x] := ⟨l.dropLast, l.getLast hne, (List.dropLast_concat_getLast hne).symm⟩
    have hm : m.length = k := by simpa using hl
    have ih := beNum_bound k m hm (fun y hy => h y (by simp [hy]))
    have hx := h x (by simp)
    rw [beNum_snoc, Int.pow_succ]
    omega

theorem take_snoc (l : List Int) (k : Nat) (h : k < l.length) : l.take (k + 1) = l.take k ++ [l.getD k 0] := by
  rw [List.take_succ_eq_append_getElem h]
  simp [List.getD, List.getElem?_eq_getElem h]

theorem p256 {k : Nat} (h : k ≤ 7) : (256 : Int) ^ k ≤ 72057594037927936 := by
  obtain rfl | rfl | rfl | rfl | rfl | rfl | rfl | rfl : k = 0 ∨ k = 1 ∨ k = 2 ∨ k = 3 ∨ k = 4 ∨ k = 5 ∨ k = 6 ∨ k = 7 := by omega
  all_goals decide

set_option maxHeartbeats 1000000 in
theorem read_any (A : Option Addr) (n c : Nat) (l : List Int) (hn : n ≤ 8) (w : World) (hr : Rd w A n l) :
    Calls Try.prog 27 #[.slice A n c] w fun e w' => e = .returned (.int .u64 (beNum l)) ∧ w = w' := by
  have hln := hr.1
  go_enter Try.func27, Try.ntmps27
  go_wp2
  go_loop [3, 7] (fun s i => ∃ k : Nat, k ≤ n ∧ i = .int .i64 k ∧ s = .int .u64 (beNum (l.take k))) (fun _ i => n - (intOf i).toNat)
  case atStart => exact ⟨0, Nat.zero_le _, rfl, rfl⟩
  case round =>
    obtain ⟨k, hk, rfl, rfl⟩ := hrel
    have hb := beNum_bound k (l.take k) (by simp; omega) (fun x hx => hr.2.1 x (List.mem_of_mem_take hx))
    by_cases hlt : k < n
    · obtain ⟨b, o, rfl, hbw, hcell⟩ := hr.2.2 (by omega)
      have hck := hcell k hlt
      have hx := hr.2.1 (l.getD k 0) (by simp [List.getD, List.getElem?_eq_getElem (show k < l.length by omega)])
      obtain ⟨x, hxd⟩ : ∃ x, x = l.getD k 0 := ⟨_, rfl⟩
      rw [← hxd] at hck hx
      obtain ⟨N, hN⟩ : ∃ N, N = beNum (l.take k) := ⟨_, rfl⟩
      have hN7 : N < 72057594037927936 := by
        have := p256 (show k ≤ 7 by omega)
        rw [hN]
        omega
      rw [← hN] at hb
      rw [← hN]
      obtain ⟨hb0, _⟩ := hb
      obtain ⟨hx0, hx1⟩ := hx
      have HN := Lib.hid hN
      have HX := Lib.hid hxd
      clear hN hxd hcell hr
      have hsn := Lib.hid (take_snoc l k (by omega))
      go_wp2
      go_round
      case rel => exact ⟨k + 1, by omega, by go_num, by rw [hsn.out, beNum_snoc, ← HN.out, ← HX.out]⟩
      case measure => simp [intOf]; omega
    · obtain rfl : k = n := by omega
      rw [List.take_of_length_le (by omega)]
      clear hb hln
      go_wp2
      go_ret
      exact ⟨rfl, rfl⟩

theorem or_byte (N x : Int) (hN0 : 0 ≤ N) (hN : N < 72057594037927936) (hx0 : 0 ≤ x) (hx : x ≤ 255) : bits .or .u64 (N * 256) x = N * 256 + x := by
  obtain ⟨a, rfl⟩ := Int.eq_ofNat_of_zero_le hN0
  obtain ⟨b, rfl⟩ := Int.eq_ofNat_of_zero_le hx0
  have e : ((a : Int) * 256) = ((a * 256 : Nat) : Int) := by simp
  rw [e]
  show IntKind.u64.wrap ((BitVec.ofInt 64 ((a * 256 : Nat) : Int) ||| BitVec.ofInt 64 (b : Int)).toNat : Int) = _
  rw [BitVec.toNat_or, BitVec.ofInt_natCast, BitVec.ofInt_natCast, BitVec.toNat_ofNat, BitVec.toNat_ofNat, Nat.mod_eq_of_lt (by omega), Nat.mod_eq_of_lt (by omega)]
  have h2 := Nat.two_pow_add_eq_or_of_lt (i := 8) (b := b) (by omega) a
  rw [show a * 256 = 2 ^ 8 * a by omega, ← h2, IntWalk.u64_in _ (by omega)]
  omega

/-- What 'take' leaves. -/
def restOf (A : Option Addr) (n c k : Nat) : Value := .slice (if c = k then A else A.map (·.add k)) (n - k) (c - k)

set_option maxHeartbeats 1000000 in
theorem take_any (A : Option Addr) (n c : Nat) (l : List Int) (k : Nat) (hk8 : k ≤ 8) (hkn : k ≤ n) (hnc : n ≤ c) (hc63 : c ≤ 9223372036854775807) (w : World) (hr0 : Rd w A n l) :
    Calls Try.prog 26 #[.slice A n c, .int .i64 (k : Int)] w fun e w' => e = .returned (.tuple #[.int .u64 (beNum (l.take k)), restOf A n c k]) ∧ Ext w w' := by
  have hr := hr0.pre k hkn
  obtain ⟨m, hm⟩ : ∃ m, m = l.take k := ⟨_, rfl⟩
  rw [← hm] at hr ⊢
  clear hm
  have hln := hr.1
  go_enter Try.func26, Try.ntmps26
  go_wp2
  go_loop [6, 13] (fun s i => ∃ j : Nat, j ≤ k ∧ i = .int .i64 j ∧ s = .int .u64 (beNum (m.take j))) (fun _ i => k - (intOf i).toNat)
  case atStart => exact ⟨0, Nat.zero_le _, rfl, rfl⟩
  case round =>
    obtain ⟨j, hj, rfl, rfl⟩ := hrel
    have hb := beNum_bound j (m.take j) (by simp; omega) (fun x hx => hr.2.1 x (List.mem_of_mem_take hx))
    by_cases hlt : j < k
    · obtain ⟨b, o, rfl, hbw, hcell⟩ := hr.2.2 (by omega)
      have hck := hcell j hlt
      have hx := hr.2.1 (m.getD j 0) (by simp [List.getD, List.getElem?_eq_getElem (show j < m.length by omega)])
      obtain ⟨x, hxd⟩ : ∃ x, x = m.getD j 0 := ⟨_, rfl⟩
      rw [← hxd] at hck hx
      obtain ⟨N, hN⟩ : ∃ N, N = beNum (m.take j) := ⟨_, rfl⟩
      have hN7 : N < 72057594037927936 := by
        have := p256 (show j ≤ 7 by omega)
        rw [hN]
        omega
      rw [← hN] at hb
      rw [← hN]
      obtain ⟨hb0, _⟩ := hb
      obtain ⟨hx0, hx1⟩ := hx
      have HN := Lib.hid hN
      have HX := Lib.hid hxd
      clear hN hxd hcell hr hr0
      have hsn := Lib.hid (take_snoc m j (by omega))
      go_wp2
      go_round
      case rel => exact ⟨j + 1, by omega, by go_num, by rw [or_byte N x hb0 hN7 hx0 hx1, hsn.out, beNum_snoc, ← HN.out, ← HX.out]⟩
      case measure => simp [intOf]; omega
    · obtain rfl : j = k := by omega
      rw [List.take_of_length_le (by omega)]
      have q1 : (0 : Int) ≤ (j : Int) := by omega
      have q2 : (j : Int) ≤ (n : Int) := by omega
      clear hb hln hr hr0
      go_wp2
      go_quiet (fail)
      go_wp2
      all_goals
        go_ret2
        refine ⟨?_, (Ext.refl _).drewN _⟩
        simp_all [restOf]
end Go.Proofs.Ytiekicjloapepaa
