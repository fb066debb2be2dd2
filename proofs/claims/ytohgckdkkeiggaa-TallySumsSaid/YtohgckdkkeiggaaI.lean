/- A part of the proof of a law of roundel: contracts of functions and lemmas, each true as it stands; no condition beyond those that its theorems state. -/
import Derived.Test.YtohgckdkkeiggaaH
namespace Go.Proofs.Ytohgckdkkeiggaa
set_option linter.unusedSimpArgs false
set_option linter.unusedVariables false
open Go.RowKit Go.Maps

def is0 (k from_ : Int) (j : Nat) (t : Tk) : Int := if from_ ≤ j ∧ t.idle = false ∧ t.thread = k then 1 else 0
def is2 (k : Int) (t : Tk) : Int := if t.idle = false ∧ t.core = k then 1 else 0
def is3 (k : Int) (t : Tk) : Int := if t.idle = true ∧ t.core = k then 1 else 0
def sumTo (f : Nat → Tk → Int) (l : List Tk) : Nat → Int
  | 0 => 0
  | j + 1 => sumTo f l j + f j (l.getD j default)
theorem sumTo_bnd (f : Nat → Tk → Int) (M : Nat) (hf : ∀ j t, 0 ≤ f j t ∧ f j t ≤ M) (l : List Tk) : ∀ j, 0 ≤ sumTo f l j ∧ sumTo f l j ≤ M * j
  | 0 => by simp [sumTo]
  | j + 1 => by
    have := sumTo_bnd f M hf l j
    have := hf j (l.getD j default)
    simp only [sumTo]
    rw [show ((M : Int) * ((j + 1 : Nat) : Int)) = M * j + M by rw [Int.natCast_add, Int.mul_add]; simp]
    omega
theorem is0_bnd (k from_ : Int) (j : Nat) (t : Tk) : 0 ≤ is0 k from_ j t ∧ is0 k from_ j t ≤ (1 : Nat) := by unfold is0; split <;> simp
theorem is2_bnd (k : Int) (t : Tk) : 0 ≤ is2 k t ∧ is2 k t ≤ (1 : Nat) := by unfold is2; split <;> simp
theorem is3_bnd (k : Int) (t : Tk) : 0 ≤ is3 k t ∧ is3 k t ≤ (1 : Nat) := by unfold is3; split <;> simp

set_option maxRecDepth 100000 in
set_option maxHeartbeats 1600000 in
theorem count0 (B : Nat) (A : Option Addr) (n c : Nat) (l : List Tk) (hnc : n ≤ c) (hc63 : c ≤ 9223372036854775807) (hn : n ≤ 80) (k from_ : Int) (W : World) (hl : TL W B A n l) :
    Calls Try.prog 11 #[.slice A n c, .int .i64 0, .int .i64 k, .int .i64 from_] W fun e W' => e = .returned (.int .i64 (sumTo (is0 k from_) l n)) ∧ W' = W := by
  have HL := Lib.hid hl
  have HB := Lib.hid (sumTo_bnd (is0 k from_) 1 (is0_bnd k from_) l)
  clear hl
  go_enter Try.func11, Try.ntmps11
  go_wp2
  go_loopw [9, 14] (fun s i wr => ∃ j : Nat, j ≤ n ∧ s = .int .i64 (sumTo (is0 k from_) l j) ∧ i = .int .i64 (j : Int) ∧ wr = W) (fun _ i _ => n - (intOf i).toNat)
  case atStart => exact ⟨0, by omega, rfl, rfl, rfl⟩
  case round =>
    obtain ⟨j, hj, rfl, rfl, rfl⟩ := hrel
    by_cases hjn : j < n
    · obtain ⟨h1, h2, h3⟩ := HL.out
      obtain ⟨x, o, rfl, hx, hcell⟩ := h3 (by omega)
      obtain ⟨GA, gn, gc, k0, k1, k2, k3, hsl, hGc⟩ := hcell j hjn
      have hst : sumTo (is0 k from_) l (j + 1) = sumTo (is0 k from_) l j + is0 k from_ j (l.getD j default) := rfl
      have hsb := HB.out j
      obtain ⟨⟨gc1, gt1, gs1, gi1⟩, hgx⟩ : ∃ g, g = l.getD j default := ⟨_, rfl⟩
      obtain ⟨s, hs⟩ : ∃ s, s = sumTo (is0 k from_) l j := ⟨_, rfl⟩
      rw [← hgx] at k0 k1 k3
      rw [← hgx, ← hs] at hst
      rw [← hs] at hsb ⊢
      dsimp only at k0 k1 k3
      have q3 : (j : Int) < (n : Int) := by omega
      have b1 := hsb.1
      have b2 : s ≤ 80 := by omega
      have HS := Lib.hid hst
      have w1 : IntKind.i64.wrap (s + 1) = s + 1 := IntWalk.i64_in _ (by omega)
      clear hgx hs hst h1 h2 h3 hcell hsl hsb
      by_cases p1 : from_ ≤ (j : Int)
      · cases gi1 with
        | true =>
          go_wp2
          go_roundw
          case rel => exact ⟨j + 1, by omega, by rw [HS.out]; simp [is0], by go_num, trivial⟩
          case measure => simp [intOf]; omega
        | false =>
          by_cases p2 : gt1 = k
          · have p2' : (gt1 == k) = true := by simp [p2]
            go_wp2
            go_roundw
            case rel => exact ⟨j + 1, by omega, by rw [HS.out]; simp [is0, p1, p2], by go_num, trivial⟩
            case measure => simp [intOf]; omega
          · have p2' : (gt1 == k) = false := by simp [p2]
            go_wp2
            go_roundw
            case rel => exact ⟨j + 1, by omega, by rw [HS.out]; simp [is0, p2], by go_num, trivial⟩
            case measure => simp [intOf]; omega
      · have p1' : (j : Int) < from_ := by omega
        go_wp2
        go_roundw
        case rel => exact ⟨j + 1, by omega, by rw [HS.out]; simp [is0, p1], by go_num, trivial⟩
        case measure => simp [intOf]; omega
    · obtain rfl : j = n := by omega
      go_wp2
      go_ret
      exact ⟨rfl, rfl⟩
set_option maxRecDepth 100000 in
set_option maxHeartbeats 1600000 in
theorem count2 (B : Nat) (A : Option Addr) (n c : Nat) (l : List Tk) (hnc : n ≤ c) (hc63 : c ≤ 9223372036854775807) (hn : n ≤ 80) (k from_ : Int) (W : World) (hl : TL W B A n l) :
    Calls Try.prog 11 #[.slice A n c, .int .i64 2, .int .i64 k, .int .i64 from_] W fun e W' => e = .returned (.int .i64 (sumTo (fun _ => is2 k) l n)) ∧ W' = W := by
  have HL := Lib.hid hl
  have HB := Lib.hid (sumTo_bnd (fun _ => is2 k) 1 (fun _ => is2_bnd k) l)
  clear hl
  go_enter Try.func11, Try.ntmps11
  go_wp2
  go_loopw [9, 14] (fun s i wr => ∃ j : Nat, j ≤ n ∧ s = .int .i64 (sumTo (fun _ => is2 k) l j) ∧ i = .int .i64 (j : Int) ∧ wr = W) (fun _ i _ => n - (intOf i).toNat)
  case atStart => exact ⟨0, by omega, rfl, rfl, rfl⟩
  case round =>
    obtain ⟨j, hj, rfl, rfl, rfl⟩ := hrel
    by_cases hjn : j < n
    · obtain ⟨h1, h2, h3⟩ := HL.out
      obtain ⟨x, o, rfl, hx, hcell⟩ := h3 (by omega)
      obtain ⟨GA, gn, gc, k0, k1, k2, k3, hsl, hGc⟩ := hcell j hjn
      have hst : sumTo (fun _ => is2 k) l (j + 1) = sumTo (fun _ => is2 k) l j + is2 k (l.getD j default) := rfl
      have hsb := HB.out j
      obtain ⟨⟨gc1, gt1, gs1, gi1⟩, hgx⟩ : ∃ g, g = l.getD j default := ⟨_, rfl⟩
      obtain ⟨s, hs⟩ : ∃ s, s = sumTo (fun _ => is2 k) l j := ⟨_, rfl⟩
      rw [← hgx] at k0 k1 k3
      rw [← hgx, ← hs] at hst
      rw [← hs] at hsb ⊢
      dsimp only at k0 k1 k3
      have q3 : (j : Int) < (n : Int) := by omega
      have b1 := hsb.1
      have b2 : s ≤ 80 := by omega
      have HS := Lib.hid hst
      have w1 : IntKind.i64.wrap (s + 1) = s + 1 := IntWalk.i64_in _ (by omega)
      clear hgx hs hst h1 h2 h3 hcell hsl hsb
      cases gi1 with
      | true =>
        go_wp2
        go_roundw
        case rel => exact ⟨j + 1, by omega, by rw [HS.out]; simp [is2], by go_num, trivial⟩
        case measure => simp [intOf]; omega
      | false =>
        by_cases p2 : gc1 = k
        · have p2' : (gc1 == k) = true := by simp [p2]
          go_wp2
          go_roundw
          case rel => exact ⟨j + 1, by omega, by rw [HS.out]; simp [is2, p2], by go_num, trivial⟩
          case measure => simp [intOf]; omega
        · have p2' : (gc1 == k) = false := by simp [p2]
          go_wp2
          go_roundw
          case rel => exact ⟨j + 1, by omega, by rw [HS.out]; simp [is2, p2], by go_num, trivial⟩
          case measure => simp [intOf]; omega
    · obtain rfl : j = n := by omega
      go_wp2
      go_ret
      exact ⟨rfl, rfl⟩
set_option maxRecDepth 100000 in
set_option maxHeartbeats 1600000 in
theorem count3 (B : Nat) (A : Option Addr) (n c : Nat) (l : List Tk) (hnc : n ≤ c) (hc63 : c ≤ 9223372036854775807) (hn : n ≤ 80) (k from_ : Int) (W : World) (hl : TL W B A n l) :
    Calls Try.prog 11 #[.slice A n c, .int .i64 3, .int .i64 k, .int .i64 from_] W fun e W' => e = .returned (.int .i64 (sumTo (fun _ => is3 k) l n)) ∧ W' = W := by
  have HL := Lib.hid hl
  have HB := Lib.hid (sumTo_bnd (fun _ => is3 k) 1 (fun _ => is3_bnd k) l)
  clear hl
  go_enter Try.func11, Try.ntmps11
  go_wp2
  go_loopw [9, 14] (fun s i wr => ∃ j : Nat, j ≤ n ∧ s = .int .i64 (sumTo (fun _ => is3 k) l j) ∧ i = .int .i64 (j : Int) ∧ wr = W) (fun _ i _ => n - (intOf i).toNat)
  case atStart => exact ⟨0, by omega, rfl, rfl, rfl⟩
  case round =>
    obtain ⟨j, hj, rfl, rfl, rfl⟩ := hrel
    by_cases hjn : j < n
    · obtain ⟨h1, h2, h3⟩ := HL.out
      obtain ⟨x, o, rfl, hx, hcell⟩ := h3 (by omega)
      obtain ⟨GA, gn, gc, k0, k1, k2, k3, hsl, hGc⟩ := hcell j hjn
      have hst : sumTo (fun _ => is3 k) l (j + 1) = sumTo (fun _ => is3 k) l j + is3 k (l.getD j default) := rfl
      have hsb := HB.out j
      obtain ⟨⟨gc1, gt1, gs1, gi1⟩, hgx⟩ : ∃ g, g = l.getD j default := ⟨_, rfl⟩
      obtain ⟨s, hs⟩ : ∃ s, s = sumTo (fun _ => is3 k) l j := ⟨_, rfl⟩
      rw [← hgx] at k0 k1 k3
      rw [← hgx, ← hs] at hst
      rw [← hs] at hsb ⊢
      dsimp only at k0 k1 k3
      have q3 : (j : Int) < (n : Int) := by omega
      have b1 := hsb.1
      have b2 : s ≤ 80 := by omega
      have HS := Lib.hid hst
      have w1 : IntKind.i64.wrap (s + 1) = s + 1 := IntWalk.i64_in _ (by omega)
      clear hgx hs hst h1 h2 h3 hcell hsl hsb
      cases gi1 with
      | false =>
        go_wp2
        go_roundw
        case rel => exact ⟨j + 1, by omega, by rw [HS.out]; simp [is3], by go_num, trivial⟩
        case measure => simp [intOf]; omega
      | true =>
        by_cases p2 : gc1 = k
        · have p2' : (gc1 == k) = true := by simp [p2]
          go_wp2
          go_roundw
          case rel => exact ⟨j + 1, by omega, by rw [HS.out]; simp [is3, p2], by go_num, trivial⟩
          case measure => simp [intOf]; omega
        · have p2' : (gc1 == k) = false := by simp [p2]
          go_wp2
          go_roundw
          case rel => exact ⟨j + 1, by omega, by rw [HS.out]; simp [is3, p2], by go_num, trivial⟩
          case measure => simp [intOf]; omega
    · obtain rfl : j = n := by omega
      go_wp2
      go_ret
      exact ⟨rfl, rfl⟩
end Go.Proofs.Ytohgckdkkeiggaa
