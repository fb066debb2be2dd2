/- A part of the proof of a law of roundel: contracts of functions and lemmas, each true as it stands; no condition beyond those that its theorems state. -/
import Derived.Test.YtohgckdkkeiggaaI
namespace Go.Proofs.Ytohgckdkkeiggaa
set_option linter.unusedSimpArgs false
set_option linter.unusedVariables false
open Go.RowKit Go.Maps

def cg (k : Int) (gs : List Int) : Nat → Int
  | 0 => 0
  | j + 1 => cg k gs j + if gs.getD j 0 = k then 1 else 0
theorem cg_bnd (k : Int) (gs : List Int) : ∀ j, 0 ≤ cg k gs j ∧ cg k gs j ≤ j
  | 0 => by simp [cg]
  | j + 1 => by
    have := cg_bnd k gs j
    simp only [cg]
    split <;> omega
def is1 (k : Int) (t : Tk) : Int := if t.idle = true then 0 else cg k t.gs t.gs.length
theorem sum1_bnd (k : Int) (l : List Tk) (hf : ∀ t ∈ l, t.gs.length ≤ 10) : ∀ j, j ≤ l.length → 0 ≤ sumTo (fun _ => is1 k) l j ∧ sumTo (fun _ => is1 k) l j ≤ 10 * j
  | 0, _ => by simp [sumTo]
  | j + 1, h => by
    have h1 := sum1_bnd k l hf j (by omega)
    have hm : l.getD j default ∈ l := by simp [List.getD, show j < l.length by omega]
    have h2 := hf _ hm
    have h3 := cg_bnd k (l.getD j default).gs (l.getD j default).gs.length
    simp only [sumTo, is1]
    split <;> omega

set_option maxRecDepth 100000 in
set_option maxHeartbeats 1600000 in
theorem count1 (B : Nat) (A : Option Addr) (n c : Nat) (l : List Tk) (hnc : n ≤ c) (hc63 : c ≤ 9223372036854775807) (hn : n ≤ 80) (hfew : ∀ t ∈ l, t.gs.length ≤ 10) (k from_ : Int) (W : World) (hl : TL W B A n l) :
    Calls Try.prog 11 #[.slice A n c, .int .i64 1, .int .i64 k, .int .i64 from_] W fun e W' => e = .returned (.int .i64 (sumTo (fun _ => is1 k) l n)) ∧ W' = W := by
  have HL := Lib.hid hl
  have HB := Lib.hid (sum1_bnd k l hfew)
  have HW := Lib.hid hfew
  clear hl hfew
  go_enter Try.func11, Try.ntmps11
  go_wp2
  go_loopw [9, 14] (fun s i wr => ∃ j : Nat, j ≤ n ∧ s = .int .i64 (sumTo (fun _ => is1 k) l j) ∧ i = .int .i64 (j : Int) ∧ wr = W) (fun _ i _ => n - (intOf i).toNat)
  case atStart => exact ⟨0, by omega, rfl, rfl, rfl⟩
  case round =>
    obtain ⟨j, hj, rfl, rfl, rfl⟩ := hrel
    by_cases hjn : j < n
    · obtain ⟨h1, h2, h3⟩ := HL.out
      obtain ⟨x, o, rfl, hx, hcell⟩ := h3 (by omega)
      obtain ⟨GA, gn, gc, k0, k1, k2, k3, hsl, hGc⟩ := hcell j hjn
      have hst : sumTo (fun _ => is1 k) l (j + 1) = sumTo (fun _ => is1 k) l j + is1 k (l.getD j default) := rfl
      have hsb := HB.out j (by omega)
      have hgl := HW.out (l.getD j default) (by simp [List.getD, show j < l.length by omega])
      obtain ⟨⟨gc1, gt1, gs1, gi1⟩, hgx⟩ : ∃ g, g = l.getD j default := ⟨_, rfl⟩
      obtain ⟨s, hs⟩ : ∃ s, s = sumTo (fun _ => is1 k) l j := ⟨_, rfl⟩
      rw [← hgx] at k0 k1 k3 hsl hgl
      rw [← hgx, ← hs] at hst
      rw [← hs] at hsb ⊢
      dsimp only at k0 k1 k3 hsl hgl
      have q3 : (j : Int) < (n : Int) := by omega
      have b1 := hsb.1
      have b2 : s ≤ 800 := by omega
      have HS := Lib.hid hst
      have HG := Lib.hid hsl
      have hgn : gn ≤ 10 := by have := hsl.1; omega
      clear hgx hs hst h1 h2 h3 hcell hsl hsb hgl
      go_wp2
      go_loopw [9, 66] (fun s' i wr' => ∃ i' : Nat, i' ≤ gn ∧ s' = .int .i64 (s + if gi1 = true then 0 else cg k gs1 i') ∧ i = .int .i64 (i' : Int) ∧ wr' = wr) (fun _ i _ => gn - (intOf i).toNat)
      case atStart => exact ⟨0, by omega, by simp [cg], rfl, rfl⟩
      case round =>
        obtain ⟨i', hi, rfl, rfl, rfl⟩ := hrel
        have hcb := cg_bnd k gs1 i'
        by_cases hin : i' < gn
        · obtain ⟨y, oy, rfl, hy, hgc⟩ := HG.out.2.2 (by omega)
          have hgi := hgc i' hin
          have q4 : (i' : Int) < (gn : Int) := by omega
          have hcs : cg k gs1 (i' + 1) = cg k gs1 i' + if gs1.getD i' 0 = k then 1 else 0 := rfl
          obtain ⟨g, hgx⟩ : ∃ g, g = gs1.getD i' 0 := ⟨_, rfl⟩
          rw [← hgx] at hgi hcs
          have HC := Lib.hid hcs
          clear hgx hcs hgc
          cases gi1 with
          | true =>
            go_wp2
            go_roundw
            case rel => exact ⟨i' + 1, by omega, by simp, by go_num, trivial⟩
            case measure => simp [intOf]; omega
          | false =>
            obtain ⟨z, hz⟩ : ∃ z, z = s + cg k gs1 i' := ⟨_, rfl⟩
            have hz' : (s + if false = true then 0 else cg k gs1 i') = z := by simp [hz]
            rw [hz']
            have w1 : IntKind.i64.wrap (z + 1) = z + 1 := IntWalk.i64_in _ (by omega)
            have HZ := Lib.hid hz
            clear hz hz' hcb
            by_cases p2 : g = k
            · have p2' : (g == k) = true := by simp [p2]
              go_wp2
              go_roundw
              case rel => exact ⟨i' + 1, by omega, by rw [HC.out, HZ.out]; simp [p2, Int.add_assoc], by go_num, trivial⟩
              case measure => simp [intOf]; omega
            · have p2' : (g == k) = false := by simp [p2]
              go_wp2
              go_roundw
              case rel => exact ⟨i' + 1, by omega, by rw [HC.out, HZ.out]; simp [p2], by go_num, trivial⟩
              case measure => simp [intOf]; omega
        · obtain rfl : i' = gn := by omega
          have hlen := HG.out.1
          go_wp2
          go_roundw
          case rel =>
            refine ⟨j + 1, by omega, ?_, by go_num, trivial⟩
            rw [HS.out]
            simp only [is1, hlen]
          case measure => simp [intOf]; omega
    · obtain rfl : j = n := by omega
      go_wp2
      go_ret
      exact ⟨rfl, rfl⟩
end Go.Proofs.Ytohgckdkkeiggaa
