/- A part of the proof of a law of roundel: contracts of functions and lemmas, each true as it stands; no condition beyond those that its theorems state. -/
import Derived.Test.YtiekicjloapepaaI
namespace Go.Proofs.Ytiekicjloapepaa
set_option linter.unusedSimpArgs false
set_option linter.unusedVariables false
open Go.RowKit

theorem is_any (op : Nat) (A B M : Int) (op' A' B' M' : Int) (w : World) (h : op ≤ 255) :
    Calls Try.prog 19 #[.agg #[.int .u8 (op : Int), .int .i64 A, .int .i64 B, .int .u64 M], .agg #[.int .i64 (op : Int), .int .i64 A, .int .i64 B, .int .u64 M]] w fun e w' => e = .returned (.bool true) ∧ Ext w w' := by
  go_enter Try.func19, Try.ntmps19
  go_wp2
  go_ret
  refine ⟨rfl, ?_⟩
  (repeat (first | with_reducible exact Ext.refl _ | with_reducible assumption | with_reducible apply Ext.drew | with_reducible apply Ext.drewN | with_reducible apply Ext.alloc | (with_reducible refine Ext.setCell ?_ (by simp <;> omega) _) | (with_reducible refine Ext.trans ?_ (by with_reducible assumption))))

theorem madeCells_one (z : Value) (n : Nat) : (madeCells #[z] n).toList = List.replicate n z := by
  apply List.ext_getElem
  · simp [madeCells]
  · intro i h1 h2
    simp [madeCells]
    have : i % 1 = 0 := Nat.mod_one i
    simp [this]

theorem set_rep (m : Nat) (r : List Int) (x : Int) : (List.replicate (m + 1) (0 : Int) ++ r).set m x = List.replicate m 0 ++ (x :: r) := by
  induction m with
  | zero => simp
  | succ m ih =>
    rw [List.replicate_succ, List.cons_append, List.set_cons_succ, ih, List.replicate_succ, List.cons_append]

set_option maxHeartbeats 1000000 in
theorem number_any (N k : Nat) (hk : k ≤ 8) (hN : N < 18446744073709551616) (w : World) :
    Calls Try.prog 29 #[.int .u64 (N : Int), .int .i64 (k : Int)] w fun e w' => e = .returned (.slice (some ⟨w.heap.size, 0, none⟩) k k) ∧ OwnB w' w.heap.size (.slice (some ⟨w.heap.size, 0, none⟩) k k) (beL k N) ∧ Ext w w' := by
  obtain ⟨i0, hi, hz0, hz1, hz2⟩ := info_parts info5
  go_enter Try.func29, Try.ntmps29
  go_wp2_with (first
    | (refine wpList_make_full w rfl (.tmp 7) (.tmp 7) 27 rfl w.heap.size 5 i0 (.int .u8 0) 1 Try.underlying27 hi hz0 hz1 .i64 .i64 (k : Int) (k : Int) k rfl rfl rfl rfl (by rw [hz2]; omega) (by unfold maxLen; omega) (Nat.le_refl _) ?_; intro w1 hown1 hg1))
  have e1 : Ext w w1 := (Ext.refl w).grown hg1 (by simp)
  rw [show (Value.int IntKind.u8 0).cells = #[.int .u8 0] from rfl, Nat.mul_one, madeCells_one] at hown1
  go_loopw [0, 6] (fun nv i wr => ∃ j : Nat, i = .int .i64 ((j : Int) - 1) ∧ j ≤ k ∧ nv = .int .u64 ((N / 256 ^ (k - j) : Nat) : Int) ∧
      wr.ownsRow w.heap.size 5 1 (.slice (some ⟨w.heap.size, 0, none⟩) k k) k ((List.replicate j 0 ++ beL (k - j) N).map (Value.int .u8)) ∧ Ext w wr)
    (fun _ i _ => (intOf i + 1).toNat)
  case atStart => exact ⟨k, rfl, Nat.le_refl _, by simp, by simpa [beL] using hown1, e1⟩
  case round =>
    obtain ⟨j, rfl, hjk, rfl, hown, he⟩ := hrel
    cases j with
    | zero =>
      have e : ((0 : Nat) : Int) - 1 = -1 := by omega
      rw [e]
      clear e
      have HO := Lib.hid hown
      clear hown hown1 hg1
      go_wp2
      go_ret
      have hown := HO.out
      simp only [List.replicate_zero, List.nil_append, Nat.sub_zero] at hown
      refine ⟨rfl, ?_, he⟩
      unfold OwnB
      rw [beL_length]
      exact hown
    | succ m =>
      have e : ((m + 1 : Nat) : Int) - 1 = (m : Int) := by omega
      rw [e]
      clear e
      obtain ⟨q, hq⟩ : ∃ q, q = N / 256 ^ (k - (m + 1)) := ⟨_, rfl⟩
      rw [← hq]
      have hqN : q ≤ N := by rw [hq]; exact Nat.div_le_self _ _
      have hc := hown.cellAt m (by omega)
      have hf := hown.frozenAt m
      have hst := hown.stored m (.int .u8 ((q : Int) % 256))
      have hget : ((List.replicate (m + 1) 0 ++ beL (k - (m + 1)) N).map (Value.int .u8))[m]? = some (.int .u8 0) := by
        rw [List.getElem?_map, List.getElem?_append_left (by simp)]
        simp
      rw [hget] at hc
      have HS := Lib.hid hst
      have HQ := Lib.hid hq
      clear hst hget hown hq hown1 hg1
      have hmk : m < k := by omega
      go_wp2
      go_roundw
      case rel =>
        have hst := HS.out
        have hq := HQ.out
        refine ⟨m, rfl, by omega, ?_, ?_, he.setCell (Nat.le_refl _) _⟩
        · rw [show k - m = k - (m + 1) + 1 by omega, Nat.pow_succ, ← Nat.div_div_eq_div_mul, ← hq]
          simp
        · have h2 := hst.1
          rw [show k - m = k - (m + 1) + 1 by omega]
          simp only [beL]
          rw [← hq, ← set_rep, List.map_set]
          simpa using h2
      case measure => simp [intOf]
end Go.Proofs.Ytiekicjloapepaa
