/- A part of the proof of a law of roundel: contracts of functions and lemmas, each true as it stands; no condition beyond those that its theorems state. -/
import Derived.Test.YtnlcbilmalfjaaaAw
namespace Go.Proofs.Ytnlcbilmalfjaaa
set_option linter.unusedSimpArgs false
set_option linter.unusedVariables false
open Go.RowKit
section
variable {B rb lb mb N M : Nat} {rows : List (List Nat)}
set_option maxRecDepth 100000 in
set_option maxHeartbeats 1600000 in
theorem nodes_call (g : Nat) (caps : Array Value) (eng : ∀ args w, (callFunc g args).run Try.prog w = .ok (.enter g args) w) (z : Int) (b1 b2 : Nat) (W : World) (row : List Nat) (hrow : row = rowI rows z) (J Jx : List Nat → World → Prop) (hR : Rr W B rb lb mb N M rows)
    (hJ : ∀ pre W, J pre W → Rr W B rb lb mb N M rows ∧ W.cell? ⟨b1, 0, none⟩ = some (.pointer (some ⟨rb, 0, none⟩)))
    (hb1 : W.cell? ⟨b1, 0, none⟩ = some (.pointer (some ⟨rb, 0, none⟩))) (hb2 : W.cell? ⟨b2, 0, none⟩ = some (.int .i64 z))
    (hY : ∀ pre x W1, J pre W1 → pre ++ [x] <+: row → x < N → Calls Try.prog g (#[.int .i64 ((x : Nat) : Int)] ++ caps) W1 fun e W' => ∃ b, e = .returned (.bool b) ∧ ((b = true ∧ J (pre ++ [x]) W') ∨ (b = false ∧ Jx (pre ++ [x]) W')))
    (h0 : ∀ W', Ext W W' → J [] W') :
    Calls Try.prog 33 #[.func (.func g) #[] caps, .pointer (some ⟨b1, 0, none⟩), .pointer (some ⟨b2, 0, none⟩)] W fun e W' => (∃ v, e = .returned v) ∧ (J row W' ∨ ∃ pre, pre <+: row ∧ Jx pre W') := by
  have HW := Lib.hid hrow
  clear hrow
  go_enter Try.func33, Try.ntmps33
  go_wp2_with fail
  refine (First_any z W hR).mono ?_
  rintro e w1 ⟨he, y1⟩
  rw [← HW.out] at he
  subst he
  go_wp2_with fail
  have J1 : J [] w1 := h0 w1 y1
  go_loopw [4] (fun v wr => ∃ i : Nat, i ≤ row.length ∧ v = .int .i64 (firstI (row.drop i)) ∧ J (row.take i) wr) (fun v _ => nLeft rows row (intOf v))
  case atStart => exact ⟨0, by omega, by simp, by simpa using J1⟩
  case round =>
    obtain ⟨i, hi, rfl, Ji⟩ := hrel
    clear J1 y1
    obtain ⟨Ri, c1⟩ := hJ _ _ Ji
    by_cases hin : i < row.length
    · obtain ⟨x, hx⟩ : ∃ x, x = row.getD i 0 := ⟨_, rfl⟩
      have hfd := firstI_drop hin
      rw [← hx] at hfd
      have htk : row.take (i + 1) = row.take i ++ [x] := by rw [List.take_succ_eq_append_getElem hin, hx]; simp [List.getD, hin]
      have hz0 : 0 ≤ z ∧ z < (M : Int) := by
        refine Decidable.byContradiction fun hne => ?_
        have := rowI_out (rows := rows) (l := z) (by rw [hR.small.1]; exact hne)
        rw [← HW.out] at this
        rw [this] at hin
        simp at hin
      obtain ⟨l', rfl⟩ := Int.eq_ofNat_of_zero_le hz0.1
      have hrl : row = rowAt rows l' := by rw [HW.out, rowI_in]
      obtain ⟨m1, m2, m3, m4⟩ := hR.spot (l := l') (i := i) (x := x) (by omega) (by rw [← hrl]; exact hin) (by rw [← hrl]; exact hx)
      have en : nextS rows (x : Int) = firstI (row.drop (i + 1)) := by
        unfold nextS
        rw [if_pos ⟨by omega, by simpa using m1⟩, Int.toNat_natCast, m2, m3, ← hrl]
      have hRd := hY (row.take i) x wr Ji (by rw [← htk]; exact List.take_prefix _ _) m4
      rw [hfd]
      have r3 : ((x : Int) != -1) = true := by simp <;> omega
      have HE := Lib.hid (And.intro en (And.intro htk (And.intro m3 hrl)))
      have HX := Lib.hid hx
      clear en htk hfd hx m1 m2 m3 m4 hrl
      go_wp2_with fail
      refine hRd.mono ?_
      rintro e w3 ⟨b, rfl, ⟨rfl, J3⟩ | ⟨rfl, J3⟩⟩
      · obtain ⟨R3, c3⟩ := hJ _ _ J3
        go_wp2_with fail
        refine (Next_any (x : Int) w3 R3).mono ?_
        rintro e z1 ⟨he, hz1⟩
        have hz2 := hz1.symm; clear hz1; subst hz2
        rw [HE.out.1] at he
        subst he
        go_wp2_with fail
        go_roundw
        case rel => exact ⟨i + 1, by omega, rfl, by rw [HE.out.2.1]; exact J3⟩
        case measure =>
          have h3 := HE.out.2.2.1
          have e1 : nLeft rows row (x : Int) = row.length - i := by unfold nLeft; rw [if_neg (by omega), Int.toNat_natCast, h3]
          simp only [intOf]
          rw [e1]
          by_cases hl : i + 1 < row.length
          · rw [firstI_drop hl]
            obtain ⟨_, _, k3', _⟩ := hR.spot (l := l') (i := i + 1) (x := row.getD (i + 1) 0) (by omega) (by rw [← HE.out.2.2.2]; exact hl) (by rw [← HE.out.2.2.2])
            unfold nLeft
            rw [if_neg (by omega), Int.toNat_natCast, k3']
            omega
          · rw [firstI_end (by omega)]
            unfold nLeft
            rw [if_pos (by omega)]
            omega
      · go_wp2_with fail
        first | (refine bodyPost_ret (results_none rfl _ _ _) rfl ?_) | skip
        exact ⟨⟨_, rfl⟩, .inr ⟨row.take i ++ [x], by rw [← HE.out.2.1]; exact List.take_prefix _ _, J3⟩⟩
    · obtain rfl : i = row.length := by omega
      have hfe := firstI_end (Nat.le_refl row.length)
      rw [hfe]
      clear hfe
      go_wp2_with fail
      first | go_end0 | (refine bodyPost_ret (results_none rfl _ _ _) rfl ?_) | skip
      exact ⟨⟨_, rfl⟩, .inl (by simpa using Ji)⟩
end
end Go.Proofs.Ytnlcbilmalfjaaa
