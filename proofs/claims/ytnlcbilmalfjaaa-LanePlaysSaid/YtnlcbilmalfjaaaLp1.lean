/- A part of the proof of a law of roundel: contracts of functions and lemmas, each true as it stands; no condition beyond those that its theorems state. -/
import Derived.Test.YtnlcbilmalfjaaaLo1
namespace Go.Proofs.Ytnlcbilmalfjaaa
set_option linter.unusedSimpArgs false
set_option linter.unusedVariables false
open Go.RowKit

/-- Does a node divide? -/
def divs (k : Int) (x : Nat) : Bool := (x : Int) % k == 0
theorem parts1_any (k : Int) (hk : k ≠ 0) (h1 : 0 < k) (x b : Nat) (W : World) (hx : x < 1000) (hc : W.cell? ⟨b, 0, none⟩ = some (.int .i64 k)) : Calls Try.prog 12 #[.int .i64 (x : Int), .pointer (some ⟨b, 0, none⟩)] W fun e W' => e = .returned (.bool (divs k x)) ∧ W' = W := by
  have hz : ¬ k = 0 := hk
  go_enter Try.func12, Try.ntmps12
  go_wp2_with fail
  go_ret
  exact ⟨rfl, rfl⟩
theorem is1_any (k : Int) (hk : k ≠ 0) (h1 : 0 < k) (x b : Nat) (W : World) (hx : x < 1000) (hc : W.cell? ⟨b, 0, none⟩ = some (.int .i64 k)) : Calls Try.prog 42 #[.int .i64 (x : Int), .pointer (some ⟨b, 0, none⟩)] W fun e W' => e = .returned (.bool (divs k x)) ∧ W' = W := by
  have hz : ¬ k = 0 := hk
  go_enter Try.func42, Try.ntmps42
  go_wp2_with fail
  go_ret
  exact ⟨rfl, rfl⟩
theorem parts3_any (x : Int) (W : World) : Calls Try.prog 17 #[.int .i64 x] W fun e W' => e = .returned (.bool true) ∧ W' = W := by
  go_enter Try.func17, Try.ntmps17
  go_wp2
  go_ret
  exact ⟨rfl, rfl⟩
theorem fit_divs {N f b ob : Nat} {k : Int} {w : World} (en : ∀ args w, (callFunc f args).run Try.prog w = .ok (.enter f args) w) (hN : N ≤ 64) (hs : ∀ (x : Nat) (W : World), x < 1000 → W.cell? ⟨b, 0, none⟩ = some (.int .i64 k) → Calls Try.prog f #[.int .i64 (x : Int), .pointer (some ⟨b, 0, none⟩)] W fun e W' => e = .returned (.bool (divs k x)) ∧ W' = W)
    (hc : w.cell? ⟨b, 0, none⟩ = some (.int .i64 k)) (hb : b ≠ ob) : FitOk N f #[.pointer (some ⟨b, 0, none⟩)] (divs k) ob w := ⟨en, fun x W hx hk => hs x W (by omega) (hk.cell hc hb)⟩

section
variable {B nb tg rb lb mb N M : Nat} {rows : List (List Nat)} {T : Nat → Int}
set_option maxRecDepth 100000 in
set_option maxHeartbeats 1600000 in
/-- A node that is told: does it have the tag, and fit? -/
theorem parts2_any (x bl bt bf fb f ob : Nat) (caps : Array Value) (p : Nat → Bool) (tag : Int) (V : World) (hx : x < N) (hxm : x ∈ rows.flatten) (H : Ls V B nb tg rb lb mb N M rows T) (hF : FitOk N f caps p ob V)
    (c1 : V.cell? ⟨bl, 0, none⟩ = some (.pointer (some ⟨nb, 0, none⟩))) (c2 : V.cell? ⟨bt, 0, none⟩ = some (.int .i64 tag)) (c3 : V.cell? ⟨bf, 0, none⟩ = some (.func (.func f) #[] caps)) (c4 : V.cell? ⟨fb, 0, none⟩ = some (.int .i64 (-1))) (f4 : V.frozen? ⟨fb, 0, none⟩ = false) :
    Calls Try.prog 13 #[.int .i64 (x : Int), .pointer (some ⟨bl, 0, none⟩), .pointer (some ⟨bt, 0, none⟩), .pointer (some ⟨bf, 0, none⟩), .pointer (some ⟨fb, 0, none⟩)] V fun e W' =>
      ∃ b, b = (T x == tag && p x) ∧ if b = true then e = .returned (.bool false) ∧ ∃ q, W' = (V.drewN q).setCell ⟨fb, 0, none⟩ (.int .i64 (x : Int)) else e = .returned (.bool true) ∧ ∃ q, W' = V.drewN q := by
  have ht : tagS rows T (x : Int) = T x := by
    have e : listS rows (x : Int) = (listOf rows x : Int) := by
      unfold listS
      rw [if_pos ⟨by omega, by simpa using hxm⟩, Int.toNat_natCast]
    unfold tagS
    rw [e, if_neg (by omega), Int.toNat_natCast]
  have tsay : ∀ k, CallsIn Fence.wide 4 Try.prog 14 #[.pointer (some ⟨nb, 0, none⟩), .int .i64 (x : Int)] (V.drewN k) fun e w'' => e = .returned (.int .i64 (T x)) ∧ ∃ m, w'' = V.drewN m := fun k =>
    (callsIn_wide.2 (Tag_any (x : Int) _ (H.kept ((Ext.refl V).drewN k)))).mono (fun e w'' h => ⟨by rw [← ht]; exact h.1, k, h.2⟩)
  have fsay : ∀ (b : Bool), p x = b → ∀ k, CallsIn Fence.wide 4 Try.prog f (#[.int .i64 (x : Int)] ++ caps) (V.drewN k) fun e w'' => e = .returned (.bool b) ∧ ∃ m, w'' = V.drewN m := fun b hb k =>
    (callsIn_wide.2 (hF.says x _ hx (Kc.of_ext ((Ext.refl V).drewN k)))).mono (fun e w'' h => ⟨by rw [← hb]; exact h.1, k, h.2⟩)
  have hen := hF.en
  have hfa : ∀ k, Fence.wide.fn k := fun _ => trivial
  have hx0 : ¬ (x : Int) < 0 := by omega
  clear hF H hxm ht
  go_enter Try.func13, Try.ntmps13
  go_wp2_with fail
  by_cases hT : T x = tag
  · have hd : (T x == tag) = true := by simp [hT]
    by_cases hp : p x = true
    · 
      refine region_quiet_plain (n := 5) (by kernel_rfl) (by kernel_rfl) ?_
      repeat (gi_big_quiet_step (first | exact tsay _ | exact fsay true hp _))
      refine wpQuietIn_nil ?_
      rintro w' ⟨q, rfl⟩
      simp only [Exit.then]
      go_wp2_with fail
      go_ret
      exact ⟨true, by rw [hd, hp]; rfl, by rw [if_pos rfl]; exact ⟨rfl, q, rfl⟩⟩
    · have hp' : p x = false := by simpa using hp
      refine region_quiet_plain (n := 5) (by kernel_rfl) (by kernel_rfl) ?_
      repeat (gi_big_quiet_step (first | exact tsay _ | exact fsay false hp' _))
      refine wpQuietIn_nil ?_
      rintro w' ⟨q, rfl⟩
      simp only [Exit.then]
      go_wp2_with fail
      go_ret
      exact ⟨false, by rw [hd, hp']; rfl, by rw [if_neg (by simp)]; exact ⟨rfl, q, rfl⟩⟩
  · have hd : (T x == tag) = false := by simp [hT]
    refine region_quiet_plain (n := 5) (by kernel_rfl) (by kernel_rfl) ?_
    repeat (gi_big_quiet_step (first | exact tsay _))
    refine wpQuietIn_nil ?_
    rintro w' ⟨q, rfl⟩
    simp only [Exit.then]
    go_wp2_with fail
    go_ret
    exact ⟨false, by rw [hd]; rfl, by rw [if_neg (by simp)]; exact ⟨rfl, q, rfl⟩⟩
end
end Go.Proofs.Ytnlcbilmalfjaaa
