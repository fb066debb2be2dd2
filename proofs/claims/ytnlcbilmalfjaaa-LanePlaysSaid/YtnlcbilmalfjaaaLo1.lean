/- A part of the proof of a law of roundel: contracts of functions and lemmas, each true as it stands; no condition beyond those that its theorems state. -/
import Derived.Test.YtnlcbilmalfjaaaPl
namespace Go.Proofs.Ytnlcbilmalfjaaa
set_option linter.unusedSimpArgs false
set_option linter.unusedVariables false
open Go.RowKit

/-- A row of whole numbers. -/
def IL (W : World) (A : Option Addr) (n : Nat) (t : Nat → Int) : Prop := 0 < n → ∃ x o, A = some ⟨x, o, none⟩ ∧ x < W.heap.size ∧ ∀ j, j < n → W.cell? ⟨x, o + j, none⟩ = some (.int .i64 (t j))

set_option maxRecDepth 100000 in
set_option maxHeartbeats 1600000 in
theorem order1_any (x n c k m a o tb ob sb kb mb : Nat) (la : Int) (t : Nat → Int) (V : World) (hx : x < n) (hn : n ≤ 64) (hk : k < 64) (hm : m ≤ 255) (hla : la = -1 ∨ ∃ y : Nat, la = (y : Int) ∧ y < n ∧ Ahead t y x)
    (c1 : V.cell? ⟨tb, 0, none⟩ = some (.slice (some ⟨a, o, none⟩) n c)) (c2 : V.cell? ⟨ob, 0, none⟩ = some (.bool true)) (c3 : V.cell? ⟨sb, 0, none⟩ = some (.int .i64 la)) (c4 : V.cell? ⟨kb, 0, none⟩ = some (.int .i64 (k : Int))) (c5 : V.cell? ⟨mb, 0, none⟩ = some (.int .u8 (m : Int)))
    (ct : ∀ j, j < n → V.cell? ⟨a, o + j, none⟩ = some (.int .i64 (t j)))
    (f2 : V.frozen? ⟨ob, 0, none⟩ = false) (f3 : V.frozen? ⟨sb, 0, none⟩ = false) (f4 : V.frozen? ⟨kb, 0, none⟩ = false)
    (n1 : ob ≠ sb) (n2 : ob ≠ kb) (n3 : sb ≠ kb) (n4 : mb ≠ ob) (n5 : mb ≠ sb) (n6 : mb ≠ kb) :
    Calls Try.prog 11 #[.int .i64 (x : Int), .pointer (some ⟨tb, 0, none⟩), .pointer (some ⟨ob, 0, none⟩), .pointer (some ⟨sb, 0, none⟩), .pointer (some ⟨kb, 0, none⟩), .pointer (some ⟨mb, 0, none⟩)] V fun e W' => e = .returned (.bool (decide (k + 1 < m))) ∧
      ∃ q, W' = (((V.drewN q).setCell ⟨ob, 0, none⟩ (.bool true)).setCell ⟨sb, 0, none⟩ (.int .i64 (x : Int))).setCell ⟨kb, 0, none⟩ (.int .i64 ((k : Int) + 1)) := by
  have q1 : (x : Int) < (n : Int) := by omega
  have q2 : (0 : Int) ≤ (x : Int) := by omega
  have cx := ct x hx
  have wm : IntKind.i64.wrap (m : Int) = (m : Int) := IntWalk.i64_in _ (by omega)
  go_enter Try.func11, Try.ntmps11
  rcases hla with rfl | ⟨y, rfl, hy, ha⟩
  · clear ct
    go_wp2_with fail
    refine region_tail_plain (n := 5) 32 (by kernel_rfl) (by kernel_rfl) ?_
    simp only [List.take_succ_cons, List.take_zero, List.drop_succ_cons, List.drop_zero]
    repeat (gi_big_quiet_step (fail))
    refine wpQuietIn_nil ?_
    rintro w' ⟨q, rfl⟩
    have hcut : (V.drewN q).cell? ⟨ob, 0, none⟩ = some (.bool true) := c2
    gi_wp2_with fail
    obtain ⟨Wx, hWx⟩ : ∃ Wx, Wx = (V.drewN q).setCell ⟨ob, 0, none⟩ (.bool true) := ⟨_, rfl⟩
    rw [← hWx]
    have e2 : Wx.cell? ⟨ob, 0, none⟩ = some (.bool true) := by rw [hWx]; exact World.cell?_setCell_same (u := .bool true) _ _ _ c2
    have e3 : Wx.cell? ⟨sb, 0, none⟩ = V.cell? ⟨sb, 0, none⟩ := by rw [hWx, World.cell?_setCell_other _ _ _ _ (by simp [Ne.symm n1])]; rfl
    have e4 : Wx.cell? ⟨kb, 0, none⟩ = V.cell? ⟨kb, 0, none⟩ := by rw [hWx, World.cell?_setCell_other _ _ _ _ (by simp [Ne.symm n2])]; rfl
    have e5 : Wx.cell? ⟨mb, 0, none⟩ = V.cell? ⟨mb, 0, none⟩ := by rw [hWx, World.cell?_setCell_other _ _ _ _ (by simp [n4])]; rfl
    have g3 : Wx.frozen? ⟨sb, 0, none⟩ = false := by rw [hWx, World.frozen?_setCell]; exact f3
    have g4 : Wx.frozen? ⟨kb, 0, none⟩ = false := by rw [hWx, World.frozen?_setCell]; exact f4
    rw [c3] at e3
    rw [c4] at e4
    rw [c5] at e5
    have HX := Lib.hid hWx
    clear hWx hcut c1 c2 c3 c4 c5 f2 f3 f4
    go_wp2_with fail
    go_ret
    refine ⟨?_, q, by rw [← HX.out]⟩
    congr 2
    simp <;> omega
  · have cy := ct y hy
    have r1 : (0 : Int) ≤ (y : Int) := by omega
    have r2 : (y : Int) < (n : Int) := by omega
    have r3 : ((y : Int) < 0) = False := by simp
    clear ct
    rcases ha with h1 | ⟨h1, h2⟩
    · have hd : decide (t y < t x) = true := decide_eq_true h1
      go_wp2_with fail
      refine region_tail_plain (n := 5) 32 (by kernel_rfl) (by kernel_rfl) ?_
      simp only [List.take_succ_cons, List.take_zero, List.drop_succ_cons, List.drop_zero]
      repeat (gi_big_quiet_step (fail))
      refine wpQuietIn_nil ?_
      rintro w' ⟨q, rfl⟩
      have hcut : (V.drewN q).cell? ⟨ob, 0, none⟩ = some (.bool true) := c2
      gi_wp2_with fail
      obtain ⟨Wx, hWx⟩ : ∃ Wx, Wx = (V.drewN q).setCell ⟨ob, 0, none⟩ (.bool true) := ⟨_, rfl⟩
      rw [← hWx]
      have e2 : Wx.cell? ⟨ob, 0, none⟩ = some (.bool true) := by rw [hWx]; exact World.cell?_setCell_same (u := .bool true) _ _ _ c2
      have e3 : Wx.cell? ⟨sb, 0, none⟩ = V.cell? ⟨sb, 0, none⟩ := by rw [hWx, World.cell?_setCell_other _ _ _ _ (by simp [Ne.symm n1])]; rfl
      have e4 : Wx.cell? ⟨kb, 0, none⟩ = V.cell? ⟨kb, 0, none⟩ := by rw [hWx, World.cell?_setCell_other _ _ _ _ (by simp [Ne.symm n2])]; rfl
      have e5 : Wx.cell? ⟨mb, 0, none⟩ = V.cell? ⟨mb, 0, none⟩ := by rw [hWx, World.cell?_setCell_other _ _ _ _ (by simp [n4])]; rfl
      have g3 : Wx.frozen? ⟨sb, 0, none⟩ = false := by rw [hWx, World.frozen?_setCell]; exact f3
      have g4 : Wx.frozen? ⟨kb, 0, none⟩ = false := by rw [hWx, World.frozen?_setCell]; exact f4
      rw [c3] at e3
      rw [c4] at e4
      rw [c5] at e5
      have HX := Lib.hid hWx
      clear hWx hcut c1 c2 c3 c4 c5 f2 f3 f4
      go_wp2_with fail
      go_ret
      refine ⟨?_, q, by rw [← HX.out]⟩
      congr 2
      simp <;> omega
    · have hd : decide (t y < t x) = false := decide_eq_false (by omega)
      have hd2 : (t y == t x) = true := by simp [h1]
      have hd3 : decide ((y : Int) < (x : Int)) = true := decide_eq_true (by omega)
      go_wp2_with fail
      refine region_tail_plain (n := 5) 32 (by kernel_rfl) (by kernel_rfl) ?_
      simp only [List.take_succ_cons, List.take_zero, List.drop_succ_cons, List.drop_zero]
      repeat (gi_big_quiet_step (fail))
      refine wpQuietIn_nil ?_
      rintro w' ⟨q, rfl⟩
      have hcut : (V.drewN q).cell? ⟨ob, 0, none⟩ = some (.bool true) := c2
      gi_wp2_with fail
      obtain ⟨Wx, hWx⟩ : ∃ Wx, Wx = (V.drewN q).setCell ⟨ob, 0, none⟩ (.bool true) := ⟨_, rfl⟩
      rw [← hWx]
      have e2 : Wx.cell? ⟨ob, 0, none⟩ = some (.bool true) := by rw [hWx]; exact World.cell?_setCell_same (u := .bool true) _ _ _ c2
      have e3 : Wx.cell? ⟨sb, 0, none⟩ = V.cell? ⟨sb, 0, none⟩ := by rw [hWx, World.cell?_setCell_other _ _ _ _ (by simp [Ne.symm n1])]; rfl
      have e4 : Wx.cell? ⟨kb, 0, none⟩ = V.cell? ⟨kb, 0, none⟩ := by rw [hWx, World.cell?_setCell_other _ _ _ _ (by simp [Ne.symm n2])]; rfl
      have e5 : Wx.cell? ⟨mb, 0, none⟩ = V.cell? ⟨mb, 0, none⟩ := by rw [hWx, World.cell?_setCell_other _ _ _ _ (by simp [n4])]; rfl
      have g3 : Wx.frozen? ⟨sb, 0, none⟩ = false := by rw [hWx, World.frozen?_setCell]; exact f3
      have g4 : Wx.frozen? ⟨kb, 0, none⟩ = false := by rw [hWx, World.frozen?_setCell]; exact f4
      rw [c3] at e3
      rw [c4] at e4
      rw [c5] at e5
      have HX := Lib.hid hWx
      clear hWx hcut c1 c2 c3 c4 c5 f2 f3 f4
      go_wp2_with fail
      go_ret
      refine ⟨?_, q, by rw [← HX.out]⟩
      congr 2
      simp <;> omega
end Go.Proofs.Ytnlcbilmalfjaaa
