/- A part of the proof of a law of roundel: contracts of functions and lemmas, each true as it stands; no condition beyond those that its theorems state. -/
import Derived.Test.YtiekicjloapepaaA
namespace Go.Proofs.Ytiekicjloapepaa
set_option linter.unusedSimpArgs false
set_option linter.unusedVariables false
open Go.RowKit

def wd : Nat → ByteArray
  | 1 => ⟨#[116, 105, 99, 107]⟩
  | 2 => ⟨#[115, 112, 97, 119, 110]⟩
  | 3 => ⟨#[98, 108, 111, 99, 107]⟩
  | 4 => ⟨#[119, 97, 107, 101]⟩
  | 5 => ⟨#[121, 105, 101, 108, 100]⟩
  | 6 => ⟨#[101, 120, 105, 116]⟩
  | 7 => ⟨#[119, 101, 105, 103, 104, 116]⟩
  | 8 => ⟨#[109, 97, 115, 107]⟩
  | 9 => ⟨#[109, 111, 118, 101]⟩
  | 10 => ⟨#[111, 110, 108, 105, 110, 101]⟩
  | 11 => ⟨#[111, 102, 102, 108, 105, 110, 101]⟩
  | 12 => ⟨#[110, 101, 119, 103, 114, 111, 117, 112]⟩
  | 13 => ⟨#[100, 114, 111, 112, 103, 114, 111, 117, 112]⟩
  | 14 => ⟨#[103, 114, 111, 117, 112, 119, 101, 105, 103, 104, 116]⟩
  | 15 => ⟨#[103, 114, 111, 117, 112, 109, 111, 118, 101]⟩
  | 16 => ⟨#[116, 104, 114, 101, 97, 100]⟩
  | 17 => ⟨#[99, 111, 114, 101]⟩
  | 18 => ⟨#[103, 114, 111, 117, 112]⟩
  | 19 => ⟨#[100, 111, 109, 97, 105, 110]⟩
  | _ => ⟨#[]⟩
def wa : Nat → Int
  | 1 => 1
  | 2 => 4
  | 3 => 4
  | 4 => 4
  | 5 => 4
  | 6 => 4
  | 7 => 4
  | 8 => 4
  | 9 => 4
  | 10 => 1
  | 11 => 1
  | 12 => 4
  | 13 => 4
  | 14 => 4
  | 15 => 4
  | 16 => 4
  | 17 => 1
  | 18 => 4
  | 19 => 1
  | _ => 0
def wb : Nat → Int
  | 2 => 2
  | 7 => 2
  | 9 => 4
  | 12 => 2
  | 14 => 2
  | 15 => 4
  | _ => 0
def wm : Nat → Int
  | 2 => 8
  | 8 => 8
  | _ => 0

theorem op_cases {n : Nat} (h1 : 1 ≤ n) (h2 : n ≤ 19) : n = 1 ∨ n = 2 ∨ n = 3 ∨ n = 4 ∨ n = 5 ∨ n = 6 ∨ n = 7 ∨ n = 8 ∨ n = 9 ∨ n = 10 ∨ n = 11 ∨ n = 12 ∨ n = 13 ∨ n = 14 ∨ n = 15 ∨ n = 16 ∨ n = 17 ∨ n = 18 ∨ n = 19 := by omega

theorem wa_in (n : Nat) : wa n = 0 ∨ wa n = 1 ∨ wa n = 4 := by unfold wa; split <;> simp
theorem wb_in (n : Nat) : wb n = 0 ∨ wb n = 2 ∨ wb n = 4 := by unfold wb; split <;> simp
theorem wm_in (n : Nat) : wm n = 0 ∨ wm n = 8 := by unfold wm; split <;> simp
theorem wa_none (n : Nat) (h : ¬ (1 ≤ n ∧ n ≤ 19)) : wa n = 0 ∧ wb n = 0 ∧ wm n = 0 ∧ wd n = ⟨#[]⟩ := by
  unfold wa wb wm wd
  refine ⟨?_, ?_, ?_, ?_⟩ <;> split <;> first | rfl | (exfalso; omega)

abbrev shp (n : Nat) : Value := .agg #[.string (wd n), .int .i64 (wa n), .int .i64 (wb n), .int .i64 (wm n)]

theorem idx69 {n : Nat} (h1 : 1 ≤ n) (h2 : n ≤ 19) (w : World) : (Instr.index 69 (.agg sh80) (.int .u8 (n : Int))).run Try.prog w = .ok (shp n) w := by
  rcases op_cases h1 h2 with rfl | rfl | rfl | rfl | rfl | rfl | rfl | rfl | rfl | rfl | rfl | rfl | rfl | rfl | rfl | rfl | rfl | rfl | rfl
  all_goals kernel_rfl

attribute [irreducible] wd wa wb wm

theorem of_good (n : Nat) (h1 : 1 ≤ n) (h2 : n ≤ 19) (w : World) :
    Calls Try.prog 23 #[.int .u8 (n : Int)] w fun e w' => e = .returned (.tuple #[shp n, .bool true]) ∧ Ext w w' := by
  go_enter Try.func23, Try.ntmps23
  go_wp2_with (first
    | (go_at_call 30; refine (shapes_any _).mono ?_; rintro e w1 ⟨rfl, hb⟩; obtain ⟨hbc, hbf⟩ := Ext.cells hb; have hbz := Ext.sz hb; (try simp only [World.size_alloc, World.size_drew, World.heap_drewN, World.size_setCell] at hbz); have hbx0 : w.heap.size < w1.heap.size := (by omega); have hby0 : w.heap.size < w1.heap.size + 1 := (by omega); have hbp0 := fun o => hbc (w.heap.size) o (by first | omega | (simp only [World.size_alloc, World.size_drew, World.heap_drewN, World.size_setCell] <;> omega)); have hbq0 := fun o => hbf (w.heap.size) o (by first | omega | (simp only [World.size_alloc, World.size_drew, World.heap_drewN, World.size_setCell] <;> omega)))
    | (refine wpList_index 69 (.tmp 11) (.tmp 12) (.agg sh80) (.int .u8 (n : Int)) (shp n) rfl rfl rfl rfl (idx69 h1 h2 _) ?_))
  refine bodyPost_ret (v := .tuple #[shp n, .bool true]) (by simp [results, Try.results23, go_sem, hbc, hbz]) rfl ⟨rfl, ?_⟩
  (repeat (first | with_reducible exact Ext.refl _ | with_reducible assumption | with_reducible apply Ext.drew | with_reducible apply Ext.drewN | with_reducible apply Ext.alloc | (with_reducible refine Ext.setCell ?_ (by simp <;> omega) _) | (with_reducible refine Ext.trans ?_ (by with_reducible assumption))))

theorem of_bad (n : Nat) (h1 : ¬ (1 ≤ n ∧ n ≤ 19)) (w : World) :
    Calls Try.prog 23 #[.int .u8 (n : Int)] w fun e w' => e = .returned (.tuple #[shp n, .bool false]) ∧ Ext w w' := by
  obtain ⟨ea, eb, em, ed⟩ := wa_none n h1
  unfold shp
  rw [ea, eb, em, ed]
  clear ea eb em ed
  by_cases h : n = 0
  · subst h
    go_enter Try.func23, Try.ntmps23
    go_wp2
    refine bodyPost_ret (v := .tuple #[.agg #[.string ⟨#[]⟩, .int .i64 0, .int .i64 0, .int .i64 0], .bool false]) (by simp [results, Try.results23, go_sem]) rfl ⟨rfl, ?_⟩
    (repeat (first | with_reducible exact Ext.refl _ | with_reducible assumption | with_reducible apply Ext.drew | with_reducible apply Ext.drewN | with_reducible apply Ext.alloc | (with_reducible refine Ext.setCell ?_ (by simp <;> omega) _) | (with_reducible refine Ext.trans ?_ (by with_reducible assumption))))
  · have h20 : 20 ≤ n := by omega
    go_enter Try.func23, Try.ntmps23
    go_wp2
    refine bodyPost_ret (v := .tuple #[.agg #[.string ⟨#[]⟩, .int .i64 0, .int .i64 0, .int .i64 0], .bool false]) (by simp [results, Try.results23, go_sem]) rfl ⟨rfl, ?_⟩
    (repeat (first | with_reducible exact Ext.refl _ | with_reducible assumption | with_reducible apply Ext.drew | with_reducible apply Ext.drewN | with_reducible apply Ext.alloc | (with_reducible refine Ext.setCell ?_ (by simp <;> omega) _) | (with_reducible refine Ext.trans ?_ (by with_reducible assumption))))

/-- Is there such an op? -/
def isOp (n : Nat) : Bool := decide (1 ≤ n ∧ n ≤ 19)
theorem of_any (n : Nat) (w : World) :
    Calls Try.prog 23 #[.int .u8 (n : Int)] w fun e w' => e = .returned (.tuple #[shp n, .bool (isOp n)]) ∧ Ext w w' := by
  by_cases h : 1 ≤ n ∧ n ≤ 19
  · rw [show isOp n = true by simp [isOp, h]]; exact of_good n h.1 h.2 w
  · rw [show isOp n = false by simp [isOp, h]]; exact of_bad n h w

theorem word_any (n : Nat) (w : World) :
    Calls Try.prog 15 #[.int .u8 (n : Int)] w fun e w' => e = .returned (.string (wd n)) ∧ Ext w w' := by
  go_enter Try.func15, Try.ntmps15
  go_wp2_with (first | (go_at_call 23; refine (of_any _ _).mono ?_; rintro e w1 ⟨rfl, hb⟩; obtain ⟨hbc, hbf⟩ := Ext.cells hb; have hbz := Ext.sz hb; (try simp only [World.size_alloc, World.size_drew, World.heap_drewN, World.size_setCell] at hbz)))
  go_ret
  refine ⟨rfl, ?_⟩
  (repeat (first | with_reducible exact Ext.refl _ | with_reducible assumption | with_reducible apply Ext.drew | with_reducible apply Ext.drewN | with_reducible apply Ext.alloc | (with_reducible refine Ext.setCell ?_ (by simp <;> omega) _) | (with_reducible refine Ext.trans ?_ (by with_reducible assumption))))

theorem size_op (n : Nat) (h : isOp n = true) (w : World) :
    Calls Try.prog 16 #[.int .u8 (n : Int)] w fun e w' => e = .returned (.int .i64 (1 + wa n + wb n + wm n)) ∧ Ext w w' := by
  have ha := wa_in n
  have hb0 := wb_in n
  have hm := wm_in n
  go_enter Try.func16, Try.ntmps16
  go_wp2_with (first | (go_at_call 23; refine (of_any _ _).mono ?_; rintro e w1 ⟨rfl, hb⟩; obtain ⟨hbc, hbf⟩ := Ext.cells hb; have hbz := Ext.sz hb; (try simp only [World.size_alloc, World.size_drew, World.heap_drewN, World.size_setCell] at hbz)) | (go_at_call 25; refine (size_any _ _ _ _ (by omega) (by omega) (by omega) _).mono ?_; rintro e w2 ⟨rfl, hd⟩; obtain ⟨hdc, hdf⟩ := Ext.cells hd; have hdz := Ext.sz hd; (try simp only [World.size_alloc, World.size_drew, World.heap_drewN, World.size_setCell] at hdz)))
  go_ret
  refine ⟨rfl, ?_⟩
  (repeat (first | with_reducible exact Ext.refl _ | with_reducible assumption | with_reducible apply Ext.drew | with_reducible apply Ext.drewN | with_reducible apply Ext.alloc | (with_reducible refine Ext.setCell ?_ (by simp <;> omega) _) | (with_reducible refine Ext.trans ?_ (by with_reducible assumption))))

theorem size_none (n : Nat) (h : isOp n = false) (w : World) :
    Calls Try.prog 16 #[.int .u8 (n : Int)] w fun e w' => e = .returned (.int .i64 0) ∧ Ext w w' := by
  go_enter Try.func16, Try.ntmps16
  go_wp2_with (first | (go_at_call 23; refine (of_any _ _).mono ?_; rintro e w1 ⟨rfl, hb⟩; obtain ⟨hbc, hbf⟩ := Ext.cells hb; have hbz := Ext.sz hb; (try simp only [World.size_alloc, World.size_drew, World.heap_drewN, World.size_setCell] at hbz)))
  go_ret
  refine ⟨rfl, ?_⟩
  (repeat (first | with_reducible exact Ext.refl _ | with_reducible assumption | with_reducible apply Ext.drew | with_reducible apply Ext.drewN | with_reducible apply Ext.alloc | (with_reducible refine Ext.setCell ?_ (by simp <;> omega) _) | (with_reducible refine Ext.trans ?_ (by with_reducible assumption))))
end Go.Proofs.Ytiekicjloapepaa
