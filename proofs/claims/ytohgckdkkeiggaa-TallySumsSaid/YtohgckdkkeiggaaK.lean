/- A part of the proof of a law of roundel: contracts of functions and lemmas, each true as it stands; no condition beyond those that its theorems state. -/
import Derived.Test.YtohgckdkkeiggaaJ
namespace Go.Proofs.Ytohgckdkkeiggaa
set_option linter.unusedSimpArgs false
set_option linter.unusedVariables false
open Go.RowKit Go.Maps

theorem bumpF_at (G : Nat → Int → Int) (i' : Nat) (k' : Int) (i : Nat) (k : Int) : bumpF G i' k' i k = G i k + if i = i' ∧ k = k' then 1 else 0 := by
  unfold bumpF put1 upd
  by_cases h1 : i = i' <;> by_cases h2 : k = k' <;> simp [h1, h2]
theorem gsF_take (G : Nat → Int → Int) (gs : List Int) (i : Nat) (k : Int) : ∀ j, j ≤ gs.length → gsF G (gs.take j) i k = G i k + if i = 1 then cg k gs j else 0
  | 0, _ => by simp [gsF, cg]
  | j + 1, h => by
    rw [gsF_snoc G gs j (by omega), bumpF_at, gsF_take G gs i k j (by omega)]
    by_cases h1 : i = 1
    · simp only [h1, if_true, true_and, cg]
      rw [Int.add_assoc]
      congr 2
      by_cases h2 : k = gs.getD j 0
      · rw [if_pos h2, if_pos h2.symm]
      · rw [if_neg h2, if_neg (Ne.symm h2)]
    · simp [h1]
theorem gsF_at (G : Nat → Int → Int) (gs : List Int) (i : Nat) (k : Int) : gsF G gs i k = G i k + if i = 1 then cg k gs gs.length else 0 := by
  have := gsF_take G gs i k gs.length (Nat.le_refl _)
  rwa [List.take_length] at this

theorem oneF0 (G : Nat → Int → Int) (t : Tk) (k : Int) (j : Nat) : oneF G t 0 k = G 0 k + is0 k 0 j t := by
  unfold oneF tickF is0
  cases hi : t.idle
  · by_cases h : k = t.thread
    · simp [gsF_at, bumpF_at, h]
    · simp [gsF_at, bumpF_at, h, Ne.symm h]
  · simp [bumpF_at]
theorem oneF1 (G : Nat → Int → Int) (t : Tk) (k : Int) : oneF G t 1 k = G 1 k + is1 k t := by
  unfold oneF tickF is1
  cases hi : t.idle
  · simp [gsF_at, bumpF_at]
  · simp [bumpF_at]
theorem oneF2 (G : Nat → Int → Int) (t : Tk) (k : Int) : oneF G t 2 k = G 2 k + is2 k t := by
  unfold oneF tickF is2
  cases hi : t.idle
  · by_cases h : k = t.core
    · simp [gsF_at, bumpF_at, h]
    · simp [gsF_at, bumpF_at, h, Ne.symm h]
  · simp [bumpF_at]
theorem oneF3 (G : Nat → Int → Int) (t : Tk) (k : Int) : oneF G t 3 k = G 3 k + is3 k t := by
  unfold oneF tickF is3
  cases hi : t.idle
  · simp [gsF_at, bumpF_at]
  · by_cases h : k = t.core
    · simp [gsF_at, bumpF_at, h]
    · simp [gsF_at, bumpF_at, h, Ne.symm h]

theorem doF_sum (f : Nat → Tk → Int) (i : Nat) (k : Int) (hf : ∀ G t j, oneF G t i k = G i k + f j t) (F : Nat → Int → Int) (l : List Tk) : ∀ j, j ≤ l.length → doF F (l.take j) i k = F i k + sumTo f l j
  | 0, _ => by simp [doF, sumTo]
  | j + 1, h => by
    rw [doF_snoc F l j (by omega), hf _ _ j, doF_sum f i k hf F l j (by omega), sumTo, Int.add_assoc]
theorem doF_all (f : Nat → Tk → Int) (i : Nat) (k : Int) (hf : ∀ G t j, oneF G t i k = G i k + f j t) (F : Nat → Int → Int) (l : List Tk) : doF F l i k = F i k + sumTo f l l.length := by
  have := doF_sum f i k hf F l l.length (Nat.le_refl _)
  rwa [List.take_length] at this
theorem do0 (F : Nat → Int → Int) (l : List Tk) (k : Int) : doF F l 0 k = F 0 k + sumTo (is0 k 0) l l.length := doF_all _ _ _ (fun G t j => oneF0 G t k j) F l
theorem do1 (F : Nat → Int → Int) (l : List Tk) (k : Int) : doF F l 1 k = F 1 k + sumTo (fun _ => is1 k) l l.length := doF_all _ _ _ (fun G t _ => oneF1 G t k) F l
theorem do2 (F : Nat → Int → Int) (l : List Tk) (k : Int) : doF F l 2 k = F 2 k + sumTo (fun _ => is2 k) l l.length := doF_all _ _ _ (fun G t _ => oneF2 G t k) F l
theorem do3 (F : Nat → Int → Int) (l : List Tk) (k : Int) : doF F l 3 k = F 3 k + sumTo (fun _ => is3 k) l l.length := doF_all _ _ _ (fun G t _ => oneF3 G t k) F l

def zeros : Array Value := #[.int .u32 0, .int .i32 0, .int .u32 0, .int .i32 0, .int .u32 0, .map none, .int .u32 0, .int .i32 0, .int .u32 0, .int .i32 0, .int .u32 0, .map none, .int .u32 0, .int .i32 0, .int .u32 0, .int .i32 0, .int .u32 0, .map none, .int .u32 0, .int .i32 0, .int .u32 0, .int .i32 0, .int .u32 0, .map none, .int .i64 0]

/-- A new tally. -/
theorem Tal.fresh (W : World) (own : Own) (B : Nat) (hB : B ≤ W.heap.size) (hold : ∀ x t, own x = some t → x < W.heap.size) (hlow : ∀ x t, own x = some t → B ≤ x) :
    Tal (W.alloc (.cells zeros 44)) own B W.heap.size 0 (fun _ _ => 0) 0 := by
  have hn : own W.heap.size = none := by
    cases h : own W.heap.size with
    | none => rfl
    | some t => exact absurd (hold _ _ h) (by omega)
  refine ⟨⟨hn, hB, by simp, fun j => by simp, fun x t h => by have := hold x t h; simp; omega, hlow⟩, fun i hi => .inl ?_, by simp [zeros], fun _ _ => by simp, by simp⟩
  obtain rfl | rfl | rfl | rfl : i = 0 ∨ i = 1 ∨ i = 2 ∨ i = 3 := by omega
  all_goals exact ⟨by simp [zeros], by simp [zeros], by simp [zeros], by simp [zeros], fun _ => rfl⟩

end Go.Proofs.Ytohgckdkkeiggaa
