/- A part of the proof of a law of roundel: contracts of functions and lemmas, each true as it stands; no condition beyond those that its theorems state. -/
import Derived.Test.YtiekicjloapepaaE
import Derived.Deep.Onto
namespace Go.Proofs.Ytiekicjloapepaa
set_option linter.unusedSimpArgs false
set_option linter.unusedVariables false
open Go.RowKit

theorem put_b (B : Nat) (v : Value) (l : List Int) (N K : Int) (hK0 : 0 ≤ K) (hK : K ≤ 8) (hN0 : 0 ≤ N) (hN : N < 18446744073709551616) (hl : l.length ≤ 1000) (w : World) (hown : OwnB w B v l) (hB : B ≤ w.heap.size) :
    Calls Try.prog 24 #[v, .int .u64 N, .int .i64 K] w fun e w' => ∃ v', e = .returned v' ∧ OwnB w' B v' (l ++ beL K.toNat N.toNat) ∧ Below B w w' := by
  obtain ⟨k, rfl⟩ := Int.eq_ofNat_of_zero_le hK0
  obtain ⟨n, rfl⟩ := Int.eq_ofNat_of_zero_le hN0
  refine (put_any B v l n k (by omega) (by omega) hl w hown hB).mono ?_
  rintro e w' ⟨v', rfl, h1, h2, h3⟩
  refine ⟨v', rfl, by simpa using h1, (Below.refl _ _).grown h2 hB ?_⟩
  intro g hg
  exact (World.ownsRow.lt hown g hg).1

/-- A good command's bytes. -/
def encL (n : Nat) (A B M : Int) : List Int := [(n : Int)] ++ beL (wa n).toNat A.toNat ++ beL (wb n).toNat B.toNat ++ beL (wm n).toNat M.toNat

theorem Below.cells {B : Nat} {W w1 : World} (hb : Below B W w1) : (∀ b o, b < B → w1.cell? ⟨b, o, none⟩ = W.cell? ⟨b, o, none⟩) ∧ (∀ b o, b < B → w1.frozen? ⟨b, o, none⟩ = W.frozen? ⟨b, o, none⟩) :=
  ⟨fun b o h => Below.cell (p := ⟨b, o, none⟩) hb h, fun b o h => Below.frozen (p := ⟨b, o, none⟩) hb h⟩

theorem OwnB.lit (w : World) (B g : Nat) (hB : B ≤ w.heap.size) (hg : w.heap.size = g) (x : Int) : OwnB (w.alloc (.cells #[.int .u8 x] 5)) B (.slice (some ⟨g, 0, none⟩) 1 1) [x] := by
  subst hg
  exact World.ownsRow_lit w #[.int .u8 x] 1 hB (by unfold maxLen; omega) rfl

theorem enc_bad (n : Nat) (A B M : Int) (h : goodB n A B M = false) (w : World) :
    Calls Try.prog 10 #[.agg #[.int .u8 (n : Int), .int .i64 A, .int .i64 B, .int .u64 M]] w fun e w' => e = .returned (.tuple #[.slice none 0 0, .int .i64 1]) ∧ Ext w w' := by
  go_enter Try.func10, Try.ntmps10
  go_wp2_with (first | (go_at_call 20; refine (good_any _ _ _ _ _).mono ?_; rintro e w1 ⟨rfl, hb⟩; obtain ⟨hbc, hbf⟩ := Ext.cells hb; have hbz := Ext.sz hb; (try simp only [World.size_alloc, World.size_drew, World.heap_drewN, World.size_setCell] at hbz)))
  go_ret2
  refine ⟨rfl, ?_⟩
  (repeat (first | with_reducible exact Ext.refl _ | with_reducible assumption | with_reducible apply Ext.drew | with_reducible apply Ext.drewN | with_reducible apply Ext.alloc | (with_reducible refine Ext.setCell ?_ (by simp <;> omega) _) | (with_reducible refine Ext.trans ?_ (by with_reducible assumption))))

theorem fits_lt {A k : Int} (hk : k = 0 ∨ k = 1 ∨ k = 2 ∨ k = 4) (h : fitsB A k = true) : 0 ≤ A ∧ A < 4294967296 := by
  unfold fitsB at h
  rcases hk with rfl | rfl | rfl | rfl <;> simp at h <;> omega

set_option maxHeartbeats 400000 in
theorem enc_good (n : Nat) (A B M : Int) (hM0 : 0 ≤ M) (hM : M < 18446744073709551616) (h : goodB n A B M = true) (w : World) :
    Calls Try.prog 10 #[.agg #[.int .u8 (n : Int), .int .i64 A, .int .i64 B, .int .u64 M]] w
      fun e w' => ∃ v, e = .returned (.tuple #[v, .int .i64 0]) ∧ OwnB w' w.heap.size v (encL n A B M) ∧ Ext w w' := by
  have hg := h
  simp only [goodB, Bool.and_eq_true] at hg
  obtain ⟨⟨⟨h0, h1⟩, h2⟩, _⟩ := hg
  obtain ⟨hA0, hA⟩ := fits_lt (wa_fit n) h1
  obtain ⟨hB0, hB⟩ := fits_lt (wb_fit n) h2
  have ha := wa_in n
  have hb' := wb_in n
  have hm := wm_in n
  have ha0 : 0 ≤ wa n := by omega
  have ha1 : wa n ≤ 8 := by omega
  have hb0 : 0 ≤ wb n := by omega
  have hb1 : wb n ≤ 8 := by omega
  have hm0 : 0 ≤ wm n := by omega
  have hm1 : wm n ≤ 8 := by omega
  clear ha hb' hm h1 h2
  go_enter Try.func10, Try.ntmps10
  go_wp2_with (first | (go_at_call 20; refine (good_any _ _ _ _ _).mono ?_; rintro e w1 ⟨rfl, hb⟩; obtain ⟨hbc, hbf⟩ := Ext.cells hb; have hbz := Ext.sz hb; (try simp only [World.size_alloc, World.size_drew, World.heap_drewN, World.size_setCell] at hbz); have hbx0 : w.heap.size < w1.heap.size := (by omega); have hby0 : w.heap.size < w1.heap.size + 1 := (by omega); have hbp0 := fun o => hbc (w.heap.size) o (by first | omega | (simp only [World.size_alloc, World.size_drew, World.heap_drewN, World.size_setCell] <;> omega)); have hbq0 := fun o => hbf (w.heap.size) o (by first | omega | (simp only [World.size_alloc, World.size_drew, World.heap_drewN, World.size_setCell] <;> omega))) | (go_at_call 23; refine (of_any _ _).mono ?_; rintro e w2 ⟨rfl, hc⟩; obtain ⟨hcc, hcf⟩ := Ext.cells hc; have hcz := Ext.sz hc; (try simp only [World.size_alloc, World.size_drew, World.heap_drewN, World.size_setCell] at hcz); have hcx0 : w.heap.size < w2.heap.size := (by omega); have hcy0 : w.heap.size < w2.heap.size + 1 := (by omega); have hcp0 := fun o => hcc (w.heap.size) o (by first | omega | (simp only [World.size_alloc, World.size_drew, World.heap_drewN, World.size_setCell] <;> omega)); have hcq0 := fun o => hcf (w.heap.size) o (by first | omega | (simp only [World.size_alloc, World.size_drew, World.heap_drewN, World.size_setCell] <;> omega))))
  refine (put_b (w2.heap.size + 1) _ [(n : Int)] A (wa n) ha0 ha1 hA0 (by omega) (by simp) _ (OwnB.lit _ _ _ (by simp) (by simp) _) (by simp)).mono ?_
  rintro e w3 ⟨v3, rfl, hown3, hb3⟩
  obtain ⟨hdc, hdf⟩ := Below.cells hb3
  have hdz := hb3.size
  simp only [World.size_alloc] at hdz
  have c1 : w3.cell? ⟨w.heap.size, 2, none⟩ = some (.int .i64 B) := by
    rw [hdc _ _ (by omega)]
    simp [go_sem, hcc, hbc, hbx0, hcx0]
  have c2 : w3.cell? ⟨w.heap.size, 3, none⟩ = some (.int .u64 M) := by
    rw [hdc _ _ (by omega)]
    simp [go_sem, hcc, hbc, hbx0, hcx0]
  have c3 : w3.cell? ⟨w2.heap.size, 2, none⟩ = some (.int .i64 (wb n)) := by
    rw [hdc _ _ (by omega)]
    simp
  have c4 : w3.cell? ⟨w2.heap.size, 3, none⟩ = some (.int .i64 (wm n)) := by
    rw [hdc _ _ (by omega)]
    simp
  have x3 : w.heap.size < w3.heap.size := by omega
  clear hdc hdf hcc hcf hbc hbf
  have hB64 : B < 18446744073709551616 := by omega
  have hown3d : OwnB w3.drew (w2.heap.size + 1) v3 ([(n : Int)] ++ beL (wa n).toNat A.toNat) := hown3
  have hl3 : ([(n : Int)] ++ beL (wa n).toNat A.toNat).length ≤ 1000 := by simp [beL_length]; omega
  have hl4 : ([(n : Int)] ++ beL (wa n).toNat A.toNat ++ beL (wb n).toNat B.toNat).length ≤ 1000 := by simp [beL_length]; omega
  have hs3 : w2.heap.size + 1 ≤ w3.drew.heap.size := by simp; omega
  have y1 : w.heap.size < w2.heap.size + 1 := by omega
  have wB : IntKind.u64.wrap B = B := IntWalk.u64_in _ (by omega)
  go_wp2_with fail
  go_region_held3 (fun w' => w'.cell? ⟨w.heap.size, 2, none⟩ = some (.int .i64 B) ∧ w'.cell? ⟨w.heap.size, 3, none⟩ = some (.int .u64 M) ∧ w'.cell? ⟨w2.heap.size, 2, none⟩ = some (.int .i64 (wb n)) ∧ w'.cell? ⟨w2.heap.size, 3, none⟩ = some (.int .i64 (wm n)))
    (go_keep)
    (first
      | (go_at_call 24; (with_reducible refine (put_b (w2.heap.size + 1) v4 _ _ _ hm0 hm1 hM0 hM hl4 _ hown4 hs4).mono ?_); rintro e w5 ⟨v5, rfl, hown5, hb5⟩; obtain ⟨hgc, hgf⟩ := Below.cells hb5)
      | (go_at_call 24; (with_reducible refine (put_b (w2.heap.size + 1) v3 _ _ _ hb0 hb1 hB0 hB64 hl3 w3.drew hown3d hs3).mono ?_); rintro e w4 ⟨v4, rfl, hown4, hb4⟩; obtain ⟨hec, hef⟩ := Below.cells hb4; have hs4 := Nat.le_trans hs3 hb4.size))
  go_wp2
  go_ret2
  refine ⟨v5, rfl, World.ownsRow.mono hown5 (by omega), ?_⟩
  have e3 : Ext w w3 := Ext.step (((((Ext.refl w).alloc _).trans hb).trans hc).alloc _ |>.alloc _) hb3 (by omega)
  exact Ext.step (Ext.step e3.drew hb4 (by omega)) hb5 (by omega)
end Go.Proofs.Ytiekicjloapepaa
