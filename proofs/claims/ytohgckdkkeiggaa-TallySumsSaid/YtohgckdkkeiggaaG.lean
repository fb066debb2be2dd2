/- A part of the proof of a law of roundel: contracts of functions and lemmas, each true as it stands; no condition beyond those that its theorems state. -/
import Derived.Test.YtohgckdkkeiggaaF
namespace Go.Proofs.Ytohgckdkkeiggaa
set_option linter.unusedSimpArgs false
set_option linter.unusedVariables false
open Go.RowKit Go.Maps

/-- A slice of whole numbers that the tally at b does not touch. -/
def Sl (W : World) (own : Own) (b : Nat) (A : Option Addr) (n : Nat) (gs : List Int) : Prop :=
  gs.length = n ∧ (∀ g ∈ gs, I64 g) ∧ (0 < n → ∃ x o, A = some ⟨x, o, none⟩ ∧ x < W.heap.size ∧ x ≠ b ∧ (∀ off key, own x ≠ some (b, off, key)) ∧ ∀ j, j < n → W.cell? ⟨x, o + j, none⟩ = some (.int .i64 (gs.getD j 0)))

theorem Sl.kept {W W' : World} {own own' : Own} {b : Nat} {A : Option Addr} {n : Nat} {gs : List Int} (h : Sl W own b A n gs) (hC : TChg own b W W') (ho : ∀ x, x < W.heap.size → own' x = own x) : Sl W' own' b A n gs := by
  refine ⟨h.1, h.2.1, fun hn => ?_⟩
  obtain ⟨x, o, rfl, hx, hb, ht, hc⟩ := h.2.2 hn
  exact ⟨x, o, rfl, Nat.lt_of_lt_of_le hx hC.size, hb, fun off key => by rw [ho x hx]; exact ht off key, fun j hj => (World.cell?_of_block (a := ⟨x, o + j, none⟩) (hC.blk x hx hb ht)).trans (hc j hj)⟩

/-- The total, one more. -/
theorem totT (own : Own) (B b m : Nat) (hm : m ≤ 1000000) (F : Nat → Int → Int) (T : Int) (W : World) (H : Tal W own B b m F T) :
    Calls Try.prog 24 #[.pointer (some ⟨b, 24, none⟩), .int .i64 1] W fun e W' => e = .returned (.int .i64 (T + 1)) ∧ TAfter own B b (m + 1) F (T + 1) W W' := by
  have hT := H.bndT
  refine (add_any ⟨b, 24, none⟩ T (T + 1) (wrap1 hT.1 (by omega)) W H.total (H.sits.frz _)).mono ?_
  rintro e W' ⟨rfl, rfl⟩
  refine ⟨rfl, own, ⟨H.sits.setCell _ _, fun i hi => ?_, World.cell?_setCell_same _ _ _ H.total, fun i k => by have := H.bnd i k; omega, by omega⟩, ⟨rfl, rfl, rfl, by simp, fun x _ hb _ => Below.heap_setCell W _ _ x hb⟩, fun _ _ => rfl⟩
  refine ((H.book i hi).mono (by omega)).kept H.sits.old (fun j h1 h2 => World.cell?_setCell_other _ _ _ _ (by simp <;> omega)) (fun x key hx => Below.heap_setCell W _ _ x (fun e => by rw [e, H.sits.tag] at hx; cases hx)) (fun _ _ => rfl)

theorem TAfter.then {own : Own} {B b m' : Nat} {F' : Nat → Int → Int} {T' : Int} {W W1 W2 : World} {own1 : Own} (hC : TChg own b W W1) (ho : ∀ x, x < W.heap.size → own1 x = own x) (k : TAfter own1 B b m' F' T' W1 W2) : TAfter own B b m' F' T' W W2 := by
  obtain ⟨own2, hT, hC2, ho2⟩ := k
  exact ⟨own2, hT, hC.trans hC2 ho, fun x hx => (ho2 x (Nat.lt_of_lt_of_le hx hC.size)).trans (ho x hx)⟩

theorem idle_any (own : Own) (B b m : Nat) (hm : m ≤ 100000) (F : Nat → Int → Int) (T : Int) (c : Int) (hc : I64 c) (W : World) (H : Tal W own B b m F T) :
    Calls Try.prog 18 #[.pointer (some ⟨b, 0, none⟩), .int .i64 c] W fun e W' => e = .returned (.tuple #[]) ∧ TAfter own B b (m + 2) (bumpF F 3 c) (T + 1) W W' := by
  go_enter Try.func18, Try.ntmps18
  go_wp2_with (first
    | (go_at_call 23; refine (countT own B b m (by omega) F T 3 _ (by omega) rfl c hc W H).mono ?_; rintro e W1 ⟨rfl, own1, H1, hC1, ho1⟩)
    | (go_at_call 24; refine (totT own1 B b (m + 1) (by omega) (bumpF F 3 c) T W1 H1).mono ?_; rintro e W2 ⟨rfl, ha⟩))
  go_end0
  exact ⟨rfl, TAfter.then hC1 ho1 ha⟩

theorem forget_any (own : Own) (B b m : Nat) (hm : m ≤ 100000) (F : Nat → Int → Int) (T : Int) (k : Int) (hk : I64 k) (W : World) (H : Tal W own B b m F T) :
    Calls Try.prog 16 #[.pointer (some ⟨b, 0, none⟩), .int .i64 k] W fun e W' => e = .returned (.tuple #[]) ∧ TAfter own B b (m + 1) (put1 F 0 (upd (F 0) k 0)) T W W' := by
  go_enter Try.func16, Try.ntmps16
  go_wp2_with (first
    | (go_at_call 21; refine (at_any own B b 0 m (by omega) (F 0) k hk W H.sits (H.book 0 (by omega))).mono ?_; rintro e W1 ⟨c, own1, mb, D, rfl, hL, hhas, hat, S1, hC, ho, hoc, hcc, hcf⟩)
    | (go_at_call 22; refine (store_any ⟨c, 0, none⟩ _ 0 W1 hcc hcf).mono ?_; rintro e W2 ⟨rfl, rfl⟩))
  go_end0
  refine ⟨rfl, H.step 0 (by omega) (by omega) (fun k' => ?_) ⟨own1, .inr ⟨mb, D, hL.bump S1.tag _ hhas hat hoc (S1.low _ _ hoc) hcc hcf⟩, S1.setCell _ _, hC.setCtr hoc S1.tag ho _, ho⟩⟩
  have := H.bnd 0 k'
  unfold upd
  split <;> omega

/-- Groups, one by one. -/
def gsF (F : Nat → Int → Int) (gs : List Int) : Nat → Int → Int := gs.foldl (fun F g => bumpF F 1 g) F
def tickF (F : Nat → Int → Int) (c t : Int) (gs : List Int) : Nat → Int → Int := gsF (bumpF (bumpF F 2 c) 0 t) gs
theorem gsF_snoc (F : Nat → Int → Int) (gs : List Int) (j : Nat) (hj : j < gs.length) : gsF F (gs.take (j + 1)) = bumpF (gsF F (gs.take j)) 1 (gs.getD j 0) := by
  unfold gsF
  rw [List.take_succ_eq_append_getElem hj, List.foldl_append]
  simp [List.getD, hj]

set_option maxHeartbeats 1600000 in
theorem tick_any (own : Own) (B b m : Nat) (hm : m ≤ 100000) (F : Nat → Int → Int) (T : Int) (c t : Int) (hc : I64 c) (ht : I64 t) (A : Option Addr) (n cp : Nat) (gs : List Int) (hn : n ≤ 1000) (W : World) (H : Tal W own B b m F T) (hs : Sl W own b A n gs) :
    Calls Try.prog 17 #[.pointer (some ⟨b, 0, none⟩), .int .i64 c, .int .i64 t, .slice A n cp] W fun e W' => e = .returned (.tuple #[]) ∧ TAfter own B b (m + 3 + n) (tickF F c t gs) (T + 1) W W' := by
  go_enter Try.func17, Try.ntmps17
  go_wp2_with (first
    | (go_at_call 23; refine (countT own B b m (by omega) F T 2 _ (by omega) rfl c hc W H).mono ?_; rintro e W1 ⟨rfl, own1, H1, hC1, ho1⟩)
    | (go_at_call 23; refine (countT own1 B b (m + 1) (by omega) (bumpF F 2 c) T 0 _ (by omega) rfl t ht W1 H1).mono ?_; rintro e W2 ⟨rfl, own2, H2, hC2', ho2'⟩))
  have hC2 := hC1.trans hC2' ho1
  have ho2 : ∀ x, x < W.heap.size → own2 x = own x := fun x hx => (ho2' x (Nat.lt_of_lt_of_le hx hC1.size)).trans (ho1 x hx)
  have hs2 := hs.kept hC2 ho2
  have HS := Lib.hid hs2
  clear hs2 H1 hC1 ho1 hC2' ho2' hs H
  go_loopw [22] (fun i wr => ∃ (j : Nat) (ownr : Own), j ≤ n ∧ i = .int .i64 (j : Int) ∧ Tal wr ownr B b (m + 2 + j) (gsF (bumpF (bumpF F 2 c) 0 t) (gs.take j)) T ∧ TChg own2 b W2 wr ∧ ∀ x, x < W2.heap.size → ownr x = own2 x) (fun i _ => n - (intOf i).toNat)
  case atStart => exact ⟨0, own2, by omega, rfl, H2, TChg.refl _ _ _, fun _ _ => rfl⟩
  case round =>
    obtain ⟨j, ownr, hj, rfl, Hr, hCr, hor⟩ := hrel
    by_cases hjn : j < n
    · obtain ⟨h1, h2, h3⟩ := HS.out.kept hCr hor
      obtain ⟨x, o, rfl, hx, hxb, hxt, hcell⟩ := h3 (by omega)
      have hcj := hcell j hjn
      have hg := h2 (gs.getD j 0) (by
        have hj' : j < gs.length := by omega
        simp [List.getD, hj'])
      have hF := gsF_snoc (bumpF (bumpF F 2 c) 0 t) gs j (by omega)
      have q3 : (j : Int) < (n : Int) := by omega
      obtain ⟨g, hgx⟩ : ∃ g, g = gs.getD j 0 := ⟨_, rfl⟩
      rw [← hgx] at hcj hg hF
      clear hgx
      have HF := Lib.hid hF
      clear hF h2 h3 hcell
      go_wp2_with (first
        | (go_at_call 23; refine (countT ownr B b (m + 2 + j) (by omega) (gsF (bumpF (bumpF F 2 c) 0 t) (gs.take j)) T 1 6 (by omega) rfl g hg wr Hr).mono ?_; rintro e W3 ⟨rfl, own3, H3, hC3, ho3⟩))
      go_roundw
      case rel => exact ⟨j + 1, own3, by omega, by go_num, by rw [HF.out]; exact H3, hCr.trans hC3 hor, fun x hx => (ho3 x (Nat.lt_of_lt_of_le hx hCr.size)).trans (hor x hx)⟩
      case measure => simp [intOf]; omega
    · obtain rfl : j = n := by omega
      have hl : gs.take j = gs := List.take_of_length_le (by rw [HS.out.1]; exact Nat.le_refl _)
      rw [hl] at Hr
      go_wp2_with (first
        | (go_at_call 24; refine (totT ownr B b (m + 2 + j) (by omega) (gsF (bumpF (bumpF F 2 c) 0 t) gs) T wr Hr).mono ?_; rintro e W4 ⟨rfl, ha⟩))
      go_end0
      have z := TAfter.then (hC2.trans hCr ho2) (fun x hx => (hor x (Nat.lt_of_lt_of_le hx hC2.size)).trans (ho2 x hx)) ha
      rw [show m + 2 + j + 1 = m + 3 + j by omega] at z
      exact ⟨rfl, z⟩
end Go.Proofs.Ytohgckdkkeiggaa
