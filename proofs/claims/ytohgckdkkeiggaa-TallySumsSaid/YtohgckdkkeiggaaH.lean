/- A part of the proof of a law of roundel: contracts of functions and lemmas, each true as it stands; no condition beyond those that its theorems state. -/
import Derived.Test.YtohgckdkkeiggaaG
namespace Go.Proofs.Ytohgckdkkeiggaa
set_option linter.unusedSimpArgs false
set_option linter.unusedVariables false
open Go.RowKit Go.Maps

/-- A slice of whole numbers in memory that was there from the first. -/
def SlB (W : World) (B : Nat) (A : Option Addr) (n : Nat) (gs : List Int) : Prop :=
  gs.length = n ∧ (∀ g ∈ gs, I64 g) ∧ (0 < n → ∃ x o, A = some ⟨x, o, none⟩ ∧ x < B ∧ ∀ j, j < n → W.cell? ⟨x, o + j, none⟩ = some (.int .i64 (gs.getD j 0)))

structure Tk where
  core : Int
  thread : Int
  gs : List Int
  idle : Bool
instance : Inhabited Tk := ⟨⟨0, 0, [], false⟩⟩

/-- A slice of ticks in memory that was there from the first. -/
def TL (W : World) (B : Nat) (A : Option Addr) (n : Nat) (l : List Tk) : Prop :=
  l.length = n ∧ (∀ t ∈ l, I64 t.core ∧ I64 t.thread) ∧ (0 < n → ∃ x o, A = some ⟨x, o, none⟩ ∧ x < B ∧ ∀ j, j < n → ∃ GA gn gc, W.cell? ⟨x, o + j * 4, none⟩ = some (.int .i64 (l.getD j default).core) ∧ W.cell? ⟨x, o + j * 4 + 1, none⟩ = some (.int .i64 (l.getD j default).thread) ∧
    W.cell? ⟨x, o + j * 4 + 2, none⟩ = some (.slice GA gn gc) ∧ W.cell? ⟨x, o + j * 4 + 3, none⟩ = some (.bool (l.getD j default).idle) ∧ SlB W B GA gn (l.getD j default).gs ∧ (GA = none → gc = 0))

theorem SlB.kept {W W' : World} {B : Nat} {A : Option Addr} {n : Nat} {gs : List Int} (h : SlB W B A n gs) (hb : Below B W W') : SlB W' B A n gs := by
  refine ⟨h.1, h.2.1, fun hn => ?_⟩
  obtain ⟨x, o, rfl, hx, hc⟩ := h.2.2 hn
  exact ⟨x, o, rfl, hx, fun j hj => (hb.cell (p := ⟨x, o + j, none⟩) hx).trans (hc j hj)⟩
theorem TL.kept {W W' : World} {B : Nat} {A : Option Addr} {n : Nat} {l : List Tk} (h : TL W B A n l) (hb : Below B W W') : TL W' B A n l := by
  refine ⟨h.1, h.2.1, fun hn => ?_⟩
  obtain ⟨x, o, rfl, hx, hc⟩ := h.2.2 hn
  refine ⟨x, o, rfl, hx, fun j hj => ?_⟩
  obtain ⟨GA, gn, gc, h0, h1, h2, h3, h4, h5⟩ := hc j hj
  exact ⟨GA, gn, gc, (hb.cell (p := ⟨x, _, none⟩) hx).trans h0, (hb.cell (p := ⟨x, _, none⟩) hx).trans h1, (hb.cell (p := ⟨x, _, none⟩) hx).trans h2, (hb.cell (p := ⟨x, _, none⟩) hx).trans h3, h4.kept hb, h5⟩

theorem SlB.sl {W : World} {own : Own} {B b : Nat} {A : Option Addr} {n : Nat} {gs : List Int} (h : SlB W B A n gs) (S : Sits W own B b) : Sl W own b A n gs := by
  refine ⟨h.1, h.2.1, fun hn => ?_⟩
  obtain ⟨x, o, rfl, hx, hc⟩ := h.2.2 hn
  have h1 := S.base
  have h2 := S.lt
  exact ⟨x, o, rfl, by omega, by omega, fun off key e => by have := S.low _ _ e; omega, hc⟩

theorem TChg.below {W W' : World} {own : Own} {B b : Nat} (h : TChg own b W W') (S : Sits W own B b) : Below B W W' := by
  have h1 := S.base
  have h2 := S.lt
  exact ⟨h.os, h.tape, h.output, h.size, fun x hx => h.blk x (by omega) (by omega) (fun off key e => by have := S.low _ _ e; omega)⟩

theorem Tal.alloc {W : World} {own : Own} {B b m : Nat} {F : Nat → Int → Int} {T : Int} (h : Tal W own B b m F T) (o : Obj) : Tal (W.alloc o) own B b m F T :=
  ⟨h.sits.alloc o, fun i hi => (h.book i hi).kept h.sits.old (fun j _ _ => World.cell?_alloc_past _ _ _ h.sits.lt) (fun x key hx => Below.heap_alloc _ _ _ (h.sits.old _ _ hx)) (fun _ _ => rfl), (World.cell?_alloc_past _ _ _ h.sits.lt).trans h.total, h.bnd, h.bndT⟩
theorem TChg.alloc {own : Own} {b : Nat} {W W' : World} (h : TChg own b W W') (o : Obj) : TChg own b W (W'.alloc o) :=
  ⟨h.os, h.tape, h.output, by have := h.size; simp; omega, fun x hx hb hn => (Below.heap_alloc W' o x (Nat.lt_of_lt_of_le hx h.size)).trans (h.blk x hx hb hn)⟩
theorem Tal.mono {W : World} {own : Own} {B b m m' : Nat} {F : Nat → Int → Int} {T : Int} (h : Tal W own B b m F T) (hm : m ≤ m') : Tal W own B b m' F T :=
  ⟨h.sits, fun i hi => (h.book i hi).mono hm, h.total, fun i k => by have := h.bnd i k; omega, by have := h.bndT; omega⟩

def oneF (F : Nat → Int → Int) (t : Tk) : Nat → Int → Int := if t.idle = true then bumpF F 3 t.core else tickF F t.core t.thread t.gs
def doF (F : Nat → Int → Int) (l : List Tk) : Nat → Int → Int := l.foldl oneF F
theorem doF_snoc (F : Nat → Int → Int) (l : List Tk) (j : Nat) (hj : j < l.length) : doF F (l.take (j + 1)) = oneF (doF F (l.take j)) (l.getD j default) := by
  unfold doF
  rw [List.take_succ_eq_append_getElem hj, List.foldl_append]
  simp [List.getD, hj]

set_option maxHeartbeats 1600000 in
theorem few_any (B : Nat) (A : Option Addr) (n c : Nat) (l : List Tk) (hnc : n ≤ c) (hc63 : c ≤ 9223372036854775807) (W : World) (hBW : B ≤ W.heap.size) (hl : TL W B A n l) :
    Calls Try.prog 8 #[.slice A n c] W fun e W' => e = .returned (.bool (decide ((∀ t ∈ l, t.gs.length ≤ 10) ∧ n ≤ 80))) ∧ Ext W W' := by
  have HL := Lib.hid hl
  clear hl
  go_enter Try.func8, Try.ntmps8
  go_wp2
  go_loopw [7] (fun i wr => ∃ j : Nat, j ≤ n ∧ i = .int .i64 (j : Int) ∧ (∀ i, i < j → (l.getD i default).gs.length ≤ 10) ∧ Ext W wr) (fun i _ => n - (intOf i).toNat)
  case atStart => exact ⟨0, by omega, rfl, fun i h => by omega, Ext.refl _⟩
  case round =>
    obtain ⟨j, hj, rfl, hall, hew⟩ := hrel
    have HA := Lib.hid hall
    clear hall
    by_cases hjn : j < n
    · obtain ⟨h1, h2, h3⟩ := HL.out.kept (hew.below.mono hBW)
      obtain ⟨x, o, rfl, hx, hcell⟩ := h3 (by omega)
      obtain ⟨GA, gn, gc, k0, k1, k2, k3, hsl, hGc⟩ := hcell j hjn
      have hgl := hsl.1
      obtain ⟨g, hgx⟩ : ∃ g, g = l.getD j default := ⟨_, rfl⟩
      rw [← hgx] at k0 k1 k3 hgl
      have q3 : (j : Int) < (n : Int) := by omega
      have HG := Lib.hid hgx
      have HH := Lib.hid hgl
      clear hgx h1 h2 h3 hcell hsl hgl
      by_cases h10 : gn ≤ 10
      · have h10' : (gn : Int) ≤ 10 := by omega
        go_wp2
        go_roundw
        case rel =>
          refine ⟨j + 1, by omega, by go_num, fun i hi => ?_, hew.alloc _⟩
          by_cases e : i = j
          · rw [e, ← HG.out, HH.out]; exact h10
          · exact HA.out i (by omega)
        case measure => simp [intOf]; omega
      · have h10' : (10 : Int) < (gn : Int) := by omega
        go_wp2
        go_ret
        refine ⟨?_, hew.alloc _⟩
        have hno : ¬ ((∀ t ∈ l, t.gs.length ≤ 10) ∧ n ≤ 80) := fun h => by
          have hj' : j < l.length := by have := HL.out.1; omega
          have := h.1 (l.getD j default) (by simp [List.getD, hj'])
          rw [← HG.out, HH.out] at this
          omega
        rw [decide_eq_false hno]
        rfl
    · obtain rfl : j = n := by omega
      have hll := HL.out.1
      have hall : ∀ t ∈ l, t.gs.length ≤ 10 := fun t ht => by
        obtain ⟨i, hi, rfl⟩ := List.getElem_of_mem ht
        have := HA.out i (by omega)
        simpa [List.getD, hi] using this
      have HA2 := Lib.hid hall
      clear hall
      by_cases h80 : j ≤ 80
      · have h80' : (j : Int) ≤ 80 := by omega
        go_wp2
        go_ret
        refine ⟨?_, hew⟩
        rw [decide_eq_true (show (∀ t ∈ l, t.gs.length ≤ 10) ∧ j ≤ 80 from ⟨HA2.out, h80⟩)]
        rfl
      · have h80' : (80 : Int) < (j : Int) := by omega
        go_wp2
        go_ret
        refine ⟨?_, hew⟩
        rw [decide_eq_false (show ¬ ((∀ t ∈ l, t.gs.length ≤ 10) ∧ j ≤ 80) from fun h => h80 h.2)]
        simp
        omega

set_option maxHeartbeats 1600000 in
/-- Ticks, counted. -/
theorem do_all (own : Own) (B b m : Nat) (hm : m ≤ 10000) (F : Nat → Int → Int) (T : Int) (A : Option Addr) (n c : Nat) (l : List Tk) (hnc : n ≤ c) (hc63 : c ≤ 9223372036854775807) (hn : n ≤ 80) (hfew : ∀ t ∈ l, t.gs.length ≤ 10)
    (W : World) (hBW : B ≤ W.heap.size) (H : Tal W own B b m F T) (hl : TL W B A n l) :
    Calls Try.prog 9 #[.pointer (some ⟨b, 0, none⟩), .slice A n c] W fun e W' => e = .returned (.tuple #[]) ∧ TAfter own B b (m + 13 * n) (doF F l) (T + n) W W' := by
  have HL := Lib.hid hl
  have HW := Lib.hid hfew
  clear hl hfew
  go_enter Try.func9, Try.ntmps9
  go_wp2
  go_loopw [8] (fun i wr => ∃ (j : Nat) (ownr : Own), j ≤ n ∧ i = .int .i64 (j : Int) ∧ Tal wr ownr B b (m + 13 * j) (doF F (l.take j)) (T + j) ∧ TChg own b W wr ∧ ∀ x, x < W.heap.size → ownr x = own x) (fun i _ => n - (intOf i).toNat)
  case atStart => exact ⟨0, own, by omega, rfl, by simpa [doF] using H, TChg.refl _ _ _, fun _ _ => rfl⟩
  case round =>
    obtain ⟨j, ownr, hj, rfl, Hr, hCr, hor⟩ := hrel
    by_cases hjn : j < n
    · obtain ⟨h1, h2, h3⟩ := HL.out.kept (hCr.below H.sits)
      obtain ⟨x, o, rfl, hx, hcell⟩ := h3 (by omega)
      obtain ⟨GA, gn, gc, k0, k1, k2, k3, hsl, hGc⟩ := hcell j hjn
      have hF := doF_snoc F l j (by omega)
      have hj' : j < l.length := by omega
      have hmem : l.getD j default ∈ l := by simp [List.getD, hj']
      have hI := h2 _ hmem
      have hgl := HW.out _ hmem
      obtain ⟨⟨gc1, gt1, gs1, gi1⟩, hgx⟩ : ∃ g, g = l.getD j default := ⟨_, rfl⟩
      rw [← hgx] at k0 k1 k3 hsl hF hI hgl
      have hI1 := hI.1
      have hI2 := hI.2
      dsimp only at k0 k1 k3 hsl hI1 hI2 hgl
      have hgn := hsl.1
      have q3 : (j : Int) < (n : Int) := by omega
      have HF := Lib.hid hF
      have hxw : x < wr.heap.size := by have := Hr.sits.base; have := Hr.sits.lt; omega
      have hs1 := Lib.hid hsl
      clear hgx h1 h2 h3 hcell hsl hF hI hmem
      have Ha := Hr.alloc (.cells #[.int .i64 gc1, .int .i64 gt1, .slice GA gn gc, .bool gi1] 49)
      have hCa := hCr.alloc (.cells #[.int .i64 gc1, .int .i64 gt1, .slice GA gn gc, .bool gi1] 49)
      have hBs : Below B wr (wr.alloc (.cells #[.int .i64 gc1, .int .i64 gt1, .slice GA gn gc, .bool gi1] 49)) := (Below.refl _ _).alloc (by have := Hr.sits.base; have := Hr.sits.lt; omega) _
      have hsl2 := (hs1.out.kept hBs).sl Ha.sits
      cases gi1 with
      | true =>
        go_wp2_with (first
          | (go_at_call 18; refine (idle_any ownr B b (m + 13 * j) (by omega) (doF F (l.take j)) (T + j) gc1 hI1 _ Ha).mono ?_; rintro e W3 ⟨rfl, own3, H3, hC3, ho3⟩))
        go_roundw
        case rel =>
          refine ⟨j + 1, own3, by omega, by go_num, ?_, hCa.trans hC3 hor, fun x hx => (ho3 x (Nat.lt_of_lt_of_le hx hCa.size)).trans (hor x hx)⟩
          rw [HF.out]
          have z := H3.mono (m' := m + 13 * (j + 1)) (by omega)
          rw [show T + (j : Int) + 1 = T + ((j + 1 : Nat) : Int) by omega] at z
          exact z
        case measure => simp [intOf]; omega
      | false =>
        go_wp2_with (first
          | (go_at_call 17; refine (tick_any ownr B b (m + 13 * j) (by omega) (doF F (l.take j)) (T + j) gc1 gt1 hI1 hI2 GA gn gc gs1 (by omega) _ Ha hsl2).mono ?_; rintro e W3 ⟨rfl, own3, H3, hC3, ho3⟩))
        go_roundw
        case rel =>
          refine ⟨j + 1, own3, by omega, by go_num, ?_, hCa.trans hC3 hor, fun x hx => (ho3 x (Nat.lt_of_lt_of_le hx hCa.size)).trans (hor x hx)⟩
          rw [HF.out]
          have z := H3.mono (m' := m + 13 * (j + 1)) (by omega)
          rw [show T + (j : Int) + 1 = T + ((j + 1 : Nat) : Int) by omega] at z
          exact z
        case measure => simp [intOf]; omega
    · obtain rfl : j = n := by omega
      have hll : l.take j = l := List.take_of_length_le (by rw [HL.out.1]; exact Nat.le_refl _)
      rw [hll] at Hr
      go_wp2
      go_end0
      exact ⟨rfl, ownr, Hr, hCr, hor⟩
end Go.Proofs.Ytohgckdkkeiggaa
