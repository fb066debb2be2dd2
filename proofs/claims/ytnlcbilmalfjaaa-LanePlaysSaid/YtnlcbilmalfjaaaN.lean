/- A part of the proof of a law of roundel: contracts of functions and lemmas, each true as it stands; no condition beyond those that its theorems state. -/
import Derived.Test.YtnlcbilmalfjaaaF
import Derived.Laws.MakeOwn
namespace Go.Proofs.Ytnlcbilmalfjaaa
set_option linter.unusedSimpArgs false
set_option linter.unusedVariables false
open Go.RowKit

def zLinks (n : Nat) : Array Value := madeCells #[.int .i64 0, .int .i64 0, .int .i64 0] (n * 3)
def zMany (n : Nat) : Array Value := madeCells #[.int .i64 0] n
theorem zLinks_get (n i : Nat) (h : i < n * 3) : (zLinks n)[i]? = some (.int .i64 0) := by
  unfold zLinks madeCells
  rw [Array.getElem?_map]
  have : (Array.range (n * 3))[i]? = some i := by simp [h]
  rw [this]
  have h3 : i % 3 = 0 ∨ i % 3 = 1 ∨ i % 3 = 2 := by omega
  simp only [Option.map_some, List.size_toArray, List.length_cons, List.length_nil]
  rcases h3 with e | e | e <;> simp [e]
theorem zMany_get (n i : Nat) (h : i < n) : (zMany n)[i]? = some (.int .i64 0) := by
  unfold zMany madeCells
  rw [Array.getElem?_map]
  have : (Array.range n)[i]? = some i := by simp [h]
  rw [this]
  simp [Nat.mod_one]
theorem make_links (n : Nat) (hn : n ≤ 1000) (w : World) : (Instr.makeSlice 61 (.int .i64 (n : Int)) (.int .i64 (n : Int))).run Try.prog w = .ok (.slice (some ⟨w.heap.size, 0, none⟩) n n) (w.alloc (.cells (zLinks n) 65)) := by
  obtain ⟨i, hi, hz, hs, hb⟩ := info_parts (P := Try.prog) (e := 65) (z := .agg #[.int .i64 0, .int .i64 0, .int .i64 0]) (size := 3) (bytes := 24) (by kernel_rfl)
  have z := run_make (P := Try.prog) w 61 65 i _ Try.underlying61 hi hz .i64 .i64 (n : Int) (n : Int) (by omega) (Int.le_refl _) (by rw [hb]; omega) (by omega)
  rw [hs] at z
  simpa [zLinks, Value.cells] using z
theorem make_many (n : Nat) (hn : n ≤ 1000) (w : World) : (Instr.makeSlice 22 (.int .i64 (n : Int)) (.int .i64 (n : Int))).run Try.prog w = .ok (.slice (some ⟨w.heap.size, 0, none⟩) n n) (w.alloc (.cells (zMany n) 3)) := by
  obtain ⟨i, hi, hz, hs, hb⟩ := info_parts (P := Try.prog) (e := 3) (z := .int .i64 0) (size := 1) (bytes := 8) (by kernel_rfl)
  have z := run_make (P := Try.prog) w 22 3 i _ Try.underlying22 hi hz .i64 .i64 (n : Int) (n : Int) (by omega) (Int.le_refl _) (by rw [hb]; omega) (by omega)
  rw [hs] at z
  simpa [zMany, Value.cells] using z

section
variable (W : World) (a b c : Array Value) (ta tb tc : TypeId) (i : Nat)
theorem al1 : (((W.alloc (.cells a ta)).alloc (.cells b tb)).alloc (.cells c tc)).cell? ⟨W.heap.size, i, none⟩ = a[i]? := by
  rw [World.cell?_alloc_past _ _ _ (by simp <;> omega), World.cell?_alloc_past _ _ _ (by simp), World.cell?_alloc_new]
theorem al2 : (((W.alloc (.cells a ta)).alloc (.cells b tb)).alloc (.cells c tc)).cell? ⟨W.heap.size + 1, i, none⟩ = b[i]? := by
  rw [World.cell?_alloc_past _ _ _ (by simp)]
  have z := World.cell?_alloc_new (W.alloc (.cells a ta)) b tb i
  rwa [show (W.alloc (.cells a ta)).heap.size = W.heap.size + 1 by simp] at z
theorem al3 : (((W.alloc (.cells a ta)).alloc (.cells b tb)).alloc (.cells c tc)).cell? ⟨W.heap.size + 1 + 1, i, none⟩ = c[i]? := by
  have z := World.cell?_alloc_new ((W.alloc (.cells a ta)).alloc (.cells b tb)) c tc i
  rwa [show ((W.alloc (.cells a ta)).alloc (.cells b tb)).heap.size = W.heap.size + 1 + 1 by simp] at z
theorem az1 : (((W.alloc (.cells a ta)).alloc (.cells b tb)).alloc (.cells c tc)).frozen? ⟨W.heap.size, i, none⟩ = false := by
  rw [World.frozen?_alloc_past _ _ _ (by simp <;> omega), World.frozen?_alloc_past _ _ _ (by simp), World.frozen?_alloc_new]
theorem az2 : (((W.alloc (.cells a ta)).alloc (.cells b tb)).alloc (.cells c tc)).frozen? ⟨W.heap.size + 1, i, none⟩ = false := by
  rw [World.frozen?_alloc_past _ _ _ (by simp)]
  have z := World.frozen?_alloc_new (W.alloc (.cells a ta)) b tb i
  rwa [show (W.alloc (.cells a ta)).heap.size = W.heap.size + 1 by simp] at z
end
theorem Rg.congr {W : World} {B rb lb mb N M : Nat} {g g' : G} (h : Rg W B rb lb mb N M g) (h0 : ∀ i, i < N + M → g.lst i = g'.lst i) (h1 : ∀ i, i < N + M → g.nx i = g'.nx i) (h2 : ∀ i, i < N + M → g.pv i = g'.pv i) (h3 : ∀ l, l < M → g.many l = g'.many l) : Rg W B rb lb mb N M g' :=
  ⟨h.c0, h.c1, h.c2, fun i hi => by rw [h.l0 i hi, h0 i hi], fun i hi => by rw [h.l1 i hi, h1 i hi], fun i hi => by rw [h.l2 i hi, h2 i hi], fun l hl => by rw [h.mm l hl, h3 l hl], h.fl, h.fm, h.d1, h.d2, h.d3, h.lt, h.ge, h.sm⟩
def gA (j : Nat) : G := { lst := fun i => if i < j then -1 else 0, nx := fun i => if i < j then i else 0, pv := fun i => if i < j then i else 0, many := fun _ => 0 }
def gB (N j : Nat) : G := { lst := fun i => if i < N then -1 else if i < N + j then ((i - N : Nat) : Int) else -1, nx := fun i => i, pv := fun i => i, many := fun _ => 0 }

theorem New_bad (n m : Int) (h : n < 1 ∨ 64 < n ∨ m < 1 ∨ 64 < m) (W : World) :
    Calls Try.prog 27 #[.int .i64 n, .int .i64 m] W fun e W' => e = .returned (.tuple #[.pointer none, .int .i64 14]) ∧ Ext W W' := by
  go_enter Try.func27, Try.ntmps27
  by_cases h1 : n < 1
  · go_wp2
    go_ret2
    exact ⟨rfl, Ext.refl W⟩
  · by_cases h2 : 64 < n
    · have h1' : 1 ≤ n := by omega
      go_wp2
      go_ret2
      exact ⟨rfl, Ext.refl W⟩
    · have h1' : 1 ≤ n := by omega
      have h2' : n ≤ 64 := by omega
      by_cases h3 : m < 1
      · go_wp2
        go_ret2
        exact ⟨rfl, Ext.refl W⟩
      · have h4 : 64 < m := by omega
        have h3' : 1 ≤ m := by omega
        go_wp2
        go_ret2
        exact ⟨rfl, Ext.refl W⟩

set_option maxRecDepth 100000 in
set_option maxHeartbeats 1600000 in
theorem New_ok (N M : Nat) (h1 : 1 ≤ N) (h2 : N ≤ 64) (h3 : 1 ≤ M) (h4 : M ≤ 64) (W : World) :
    Calls Try.prog 27 #[.int .i64 (N : Int), .int .i64 (M : Int)] W fun e W' => ∃ rb lb mb, e = .returned (.tuple #[.pointer (some ⟨rb, 0, none⟩), .int .i64 0]) ∧ Rr W' W.heap.size rb lb mb N M (List.replicate M []) ∧ Ext W W' := by
  have k1 := make_links (N + M) (by omega)
  have k2 := make_many M (by omega)
  have e1 : ((N + M : Nat) : Int) = (N : Int) + (M : Int) := by omega
  rw [e1] at k1
  have w1 : IntKind.i64.wrap ((N : Int) + (M : Int)) = (N : Int) + (M : Int) := IntWalk.i64_in _ (by omega)
  have p1 : (1 : Int) ≤ (N : Int) := by omega
  have p2 : (N : Int) ≤ 64 := by omega
  have p3 : (1 : Int) ≤ (M : Int) := by omega
  have p4 : (M : Int) ≤ 64 := by omega
  clear e1
  go_enter Try.func27, Try.ntmps27
  go_wp2_with fail
  go_region
  · skip
    refine post_abs (fun Wx => Rg Wx W.heap.size (W.heap.size + 1 + 1) W.heap.size (W.heap.size + 1) N M (gA 0) ∧ Ext W Wx) ⟨?_, ((((Ext.refl W).alloc _).alloc _).alloc _).drew⟩ ?_
    · refine Rg.drew ⟨(al3 ..).trans rfl, (al3 ..).trans rfl, (al3 ..).trans rfl, fun i hi => (al1 ..).trans ((zLinks_get (N + M) (i * 3) (by omega)).trans rfl), fun i hi => (al1 ..).trans ((zLinks_get (N + M) (i * 3 + 1) (by omega)).trans rfl), fun i hi => (al1 ..).trans ((zLinks_get (N + M) (i * 3 + 2) (by omega)).trans rfl), fun l hl => (al2 ..).trans (zMany_get M l hl), fun o => az1 .., fun o => az2 .., by omega, by omega, by omega, ⟨by simp, by simp <;> omega, by simp <;> omega⟩, ⟨by omega, by omega, by omega⟩, ⟨h2, h4⟩⟩
    clear k1 k2 w1
    rintro w1 ⟨R1, E1⟩
    have a0 := R1.c0
    go_wp2_with fail
    go_loopw [37] (fun i wr => ∃ j : Nat, j ≤ N + M ∧ i = .int .i64 (j : Int) ∧ Rg wr W.heap.size (W.heap.size + 1 + 1) W.heap.size (W.heap.size + 1) N M (gA j) ∧ Ext W wr) (fun i _ => (N + M) - (intOf i).toNat)
    case atStart => exact ⟨0, by omega, rfl, R1, E1⟩
    case round =>
      obtain ⟨j, hj, rfl, Hr, er⟩ := hrel
      clear a0 R1 E1
      by_cases hjn : j < N + M
      · have a0 := Hr.c0
        have b0 := Hr.l0 j hjn
        have b1 := Hr.l1 j hjn
        have b2 := Hr.l2 j hjn
        have f1 := Hr.fl
        have q3 : (j : Int) < (N : Int) + (M : Int) := by omega
        have z := ((Hr.set0 j hjn (-1)).set1 j hjn j).set2 j hjn j
        have z2 := Rg.congr (g' := gA (j + 1)) z (fun i hi => by simp [gA, upd]; split <;> split <;> first | rfl | omega | (split <;> first | rfl | omega)) (fun i hi => by simp [gA, upd]; split <;> split <;> first | rfl | omega | (split <;> first | rfl | omega)) (fun i hi => by simp [gA, upd]; split <;> split <;> first | rfl | omega | (split <;> first | rfl | omega)) (fun l hl => rfl)
        have e2 := ((er.setCell (p := ⟨W.heap.size, j * 3, none⟩) (by simp) (.int .i64 (-1))).setCell (p := ⟨W.heap.size, j * 3 + 1, none⟩) (by simp) (.int .i64 (j : Int))).setCell (p := ⟨W.heap.size, j * 3 + 2, none⟩) (by simp) (.int .i64 (j : Int))
        have Z := Lib.hid (And.intro z2 e2)
        clear z z2 e2
        go_wp2_with fail
        go_roundw
        case rel => exact ⟨j + 1, by omega, by go_num, Z.out.1, Z.out.2⟩
        case measure => simp [intOf]; omega
      · obtain rfl : j = N + M := by omega
        have R2 : Rg wr W.heap.size (W.heap.size + 1 + 1) W.heap.size (W.heap.size + 1) N M (gB N 0) := Rg.congr Hr (fun i hi => by simp [gA, gB]; omega) (fun i hi => by simp [gA, gB]; omega) (fun i hi => by simp [gA, gB]; omega) (fun l hl => rfl)
        generalize wr = w2 at *
        clear Hr hj hjn
        go_wp2_with fail
        go_loopw [51] (fun i wr' => ∃ j : Nat, j ≤ M ∧ i = .int .i64 (j : Int) ∧ Rg wr' W.heap.size (W.heap.size + 1 + 1) W.heap.size (W.heap.size + 1) N M (gB N j) ∧ Ext W wr') (fun i _ => M - (intOf i).toNat)
        case atStart => exact ⟨0, by omega, rfl, R2, er⟩
        case round =>
          obtain ⟨j, hj, rfl, Hr, er'⟩ := hrel
          clear R2 er
          by_cases hjn : j < M
          · have a0 := Hr.c0
            have b0 := Hr.l0 (N + j) (by omega)
            have f1 := Hr.fl
            have q0 : 0 ≤ (N : Int) + (j : Int) := by omega
            have q1 : (N : Int) + (j : Int) < (N : Int) + (M : Int) := by omega
            have q2 : ((N : Int) + (j : Int)).toNat = N + j := by omega
            have q3 : (j : Int) < (M : Int) := by omega
            have w5 : IntKind.i64.wrap ((N : Int) + (j : Int)) = (N : Int) + (j : Int) := IntWalk.i64_in _ (by omega)
            have z := Hr.set0 (N + j) (by omega) (j : Int)
            have z2 := Rg.congr (g' := gB N (j + 1)) z (fun i hi => by
              simp only [gB, upd]
              by_cases e1 : i = N + j
              · subst e1
                rw [if_pos rfl, if_neg (by omega), if_pos (by omega)]
                omega
              · rw [if_neg e1]
                by_cases e2 : i < N
                · rw [if_pos e2, if_pos e2]
                · rw [if_neg e2, if_neg e2]
                  by_cases e3 : i < N + j
                  · rw [if_pos e3, if_pos (by omega)]
                  · rw [if_neg e3, if_neg (by omega)]) (fun i hi => rfl) (fun i hi => rfl) (fun l hl => rfl)
            have e2 := er'.setCell (p := ⟨W.heap.size, (N + j) * 3, none⟩) (by simp) (.int .i64 (j : Int))
            have Z := Lib.hid (And.intro z2 e2)
            clear z z2 e2
            go_wp2_with fail
            go_roundw
            case rel => exact ⟨j + 1, by omega, by go_num, Z.out.1, Z.out.2⟩
            case measure => simp [intOf]; omega
          · obtain rfl : j = M := by omega
            go_wp2_with fail
            go_ret2
            refine ⟨W.heap.size + 1 + 1, W.heap.size, (W.heap.size + 1), rfl, ⟨newG N j, ?_, Linked.fresh N j⟩, er'⟩
            refine Rg.congr Hr (fun i hi => ?_) (fun i hi => rfl) (fun i hi => rfl) (fun l hl => rfl)
            simp only [gB, newG]
            by_cases e2 : i < N
            · rw [if_pos e2, if_pos e2]
            · rw [if_neg e2, if_neg e2, if_pos hi]
  · skip
    refine post_abs (fun Wx => Rg Wx W.heap.size (W.heap.size + 1 + 1) (W.heap.size + 1) W.heap.size N M (gA 0) ∧ Ext W Wx) ⟨?_, ((((Ext.refl W).alloc _).alloc _).alloc _).drew⟩ ?_
    · refine Rg.drew ⟨(al3 ..).trans rfl, (al3 ..).trans rfl, (al3 ..).trans rfl, fun i hi => (al2 ..).trans ((zLinks_get (N + M) (i * 3) (by omega)).trans rfl), fun i hi => (al2 ..).trans ((zLinks_get (N + M) (i * 3 + 1) (by omega)).trans rfl), fun i hi => (al2 ..).trans ((zLinks_get (N + M) (i * 3 + 2) (by omega)).trans rfl), fun l hl => (al1 ..).trans (zMany_get M l hl), fun o => az2 .., fun o => az1 .., by omega, by omega, by omega, ⟨by simp, by simp <;> omega, by simp <;> omega⟩, ⟨by omega, by omega, by omega⟩, ⟨h2, h4⟩⟩
    clear k1 k2 w1
    rintro w1 ⟨R1, E1⟩
    have a0 := R1.c0
    go_wp2_with fail
    go_loopw [37] (fun i wr => ∃ j : Nat, j ≤ N + M ∧ i = .int .i64 (j : Int) ∧ Rg wr W.heap.size (W.heap.size + 1 + 1) (W.heap.size + 1) W.heap.size N M (gA j) ∧ Ext W wr) (fun i _ => (N + M) - (intOf i).toNat)
    case atStart => exact ⟨0, by omega, rfl, R1, E1⟩
    case round =>
      obtain ⟨j, hj, rfl, Hr, er⟩ := hrel
      clear a0 R1 E1
      by_cases hjn : j < N + M
      · have a0 := Hr.c0
        have b0 := Hr.l0 j hjn
        have b1 := Hr.l1 j hjn
        have b2 := Hr.l2 j hjn
        have f1 := Hr.fl
        have q3 : (j : Int) < (N : Int) + (M : Int) := by omega
        have z := ((Hr.set0 j hjn (-1)).set1 j hjn j).set2 j hjn j
        have z2 := Rg.congr (g' := gA (j + 1)) z (fun i hi => by simp [gA, upd]; split <;> split <;> first | rfl | omega | (split <;> first | rfl | omega)) (fun i hi => by simp [gA, upd]; split <;> split <;> first | rfl | omega | (split <;> first | rfl | omega)) (fun i hi => by simp [gA, upd]; split <;> split <;> first | rfl | omega | (split <;> first | rfl | omega)) (fun l hl => rfl)
        have e2 := ((er.setCell (p := ⟨(W.heap.size + 1), j * 3, none⟩) (by simp) (.int .i64 (-1))).setCell (p := ⟨(W.heap.size + 1), j * 3 + 1, none⟩) (by simp) (.int .i64 (j : Int))).setCell (p := ⟨(W.heap.size + 1), j * 3 + 2, none⟩) (by simp) (.int .i64 (j : Int))
        have Z := Lib.hid (And.intro z2 e2)
        clear z z2 e2
        go_wp2_with fail
        go_roundw
        case rel => exact ⟨j + 1, by omega, by go_num, Z.out.1, Z.out.2⟩
        case measure => simp [intOf]; omega
      · obtain rfl : j = N + M := by omega
        have R2 : Rg wr W.heap.size (W.heap.size + 1 + 1) (W.heap.size + 1) W.heap.size N M (gB N 0) := Rg.congr Hr (fun i hi => by simp [gA, gB]; omega) (fun i hi => by simp [gA, gB]; omega) (fun i hi => by simp [gA, gB]; omega) (fun l hl => rfl)
        generalize wr = w2 at *
        clear Hr hj hjn
        go_wp2_with fail
        go_loopw [51] (fun i wr' => ∃ j : Nat, j ≤ M ∧ i = .int .i64 (j : Int) ∧ Rg wr' W.heap.size (W.heap.size + 1 + 1) (W.heap.size + 1) W.heap.size N M (gB N j) ∧ Ext W wr') (fun i _ => M - (intOf i).toNat)
        case atStart => exact ⟨0, by omega, rfl, R2, er⟩
        case round =>
          obtain ⟨j, hj, rfl, Hr, er'⟩ := hrel
          clear R2 er
          by_cases hjn : j < M
          · have a0 := Hr.c0
            have b0 := Hr.l0 (N + j) (by omega)
            have f1 := Hr.fl
            have q0 : 0 ≤ (N : Int) + (j : Int) := by omega
            have q1 : (N : Int) + (j : Int) < (N : Int) + (M : Int) := by omega
            have q2 : ((N : Int) + (j : Int)).toNat = N + j := by omega
            have q3 : (j : Int) < (M : Int) := by omega
            have w5 : IntKind.i64.wrap ((N : Int) + (j : Int)) = (N : Int) + (j : Int) := IntWalk.i64_in _ (by omega)
            have z := Hr.set0 (N + j) (by omega) (j : Int)
            have z2 := Rg.congr (g' := gB N (j + 1)) z (fun i hi => by
              simp only [gB, upd]
              by_cases e1 : i = N + j
              · subst e1
                rw [if_pos rfl, if_neg (by omega), if_pos (by omega)]
                omega
              · rw [if_neg e1]
                by_cases e2 : i < N
                · rw [if_pos e2, if_pos e2]
                · rw [if_neg e2, if_neg e2]
                  by_cases e3 : i < N + j
                  · rw [if_pos e3, if_pos (by omega)]
                  · rw [if_neg e3, if_neg (by omega)]) (fun i hi => rfl) (fun i hi => rfl) (fun l hl => rfl)
            have e2 := er'.setCell (p := ⟨(W.heap.size + 1), (N + j) * 3, none⟩) (by simp) (.int .i64 (j : Int))
            have Z := Lib.hid (And.intro z2 e2)
            clear z z2 e2
            go_wp2_with fail
            go_roundw
            case rel => exact ⟨j + 1, by omega, by go_num, Z.out.1, Z.out.2⟩
            case measure => simp [intOf]; omega
          · obtain rfl : j = M := by omega
            go_wp2_with fail
            go_ret2
            refine ⟨W.heap.size + 1 + 1, (W.heap.size + 1), W.heap.size, rfl, ⟨newG N j, ?_, Linked.fresh N j⟩, er'⟩
            refine Rg.congr Hr (fun i hi => ?_) (fun i hi => rfl) (fun i hi => rfl) (fun l hl => rfl)
            simp only [gB, newG]
            by_cases e2 : i < N
            · rw [if_pos e2, if_pos e2]
            · rw [if_neg e2, if_neg e2, if_pos hi]
end Go.Proofs.Ytnlcbilmalfjaaa
