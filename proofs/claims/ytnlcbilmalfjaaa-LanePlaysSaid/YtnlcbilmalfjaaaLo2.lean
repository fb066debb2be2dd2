/- A part of the proof of a law of roundel: contracts of functions and lemmas, each true as it stands; no condition beyond those that its theorems state. -/
import Derived.Test.YtnlcbilmalfjaaaLo1
namespace Go.Proofs.Ytnlcbilmalfjaaa
set_option linter.unusedSimpArgs false
set_option linter.unusedVariables false
open Go.RowKit

theorem lastI_snoc (r : List Nat) (x : Nat) : lastI (r ++ [x]) = (x : Int) := by
  cases r with
  | nil => rfl
  | cons a r => simp [lastI, lastOf_append, lastOf]
theorem lastI_mem {r : List Nat} (h : r ≠ []) : ∃ y ∈ r, lastI r = (y : Int) ∧ r = r.dropLast ++ [y] := by
  have e := List.dropLast_concat_getLast h
  refine ⟨r.getLast h, List.getLast_mem h, ?_, e.symm⟩
  conv => lhs; rw [← e]
  exact lastI_snoc _ _
theorem Lc.setAny {tg lb mb : Nat} (W : World) {p : Nat} (h : p = tg ∨ p = lb ∨ p = mb) (o : Nat) (v : Value) : Lc tg lb mb W (W.setCell ⟨p, o, none⟩ v) :=
  ⟨rfl, rfl, rfl, by simp, fun x hx h0 h1 h2 => Below.heap_setCell _ _ _ _ (by rcases h with h | h | h <;> simp [h] <;> assumption)⟩
theorem Lc.cellOf {tg lb mb : Nat} {W V : World} (h : Lc tg lb mb W V) {b o : Nat} {v : Value} (hc : W.cell? ⟨b, o, none⟩ = some v) (h0 : b ≠ tg) (h1 : b ≠ lb) (h2 : b ≠ mb) : V.cell? ⟨b, o, none⟩ = some v :=
  (World.cell?_of_block (a := ⟨b, o, none⟩) (h.blk b (block_lt_of_cell hc) h0 h1 h2)).trans hc

set_option maxHeartbeats 1600000 in
theorem nodes_order {B rb lb mb M : Nat} {rows : List (List Nat)} (A : Option Addr) (n c m : Nat) (t : Nat → Int) (z : Int) (s b1 b2 tb ob' : Nat) (W : World) (hn : n ≤ 64) (hm : m ≤ 255) (hR : Rr W B rb lb mb 64 M rows) (hrow : laid t n = rowI rows z)
    (hb1 : W.cell? ⟨b1, 0, none⟩ = some (.pointer (some ⟨rb, 0, none⟩))) (hb2 : W.cell? ⟨b2, 0, none⟩ = some (.int .i64 z)) (ct : W.cell? ⟨tb, 0, none⟩ = some (.slice A n c)) (cm : W.cell? ⟨ob', 0, none⟩ = some (.int .u8 (m : Int)))
    (hl : 0 < n → ∃ x o, A = some ⟨x, o, none⟩ ∧ x < s ∧ ∀ j, j < n → W.cell? ⟨x, o + j, none⟩ = some (.int .i64 (t j)))
    (c1 : W.cell? ⟨s, 0, none⟩ = some (.int .i64 (-1))) (c2 : W.cell? ⟨s + 1, 0, none⟩ = some (.int .i64 0)) (c3 : W.cell? ⟨s + 1 + 1, 0, none⟩ = some (.bool true))
    (f1 : W.frozen? ⟨s, 0, none⟩ = false) (f2 : W.frozen? ⟨s + 1, 0, none⟩ = false) (f3 : W.frozen? ⟨s + 1 + 1, 0, none⟩ = false)
    (l1 : rb < s) (l2 : lb < s) (l3 : mb < s) (l4 : tb < s) (l5 : ob' < s) (l6 : s + 1 + 1 < b1) :
    Calls Try.prog 33 #[.func (.func 11) #[] #[.pointer (some ⟨tb, 0, none⟩), .pointer (some ⟨s + 1 + 1, 0, none⟩), .pointer (some ⟨s, 0, none⟩), .pointer (some ⟨s + 1, 0, none⟩), .pointer (some ⟨ob', 0, none⟩)], .pointer (some ⟨b1, 0, none⟩), .pointer (some ⟨b2, 0, none⟩)] W fun e V => (∃ v, e = .returned v) ∧
      Lc s (s + 1) (s + 1 + 1) W V ∧ V.cell? ⟨s + 1 + 1, 0, none⟩ = some (.bool true) ∧ V.cell? ⟨s + 1, 0, none⟩ = some (.int .i64 ((min n (max 1 m) : Nat) : Int)) := by
  have hlen : (laid t n).length = n := laid_length t n
  refine (nodes_call 11 _ (enters_of Try.func11 (by kernel_rfl) rfl) z b1 b2 W (laid t n) hrow
    (fun pre V => Lc s (s + 1) (s + 1 + 1) W V ∧ (V.cell? ⟨s + 1 + 1, 0, none⟩ = some (.bool true) ∧ V.cell? ⟨s, 0, none⟩ = some (.int .i64 (lastI pre)) ∧ V.cell? ⟨s + 1, 0, none⟩ = some (.int .i64 ((pre.length : Nat) : Int))) ∧ (V.frozen? ⟨s, 0, none⟩ = false ∧ V.frozen? ⟨s + 1, 0, none⟩ = false ∧ V.frozen? ⟨s + 1 + 1, 0, none⟩ = false) ∧ (pre = [] ∨ pre.length < m))
    (fun pre V => Lc s (s + 1) (s + 1 + 1) W V ∧ V.cell? ⟨s + 1 + 1, 0, none⟩ = some (.bool true) ∧ V.cell? ⟨s + 1, 0, none⟩ = some (.int .i64 ((pre.length : Nat) : Int)) ∧ m ≤ pre.length ∧ (pre.length = 1 ∨ pre.length ≤ m) ∧ 0 < pre.length)
    hR ?_ hb1 hb2 ?_ ?_).mono ?_
  · rintro pre V ⟨C, -, -, -⟩
    obtain ⟨q0, -⟩ := hR.rlt
    obtain ⟨-, -, q1, q2⟩ := hR.ge
    exact ⟨hR.blk C.size (C.blk rb q0 (by omega) (by omega) (by omega)) (C.blk lb q1 (by omega) (by omega) (by omega)) (C.blk mb q2 (by omega) (by omega) (by omega)), C.cellOf hb1 (by omega) (by omega) (by omega)⟩
  · rintro pre x V ⟨C, ⟨v3, v1, v2⟩, ⟨g1, g2, g3⟩, hp⟩ hpre hx
    have hxr : x ∈ laid t n := hpre.subset (by simp)
    have hxn := (laid_mem t n x).1 hxr
    have hpl : pre.length < n := by have := hpre.length_le; simp at this; omega
    obtain ⟨a, o, rfl, ha, hcell⟩ := hl (by omega)
    have hla : lastI pre = -1 ∨ ∃ y : Nat, lastI pre = (y : Int) ∧ y < n ∧ Ahead t y x := by
      by_cases e : pre = []
      · exact .inl (by rw [e]; rfl)
      · obtain ⟨y, hy, h1, h2⟩ := lastI_mem e
        refine .inr ⟨y, h1, (laid_mem t n y).1 (hpre.subset (by simp [hy])), ?_⟩
        have hs := (laid_sorted t n).sublist hpre.sublist
        rw [List.pairwise_append] at hs
        exact hs.2.2 y hy x (by simp)
    refine (order1_any x n c pre.length m a o tb (s + 1 + 1) s (s + 1) ob' (lastI pre) t V hxn hn (by omega) hm hla (C.cellOf ct (by omega) (by omega) (by omega)) v3 v1 v2 (C.cellOf cm (by omega) (by omega) (by omega)) (fun j hj => C.cellOf (hcell j hj) (by omega) (by omega) (by omega)) g3 g1 g2 (by omega) (by omega) (by omega) (by omega) (by omega) (by omega)).mono ?_
    rintro e V' ⟨rfl, q, rfl⟩
    have C' : Lc s (s + 1) (s + 1 + 1) W ((((V.drewN q).setCell ⟨s + 1 + 1, 0, none⟩ (.bool true)).setCell ⟨s, 0, none⟩ (.int .i64 (x : Int))).setCell ⟨s + 1, 0, none⟩ (.int .i64 ((pre.length : Int) + 1))) :=
      (((C.trans (Lc.of_ext ((Ext.refl V).drewN q))).trans (Lc.setAny _ (by omega) _ _)).trans (Lc.setAny _ (by omega) _ _)).trans (Lc.setAny _ (by omega) _ _)
    have w2 : ((((V.drewN q).setCell ⟨s + 1 + 1, 0, none⟩ (.bool true)).setCell ⟨s, 0, none⟩ (.int .i64 (x : Int))).setCell ⟨s + 1, 0, none⟩ (.int .i64 ((pre.length : Int) + 1))).cell? ⟨s + 1, 0, none⟩ = some (.int .i64 (((pre ++ [x]).length : Nat) : Int)) := by
      rw [List.length_append]
      refine (World.cell?_setCell_same (u := .int .i64 (pre.length : Int)) _ _ _ ?_).trans (by simp)
      rw [World.cell?_setCell_other _ _ _ _ (by simp), World.cell?_setCell_other _ _ _ _ (by simp)]
      exact v2
    have w3 : ((((V.drewN q).setCell ⟨s + 1 + 1, 0, none⟩ (.bool true)).setCell ⟨s, 0, none⟩ (.int .i64 (x : Int))).setCell ⟨s + 1, 0, none⟩ (.int .i64 ((pre.length : Int) + 1))).cell? ⟨s + 1 + 1, 0, none⟩ = some (.bool true) := by
      rw [World.cell?_setCell_other _ _ _ _ (by simp), World.cell?_setCell_other _ _ _ _ (by simp)]
      exact World.cell?_setCell_same (u := .bool true) _ _ _ v3
    have w1 : ((((V.drewN q).setCell ⟨s + 1 + 1, 0, none⟩ (.bool true)).setCell ⟨s, 0, none⟩ (.int .i64 (x : Int))).setCell ⟨s + 1, 0, none⟩ (.int .i64 ((pre.length : Int) + 1))).cell? ⟨s, 0, none⟩ = some (.int .i64 (lastI (pre ++ [x]))) := by
      rw [lastI_snoc, World.cell?_setCell_other _ _ _ _ (by simp)]
      refine World.cell?_setCell_same (u := .int .i64 (lastI pre)) _ _ _ ?_
      rw [World.cell?_setCell_other _ _ _ _ (by simp)]
      exact v1
    refine ⟨_, rfl, ?_⟩
    by_cases hk : pre.length + 1 < m
    · exact .inl ⟨decide_eq_true hk, C', ⟨w3, w1, w2⟩, ⟨by simpa using g1, by simpa using g2, by simpa using g3⟩, .inr (by simpa using hk)⟩
    · refine .inr ⟨decide_eq_false hk, C', w3, w2, by simp; omega, ?_, by simp⟩
      rcases hp with rfl | hp
      · exact .inl rfl
      · exact .inr (by simp; omega)
  · intro W' he
    exact ⟨Lc.of_ext he, ⟨(he.cell (p := ⟨s + 1 + 1, 0, none⟩) (block_lt_of_cell c3)).trans c3, (he.cell (p := ⟨s, 0, none⟩) (block_lt_of_cell c1)).trans c1, (he.cell (p := ⟨s + 1, 0, none⟩) (block_lt_of_cell c2)).trans c2⟩, ⟨(he.cells.2 _ _ (block_lt_of_cell c1)).trans f1, (he.cells.2 _ _ (block_lt_of_cell c2)).trans f2, (he.cells.2 _ _ (block_lt_of_cell c3)).trans f3⟩, .inl rfl⟩
  · rintro e V ⟨hv, ⟨C, ⟨v3, v1, v2⟩, -, hp⟩ | ⟨pre, hpre, C, v3, v2, h1, h2, h3⟩⟩
    · refine ⟨hv, C, v3, ?_⟩
      rw [v2, hlen]
      congr 2
      rcases hp with hp | hp
      · rw [hp] at hlen; simp at hlen; omega
      · omega
    · refine ⟨hv, C, v3, ?_⟩
      have := hpre.length_le
      rw [v2]
      congr 2
      omega

theorem order_far (A : Option Addr) (n c : Nat) (m : Int) (hnc : n ≤ c) (hc63 : c ≤ 9223372036854775807) (hf : 64 < n) (W : World) :
    Calls Try.prog 3 #[.slice A n c, .int .u8 m] W fun e W' => e = .returned (.bool true) ∧ Ext W W' := by
  have q : (64 : Int) < (n : Int) := by omega
  go_enter Try.func3, Try.ntmps3
  go_wp2_with fail
  refine (awake_any _).mono ?_
  rintro e w1 ⟨rfl, he1⟩
  have b1 : w1.cell? ⟨W.heap.size, 0, none⟩ = some (.slice A n c) := (he1.cell (p := ⟨W.heap.size, 0, none⟩) (by simp; omega)).trans ((two1 ..).trans rfl)
  have E1 : Ext W w1 := (((Ext.refl _).alloc _).alloc _).trans he1
  clear he1
  go_wp2_with fail
  refine (awake_any _).mono ?_
  rintro e w2 ⟨rfl, he2⟩
  go_wp2_with fail
  go_ret
  exact ⟨rfl, E1.trans he2⟩

set_option maxRecDepth 100000 in
set_option maxHeartbeats 1600000 in
theorem order_ok (A : Option Addr) (n c : Nat) (t : Nat → Int) (m : Nat) (hm : m ≤ 255) (hnc : n ≤ c) (hc63 : c ≤ 9223372036854775807) (hf : n ≤ 64) (W : World) (hl : IL W A n t) :
    Calls Try.prog 3 #[.slice A n c, .int .u8 (m : Int)] W fun e W' => e = .returned (.bool true) ∧ Ext W W' := by
  have q : (n : Int) ≤ 64 := by omega
  have HL := Lib.hid hl
  clear hl
  go_enter Try.func3, Try.ntmps3
  go_wp2_with fail
  refine (awake_any _).mono ?_
  rintro e w1 ⟨rfl, he1⟩
  have b1 : w1.cell? ⟨W.heap.size, 0, none⟩ = some (.slice A n c) := (he1.cell (p := ⟨W.heap.size, 0, none⟩) (by simp; omega)).trans ((two1 ..).trans rfl)
  have b2 : w1.cell? ⟨W.heap.size + 1, 0, none⟩ = some (.int .u8 (m : Int)) := (he1.cell (p := ⟨W.heap.size + 1, 0, none⟩) (by simp)).trans ((two2 ..).trans rfl)
  have E1 : Ext W w1 := (((Ext.refl _).alloc _).alloc _).trans he1
  have z1 : W.heap.size + 2 ≤ w1.heap.size := by have := he1.sz; simpa using this
  clear he1
  go_wp2_with fail
  refine (LNew_ok 64 1 (by omega) (by omega) (by omega) (by omega) w1).mono ?_
  rintro e w2 ⟨nb, tg, rb, lb, mb, rfl, L2, e2⟩
  rw [← oneRow_zero 1 0 t] at L2
  obtain ⟨g1, g2, -, -⟩ := L2.rr.ge
  have g0 : w1.heap.size ≤ tg := L2.ge.2
  have c1 : w2.cell? ⟨W.heap.size, 0, none⟩ = some (.slice A n c) := (e2.cell (p := ⟨W.heap.size, 0, none⟩) (by simp; omega)).trans b1
  have c2 : w2.cell? ⟨W.heap.size + 1, 0, none⟩ = some (.int .u8 (m : Int)) := (e2.cell (p := ⟨W.heap.size + 1, 0, none⟩) (by simp; omega)).trans b2
  have E2 := E1.trans e2
  clear b1 b2 e2
  go_wp2_with fail
  go_loopw [32] (fun i wr => ∃ (j : Nat) (T : Nat → Int), j ≤ n ∧ i = .int .i64 (j : Int) ∧ (∀ k, k < j → T k = t k) ∧ Ls wr w1.heap.size nb tg rb lb mb 64 1 (oneRow 1 0 t j) T ∧ wr.cell? ⟨W.heap.size, 0, none⟩ = some (.slice A n c) ∧ wr.cell? ⟨W.heap.size + 1, 0, none⟩ = some (.int .u8 (m : Int)) ∧ Ext W wr) (fun i _ => n - (intOf i).toNat)
  case atStart => exact ⟨0, _, by omega, rfl, fun k hk => absurd hk (Nat.not_lt_zero k), L2, c1, c2, E2⟩
  case round =>
    obtain ⟨j, T, hj, rfl, hT, Lr, d1, d2, er⟩ := hrel
    clear L2 c1 c2 E2
    by_cases hjn : j < n
    · obtain ⟨x, o, rfl, hx, hcell⟩ := HL.out (by omega)
      have k0 : wr.cell? ⟨x, o + j, none⟩ = some (.int .i64 (t j)) := (er.cell (p := ⟨x, o + j, none⟩) hx).trans (hcell j hjn)
      have q3 : (j : Int) < (n : Int) := by omega
      obtain ⟨s1, s2⟩ := laneS_one Lr.rr hT (by omega) (by omega : j < 64)
      have HS := Lib.hid s2
      clear hcell hx hT s2
      go_wp2_with fail
      refine (Put_any 0 (j : Int) (t j) wr Lr).mono ?_
      rintro e w5 ⟨he, L6, C6⟩
      rw [show laneS 64 (oneRow 1 0 t j) T 0 (j : Int) (t j) = (oneRow 1 0 t (j + 1), 0) from s1] at he L6
      dsimp only at he
      subst he
      have f1 : w5.cell? ⟨W.heap.size, 0, none⟩ = some (.slice (some ⟨x, o, none⟩) n c) := (World.cell?_of_block (a := ⟨W.heap.size, 0, none⟩) (C6.blk W.heap.size (block_lt_of_cell d1) (by omega) (by omega) (by omega))).trans d1
      have f2 : w5.cell? ⟨W.heap.size + 1, 0, none⟩ = some (.int .u8 (m : Int)) := (World.cell?_of_block (a := ⟨W.heap.size + 1, 0, none⟩) (C6.blk (W.heap.size + 1) (block_lt_of_cell d2) (by omega) (by omega) (by omega))).trans d2
      have E6 := Lc.ext er C6 (by omega) (by omega) (by omega)
      clear C6 Lr d1 d2 er s1 k0
      go_wp2_with fail
      go_roundw
      case rel => exact ⟨j + 1, _, by omega, by go_num, HS.out, L6, f1, f2, E6⟩
      case measure => simp [intOf]; omega
    · have hjn' : j = n := by omega
      subst hjn'
      have l0 := Lr.c0
      obtain ⟨p0, p1, p2, p3, p4⟩ := Lr.lts
      have u0 := block_lt_of_cell d1
      have u1 := block_lt_of_cell d2
      have hrs := er.sz
      have p0' : nb < wr.heap.size + 1 := by omega
      have p0'' : nb < wr.heap.size + 1 + 1 := by omega
      have hmf : ∀ (fn : Fn) (first cap : Array Value) (w : World), (Instr.makeFunc fn first cap).run Try.prog w = .ok (.func fn first cap) w := fun _ _ _ _ => rfl
      go_wp2_with fail
      obtain ⟨Wa, hWa⟩ : ∃ Wa, Wa = ((wr.alloc (.cells #[.int .i64 (-1)] 3)).alloc (.cells #[.int .i64 0] 3)).alloc (.cells #[.bool true] 4) := ⟨_, rfl⟩
      rw [← hWa]
      have xa : Ext wr Wa := by rw [hWa]; exact (((Ext.refl _).alloc _).alloc _).alloc _
      have za : Wa.heap.size = wr.heap.size + 1 + 1 + 1 := by rw [hWa]; simp
      have a1 : Wa.cell? ⟨wr.heap.size, 0, none⟩ = some (.int .i64 (-1)) := by rw [hWa, World.cell?_alloc_past _ _ _ (by simp; omega)]; exact (two1 ..).trans rfl
      have a2 : Wa.cell? ⟨wr.heap.size + 1, 0, none⟩ = some (.int .i64 0) := by rw [hWa, World.cell?_alloc_past _ _ _ (by simp)]; exact (two2 ..).trans rfl
      have a3 : Wa.cell? ⟨wr.heap.size + 1 + 1, 0, none⟩ = some (.bool true) := by rw [hWa]; exact (al3 ..).trans rfl
      have b1 : Wa.frozen? ⟨wr.heap.size, 0, none⟩ = false := by rw [hWa, World.frozen?_alloc_past _ _ _ (by simp; omega), World.frozen?_alloc_past _ _ _ (by simp)]; exact World.frozen?_alloc_new _ _ _ 0
      have b2 : Wa.frozen? ⟨wr.heap.size + 1, 0, none⟩ = false := by rw [hWa, World.frozen?_alloc_past _ _ _ (by simp)]; exact two2z ..
      have b3 : Wa.frozen? ⟨wr.heap.size + 1 + 1, 0, none⟩ = false := by rw [hWa]; simpa using World.frozen?_alloc_new ((wr.alloc (.cells #[.int .i64 (-1)] 3)).alloc (.cells #[.int .i64 0] 3)) #[.bool true] 4 0
      clear hWa
      refine (nodes_fn rb 0 Wa).mono ?_
      rintro e w7 ⟨rfl, hw7⟩
      have x7 : Ext Wa w7 := by rw [hw7]; exact ((Ext.refl _).alloc _).alloc _
      have d7 : w7.cell? ⟨Wa.heap.size, 0, none⟩ = some (.pointer (some ⟨rb, 0, none⟩)) := by rw [hw7]; exact (two1 ..).trans rfl
      have d8 : w7.cell? ⟨Wa.heap.size + 1, 0, none⟩ = some (.int .i64 0) := by rw [hw7]; exact (two2 ..).trans rfl
      have X7 := xa.trans x7
      rw [za] at d7 d8
      clear hw7
      go_wp2_with fail
      refine (nodes_order (rows := oneRow 1 0 t j) A j c m t 0 wr.heap.size (wr.heap.size + 1 + 1 + 1) (wr.heap.size + 1 + 1 + 1 + 1) W.heap.size (W.heap.size + 1) w7 hf hm (Lr.rr.kept X7) ((oneRow_at (by omega) t j).symm.trans (rowI_in _ 0).symm) d7 d8 ((X7.cell (p := ⟨W.heap.size, 0, none⟩) u0).trans d1) ((X7.cell (p := ⟨W.heap.size + 1, 0, none⟩) u1).trans d2)
        (fun h => by obtain ⟨x, o, hA, hx, hc⟩ := HL.out h; exact ⟨x, o, hA, by omega, fun k hk => ((er.trans X7).cell (p := ⟨x, o + k, none⟩) hx).trans (hc k hk)⟩)
        ((x7.cell (p := ⟨wr.heap.size, 0, none⟩) (by simp; omega)).trans a1) ((x7.cell (p := ⟨wr.heap.size + 1, 0, none⟩) (by simp; omega)).trans a2) ((x7.cell (p := ⟨wr.heap.size + 1 + 1, 0, none⟩) (by simp; omega)).trans a3)
        ((x7.cells.2 _ _ (by omega)).trans b1) ((x7.cells.2 _ _ (by omega)).trans b2) ((x7.cells.2 _ _ (by omega)).trans b3) p2 p3 p4 u0 u1 (by omega)).mono ?_
      rintro e V ⟨⟨v, rfl⟩, C, v3, v2⟩
      have y0 := C.cellOf ((X7.cell (p := ⟨W.heap.size, 0, none⟩) u0).trans d1) (by omega) (by omega) (by omega)
      have y1 := C.cellOf ((X7.cell (p := ⟨W.heap.size + 1, 0, none⟩) u1).trans d2) (by omega) (by omega) (by omega)
      have EV : Ext W V := (er.trans X7).step (C.below (B := W.heap.size) (by have := (er.trans X7).sz; omega) (by omega) (by omega) (by omega)) (Nat.le_refl _)
      have wm : IntKind.i64.wrap (m : Int) = (m : Int) := IntWalk.i64_in _ (by omega)
      clear C d1 d2 d7 d8 a1 a2 a3 b1 b2 b3
      obtain ⟨U, hU⟩ : ∃ U, U = min j (max 1 m) := ⟨_, rfl⟩
      rw [← hU] at v2
      have HU := Lib.hid hU
      clear hU
      go_wp2_with fail
      all_goals
        go_ret
        refine ⟨?_, EV⟩
        have hu := HU.out
        simp <;> omega
end Go.Proofs.Ytnlcbilmalfjaaa
