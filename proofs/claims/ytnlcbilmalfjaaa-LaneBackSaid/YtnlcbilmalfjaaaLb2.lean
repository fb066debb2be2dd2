/- A part of the proof of a law of roundel: contracts of functions and lemmas, each true as it stands; no condition beyond those that its theorems state. -/
import Derived.Test.YtnlcbilmalfjaaaLb1
import Derived.Test.YtnlcbilmalfjaaaOp
namespace Go.Proofs.Ytnlcbilmalfjaaa
set_option linter.unusedSimpArgs false
set_option linter.unusedVariables false
open Go.RowKit

theorem back_far (A : Option Addr) (n c : Nat) (w g : Int) (hnc : n ≤ c) (hc63 : c ≤ 9223372036854775807) (hf : 40 < n) (W : World) :
    Calls Try.prog 6 #[.slice A n c, .int .u8 w, .int .u8 g] W fun e W' => e = .returned (.bool true) ∧ Ext W W' := by
  have q : (40 : Int) < (n : Int) := by omega
  have q0 : ((n : Int) == 0) = false := by simp; omega
  have q1 : ¬ (n : Int) = 0 := by omega
  go_enter Try.func6, Try.ntmps6
  go_wp2_with fail
  refine (awake_any _).mono ?_
  rintro e w1 ⟨rfl, he1⟩
  have E1 : Ext W w1 := ((Ext.refl _).alloc _).trans he1
  clear he1
  go_wp2_with fail
  refine (awake_any _).mono ?_
  rintro e w2 ⟨rfl, he2⟩
  go_wp2_with fail
  go_ret
  exact ⟨rfl, E1.trans he2⟩
theorem back_nil (A : Option Addr) (c : Nat) (w g : Int) (hc63 : c ≤ 9223372036854775807) (W : World) :
    Calls Try.prog 6 #[.slice A 0 c, .int .u8 w, .int .u8 g] W fun e W' => e = .returned (.bool true) ∧ Ext W W' := by
  go_enter Try.func6, Try.ntmps6
  go_wp2_with fail
  refine (awake_any _).mono ?_
  rintro e w1 ⟨rfl, he1⟩
  have E1 : Ext W w1 := ((Ext.refl _).alloc _).trans he1
  clear he1
  go_wp2_with fail
  refine (awake_any _).mono ?_
  rintro e w2 ⟨rfl, he2⟩
  go_wp2_with fail
  go_ret
  exact ⟨rfl, E1.trans he2⟩

set_option maxRecDepth 100000 in
set_option maxHeartbeats 1600000 in
theorem back_ok (A : Option Addr) (n c : Nat) (t : Nat → Nat) (w g : Nat) (hw : w ≤ 255) (hg : g ≤ 255) (hnc : n ≤ c) (hc63 : c ≤ 9223372036854775807) (hn0 : 0 < n) (hf : n ≤ 40) (W : World) (hl : UL W A n t) :
    Calls Try.prog 6 #[.slice A n c, .int .u8 (w : Int), .int .u8 (g : Int)] W fun e W' => e = .returned (.bool true) ∧ Ext W W' := by
  have q : (n : Int) ≤ 40 := by omega
  have q0 : ((n : Int) == 0) = false := by simp; omega
  have q1 : ¬ (n : Int) = 0 := by omega
  obtain ⟨τ, hτ⟩ : ∃ τ : Nat → Int, τ = fun j => ((t j % 4 : Nat) : Int) := ⟨_, rfl⟩
  have HL := Lib.hid hl
  have HT := Lib.hid hτ
  clear hl hτ
  go_enter Try.func6, Try.ntmps6
  go_wp2_with fail
  refine (awake_any _).mono ?_
  rintro e w1 ⟨rfl, he1⟩
  have c2 : w1.cell? ⟨W.heap.size, 0, none⟩ = some (.int .u8 (g : Int)) := (he1.cell (p := ⟨W.heap.size, 0, none⟩) (by simp)).trans (World.cell?_alloc_new _ _ _ 0)
  have E1 : Ext W w1 := ((Ext.refl _).alloc _).trans he1
  have z1 : W.heap.size + 1 ≤ w1.heap.size := by have := he1.sz; simpa using this
  clear he1
  go_wp2_with fail
  refine (LNew_ok 40 3 (by omega) (by omega) (by omega) (by omega) w1).mono ?_
  rintro e w2 ⟨nb, tg, rb, lb, mb, rfl, L2, e2⟩
  rw [← oneRow_zero 3 1 τ] at L2
  obtain ⟨g1, g2, -, -⟩ := L2.rr.ge
  have g0 : w1.heap.size ≤ tg := L2.ge.2
  have g0' : w1.heap.size ≤ nb := L2.ge.1
  have g0'' : w1.heap.size ≤ rb := L2.rr.rlt.2.1
  obtain ⟨p0, p1, p2, p3, p4⟩ := L2.lts
  have c2' : w2.cell? ⟨W.heap.size, 0, none⟩ = some (.int .u8 (g : Int)) := (e2.cell (p := ⟨W.heap.size, 0, none⟩) (by simp; omega)).trans c2
  have E2 := E1.trans e2
  clear e2 E1 c2
  obtain ⟨bl, hbl⟩ : ∃ bl, bl = w2.heap.size := ⟨_, rfl⟩
  have K := Lib.hid (show bl ≠ nb ∧ bl ≠ tg ∧ bl ≠ rb ∧ bl ≠ lb ∧ bl ≠ mb ∧ w1.heap.size ≤ bl by rw [hbl]; exact ⟨by omega, by omega, by omega, by omega, by omega, by omega⟩)
  go_wp2_with fail
  rw [← hbl]
  refine wp_abs (fun Wx => Ls Wx w1.heap.size nb tg rb lb mb 40 3 (oneRow 3 1 τ 0) (fun _ => 0) ∧ Wx.cell? ⟨bl, 0, none⟩ = some (.pointer (some ⟨nb, 0, none⟩)) ∧ Wx.cell? ⟨W.heap.size, 0, none⟩ = some (.int .u8 (g : Int)) ∧ Ext W Wx)
    ⟨L2.kept ((Ext.refl _).alloc _), by rw [hbl]; simp, (((Ext.refl _).alloc _).cell (p := ⟨W.heap.size, 0, none⟩) (block_lt_of_cell c2')).trans c2', E2.alloc _⟩ ?_
  rintro w4 ⟨L4, c0, c2, E4⟩
  clear L2 E2 p0 p1 p2 p3 p4 hbl c2'
  go_wp2_with fail
  go_loopw [38] (fun i wr => ∃ (j : Nat) (T : Nat → Int), j ≤ n ∧ i = .int .i64 (j : Int) ∧ (∀ k, k < j → T k = τ k) ∧ Ls wr w1.heap.size nb tg rb lb mb 40 3 (oneRow 3 1 τ j) T ∧ wr.cell? ⟨bl, 0, none⟩ = some (.pointer (some ⟨nb, 0, none⟩)) ∧ wr.cell? ⟨W.heap.size, 0, none⟩ = some (.int .u8 (g : Int)) ∧ Ext W wr) (fun i _ => n - (intOf i).toNat)
  case atStart => exact ⟨0, _, by omega, rfl, fun k hk => absurd hk (Nat.not_lt_zero k), L4, c0, c2, E4⟩
  case round =>
    obtain ⟨j, T, hj, rfl, hT, Lr, d1, d2, er⟩ := hrel
    clear L4 c0 E4 c2
    by_cases hjn : j < n
    · obtain ⟨x, o, rfl, hx, hcell⟩ := HL.out.2 (by omega)
      have k0 : wr.cell? ⟨x, o + j, none⟩ = some (.int .u8 (t j : Int)) := (er.cell (p := ⟨x, o + j, none⟩) hx).trans (hcell j hjn)
      have q3 : (j : Int) < (n : Int) := by omega
      have t0 := HL.out.1 j
      have wm : IntKind.i64.wrap ((t j : Int) % 4) = (t j : Int) % 4 := IntWalk.i64_in _ (by omega)
      obtain ⟨s1, s2⟩ := laneS_one Lr.rr hT (by omega) (by omega : j < 40)
      have HS := Lib.hid s2
      have hτj : τ j = (t j : Int) % 4 := by rw [HT.out]; simp
      have HJ := Lib.hid hτj
      clear hcell hx hT s2 hτj
      go_wp2_with fail
      rw [← HJ.out]
      refine (Put_any 1 (j : Int) (τ j) wr Lr).mono ?_
      rintro e w5 ⟨he, L6, C6⟩
      rw [show laneS 40 (oneRow 3 1 τ j) T 1 (j : Int) (τ j) = (oneRow 3 1 τ (j + 1), 0) from s1] at he L6
      dsimp only at he
      subst he
      have f1 : w5.cell? ⟨bl, 0, none⟩ = some (.pointer (some ⟨nb, 0, none⟩)) := C6.cellOf d1 K.out.2.1 K.out.2.2.2.1 K.out.2.2.2.2.1
      have f2 : w5.cell? ⟨W.heap.size, 0, none⟩ = some (.int .u8 (g : Int)) := C6.cellOf d2 (by omega) (by omega) (by omega)
      have E6 := Lc.ext er C6 (by omega) (by omega) (by omega)
      clear C6 Lr d1 er s1 k0 d2
      go_wp2_with fail
      go_roundw
      case rel => exact ⟨j + 1, _, by omega, by go_num, HS.out, L6, f1, f2, E6⟩
      case measure => simp [intOf]; omega
    · have hjn' : j = n := by omega
      subst hjn'
      have wmw : IntKind.i64.wrap (w : Int) = (w : Int) := IntWalk.i64_in _ (by omega)
      have wmg : IntKind.i64.wrap ((g : Int) % 4) = (g : Int) % 4 := IntWalk.i64_in _ (by omega)
      have l0 := Lr.c0
      go_wp2_with fail
      obtain ⟨k, hk⟩ : ∃ k : Nat, k = w % j := ⟨_, rfl⟩
      have hkj : k < j := by rw [hk]; exact Nat.mod_lt _ hn0
      have hkI : (w : Int) % (j : Int) = (k : Int) := by rw [hk]; rfl
      rw [hkI]
      obtain ⟨r, hd1, hd2, hd3, hd4, hd5⟩ := oneRow_drop Lr.rr (by omega) hkj
      refine (Drop_any (k : Int) wr Lr.rr).mono ?_
      rintro e w5 ⟨he, R5, C5⟩
      rw [hd1] at he R5
      dsimp only at he R5
      subst he
      have L5 := Lr.rc C5 R5
      have hkf : k ∉ ((List.replicate 3 []).set 1 r).flatten := fun h => hd4 ((setRow_mem (by omega)).1 h)
      have f1 : w5.cell? ⟨bl, 0, none⟩ = some (.pointer (some ⟨nb, 0, none⟩)) := (Lc.of_rc (tg := tg) C5).cellOf d1 K.out.2.1 K.out.2.2.2.1 K.out.2.2.2.2.1
      have f2 : w5.cell? ⟨W.heap.size, 0, none⟩ = some (.int .u8 (g : Int)) := (Lc.of_rc (tg := tg) C5).cellOf d2 (by omega) (by omega) (by omega)
      have E5 := Rc.ext er C5 (by omega) (by omega)
      have hls : listS ((List.replicate 3 []).set 1 r) (k : Int) = -1 := by
        unfold listS
        rw [if_neg (fun h => hkf (by simpa using h.2))]
      have HD := Lib.hid (And.intro hd3 (And.intro hd4 hkf))
      clear C5 R5 Lr d1 d2 er hd1 hd3 hd4 hd5 hkI hk l0 hT
      go_wp2_with fail
      refine (Core_any (k : Int) w5 L5).mono ?_
      rintro e z9 ⟨he, hz1⟩
      have hz2 := hz1.symm; clear hz1; subst hz2
      rw [hls] at he
      subst he
      go_wp2_with fail
      have hgi : ((g % 4 : Nat) : Int) = (g : Int) % 4 := by omega
      rw [← hgi]
      obtain ⟨γ, hγ⟩ : ∃ γ : Int, γ = ((g % 4 : Nat) : Int) := ⟨_, rfl⟩
      rw [← hγ]
      have hs := laneS_in (T := T) L5.rr γ (l := 1) (node := k) (by omega) hd2 HD.out.2.2
      rw [rowAt_set_same _ _ _ (by simp), List.set_set] at hs
      refine (Put_any 1 (k : Int) γ w5 L5).mono ?_
      rintro e w6 ⟨he, L6, C6⟩
      rw [laneT_in (by rw [show laneS 40 _ T 1 (k : Int) γ = _ from hs]), show laneS 40 _ T 1 (k : Int) γ = _ from hs] at L6
      rw [show laneS 40 _ T 1 (k : Int) γ = _ from hs] at he
      dsimp only at he L6
      subst he
      have g1' : w6.cell? ⟨bl, 0, none⟩ = some (.pointer (some ⟨nb, 0, none⟩)) := C6.cellOf f1 K.out.2.1 K.out.2.2.2.1 K.out.2.2.2.2.1
      have g2' : w6.cell? ⟨W.heap.size, 0, none⟩ = some (.int .u8 (g : Int)) := C6.cellOf f2 (by omega) (by omega) (by omega)
      have E6 := Lc.ext E5 C6 (by omega) (by omega) (by omega)
      have l0 := L6.c0
      obtain ⟨p0, p1, p2, p3, p4⟩ := L6.lts
      have p0' : nb < w6.heap.size + 1 := by omega
      have u1 : bl < w6.heap.size := block_lt_of_cell g1'
      have u2 : W.heap.size < w6.heap.size := block_lt_of_cell g2'
      have HG := Lib.hid (And.intro hgi hγ)
      clear C6 L5 f1 f2 E5 hls hs hgi hγ
      go_wp2_with fail
      obtain ⟨Wa, hWa⟩ : ∃ Wa, Wa = w6.alloc (.cells #[.int .i64 (-1)] 3) := ⟨_, rfl⟩
      rw [← hWa]
      have xa : Ext w6 Wa := by rw [hWa]; exact (Ext.refl _).alloc _
      have za : Wa.heap.size = w6.heap.size + 1 := by rw [hWa]; simp
      have a2 : Wa.cell? ⟨w6.heap.size, 0, none⟩ = some (.int .i64 (-1)) := by rw [hWa]; exact World.cell?_alloc_new _ _ _ 0
      have b2 : Wa.frozen? ⟨w6.heap.size, 0, none⟩ = false := by rw [hWa]; exact World.frozen?_alloc_new _ _ _ 0
      clear hWa
      refine (nodes_fn rb 1 Wa).mono ?_
      rintro e w7 ⟨rfl, hw7⟩
      have x7 : Ext Wa w7 := by rw [hw7]; exact ((Ext.refl _).alloc _).alloc _
      have d7 : w7.cell? ⟨Wa.heap.size, 0, none⟩ = some (.pointer (some ⟨rb, 0, none⟩)) := by rw [hw7]; exact (two1 ..).trans rfl
      have d8 : w7.cell? ⟨Wa.heap.size + 1, 0, none⟩ = some (.int .i64 1) := by rw [hw7]; exact (two2 ..).trans rfl
      have X7 := xa.trans x7
      rw [za] at d7 d8
      clear hw7
      have hmf : ∀ (fn : Fn) (first cap : Array Value) (w : World), (Instr.makeFunc fn first cap).run Try.prog w = .ok (.func fn first cap) w := fun _ _ _ _ => rfl
      have k1 := (X7.cell (p := ⟨bl, 0, none⟩) u1).trans g1'
      have k2 := (X7.cell (p := ⟨W.heap.size, 0, none⟩) u2).trans g2'
      have k5 := (x7.cell (p := ⟨w6.heap.size, 0, none⟩) (by simp; omega)).trans a2
      have k6 := (x7.cells.2 w6.heap.size 0 (by omega)).trans b2
      have L7 := L6.kept X7
      have E7 := E6.trans X7
      have hrow : insRow T r k γ = rowI ((List.replicate 3 []).set 1 (insRow T r k γ)) 1 := ((rowAt_set_same _ _ _ (by simp)).symm).trans (rowI_in _ 1).symm
      go_wp2_with fail
      refine (nodes_last 1 (w6.heap.size + 1) (w6.heap.size + 1 + 1) bl W.heap.size w6.heap.size g w7 _ hrow hg (by omega) (by omega) L7 d7 d8 k1 k2 k5 k6 (by omega) (by omega) (by omega) (by omega) (by omega) (by omega) (by omega) (by omega)).mono ?_
      rintro e V ⟨⟨v, rfl⟩, C, v5⟩
      rw [← HG.out.2, last_back T r k γ HD.out.2.1] at v5
      have kc := Kc.of_rc C
      have LV := L7.kc (by omega) (by omega) kc (show nb ≠ w6.heap.size by omega) (by omega) (by omega) (by omega) (by omega)
      have v1 := kc.cell k1 (by omega)
      have EV : Ext W V := E7.step (C.below (B := W.heap.size) E7.sz (by omega) (by omega)) (Nat.le_refl _)
      have l1 := LV.c0
      have hr2 := insRow_length T r k γ
      have hlen : (rowI ((List.replicate 3 []).set 1 (insRow T r k γ)) 1).length = j := by rw [← hrow]; have := HD.out.1; omega
      have hlen0 : (rowI ((List.replicate 3 []).set 1 (insRow T r k γ)) 0).length = 0 := by
        rw [show (0 : Int) = ((0 : Nat) : Int) from rfl, rowI_in, rowAt_set_other _ _ _ _ (by omega)]
        rfl
      have HN := Lib.hid (And.intro hlen hlen0)
      clear C kc k1 k2 k5 k6 d7 d8 a2 b2 L7 E7 X7 x7 xa za g1' g2' E6 L6 l0 hrow hr2 hlen hlen0
      go_wp2_with fail
      refine (Len_any 1 V LV.rr).mono ?_
      rintro e z9 ⟨he, hz1⟩
      have hz2 := hz1.symm; clear hz1; subst hz2
      rw [HN.out.1] at he
      subst he
      go_wp2_with fail
      refine (Len_any 0 V LV.rr).mono ?_
      rintro e z9 ⟨he, hz1⟩
      have hz2 := hz1.symm; clear hz1; subst hz2
      rw [HN.out.2] at he
      subst he
      go_wp2_with fail
      go_ret
      exact ⟨rfl, EV⟩
end Go.Proofs.Ytnlcbilmalfjaaa
