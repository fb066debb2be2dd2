/- A part of the proof of a law of roundel: contracts of functions and lemmas, each true as it stands; no condition beyond those that its theorems state. -/
import Derived.Test.YtnlcbilmalfjaaaLp2
import Derived.Test.YtnlcbilmalfjaaaOp
import Derived.Test.YtnlcbilmalfjaaaLo2
import Derived.Laws.EntriesVeiled
namespace Go.Proofs.Ytnlcbilmalfjaaa
set_option linter.unusedSimpArgs false
set_option linter.unusedVariables false
open Go.RowKit

theorem parts_far (A : Option Addr) (n c : Nat) (m : Int) (hnc : n ≤ c) (hc63 : c ≤ 9223372036854775807) (hf : 50 < n) (W : World) :
    Calls Try.prog 4 #[.slice A n c, .int .u8 m] W fun e W' => e = .returned (.bool true) ∧ Ext W W' := by
  have q : (50 : Int) < (n : Int) := by omega
  go_enter Try.func4, Try.ntmps4
  go_wp2_with fail
  refine (awake_any _).mono ?_
  rintro e w1 ⟨rfl, he1⟩
  go_wp2_with fail
  refine (awake_any _).mono ?_
  rintro e w2 ⟨rfl, he2⟩
  go_wp2_with fail
  go_ret
  exact ⟨rfl, he1.trans he2⟩

set_option maxRecDepth 100000 in
set_option maxHeartbeats 1600000 in
theorem parts_ok (A : Option Addr) (n c : Nat) (t : Nat → Nat) (m : Nat) (hm : m ≤ 255) (hnc : n ≤ c) (hc63 : c ≤ 9223372036854775807) (hf : n ≤ 50) (W : World) (hl : UL W A n t) :
    Calls Try.prog 4 #[.slice A n c, .int .u8 (m : Int)] W fun e W' => e = .returned (.bool true) ∧ Ext W W' := by
  have q : (n : Int) ≤ 50 := by omega
  obtain ⟨τ, hτ⟩ : ∃ τ : Nat → Int, τ = fun j => ((t j % 6 : Nat) : Int) := ⟨_, rfl⟩
  have HL := Lib.hid hl
  have HT := Lib.hid hτ
  clear hl hτ
  go_enter Try.func4, Try.ntmps4
  go_wp2_with fail
  refine (awake_any _).mono ?_
  rintro e w1 ⟨rfl, E1⟩
  go_wp2_with fail
  refine (LNew_ok 64 4 (by omega) (by omega) (by omega) (by omega) w1).mono ?_
  rintro e w2 ⟨nb, tg, rb, lb, mb, rfl, L2, e2⟩
  rw [← oneRow_zero 4 2 τ] at L2
  obtain ⟨g1, g2, -, -⟩ := L2.rr.ge
  have g0 : w1.heap.size ≤ tg := L2.ge.2
  have g3 := E1.sz
  obtain ⟨p0, p1, p2, p3, p4⟩ := L2.lts
  have E2 := E1.trans e2
  clear e2 E1
  obtain ⟨bl, hbl⟩ : ∃ bl, bl = w2.heap.size := ⟨_, rfl⟩
  have K := Lib.hid (show bl ≠ nb ∧ bl ≠ tg ∧ bl ≠ rb ∧ bl ≠ lb ∧ bl ≠ mb ∧ w1.heap.size ≤ bl by rw [hbl]; have := E2.sz; exact ⟨by omega, by omega, by omega, by omega, by omega, by omega⟩)
  go_wp2_with fail
  rw [← hbl]
  refine wp_abs (fun Wx => Ls Wx w1.heap.size nb tg rb lb mb 64 4 (oneRow 4 2 τ 0) (fun _ => 0) ∧ Wx.cell? ⟨bl, 0, none⟩ = some (.pointer (some ⟨nb, 0, none⟩)) ∧ Ext W Wx)
    ⟨L2.kept ((Ext.refl _).alloc _), by rw [hbl]; simp, E2.alloc _⟩ ?_
  rintro w4 ⟨L4, c0, E4⟩
  clear L2 E2 p0 p1 p2 p3 p4 hbl
  go_wp2_with fail
  go_loopw [34] (fun i wr => ∃ (j : Nat) (T : Nat → Int), j ≤ n ∧ i = .int .i64 (j : Int) ∧ (∀ k, k < j → T k = τ k) ∧ Ls wr w1.heap.size nb tg rb lb mb 64 4 (oneRow 4 2 τ j) T ∧ wr.cell? ⟨bl, 0, none⟩ = some (.pointer (some ⟨nb, 0, none⟩)) ∧ Ext W wr) (fun i _ => n - (intOf i).toNat)
  case atStart => exact ⟨0, _, by omega, rfl, fun k hk => absurd hk (Nat.not_lt_zero k), L4, c0, E4⟩
  case round =>
    obtain ⟨j, T, hj, rfl, hT, Lr, d1, er⟩ := hrel
    clear L4 c0 E4
    by_cases hjn : j < n
    · obtain ⟨x, o, rfl, hx, hcell⟩ := HL.out.2 (by omega)
      have k0 : wr.cell? ⟨x, o + j, none⟩ = some (.int .u8 (t j : Int)) := (er.cell (p := ⟨x, o + j, none⟩) hx).trans (hcell j hjn)
      have q3 : (j : Int) < (n : Int) := by omega
      have t0 := HL.out.1 j
      have wm : IntKind.i64.wrap ((t j : Int) % 6) = (t j : Int) % 6 := IntWalk.i64_in _ (by omega)
      obtain ⟨s1, s2⟩ := laneS_one Lr.rr hT (by omega) (by omega : j < 64)
      have HS := Lib.hid s2
      have hτj : τ j = (t j : Int) % 6 := by rw [HT.out]; simp
      have HJ := Lib.hid hτj
      clear hcell hx hT s2 hτj
      go_wp2_with fail
      rw [← HJ.out]
      refine (Put_any 2 (j : Int) (τ j) wr Lr).mono ?_
      rintro e w5 ⟨he, L6, C6⟩
      rw [show laneS 64 (oneRow 4 2 τ j) T 2 (j : Int) (τ j) = (oneRow 4 2 τ (j + 1), 0) from s1] at he L6
      dsimp only at he
      subst he
      have f1 : w5.cell? ⟨bl, 0, none⟩ = some (.pointer (some ⟨nb, 0, none⟩)) := C6.cellOf d1 K.out.2.1 K.out.2.2.2.1 K.out.2.2.2.2.1
      have E6 := Lc.ext er C6 (by omega) (by omega) (by omega)
      clear C6 Lr d1 er s1 k0
      go_wp2_with fail
      go_roundw
      case rel => exact ⟨j + 1, _, by omega, by go_num, HS.out, L6, f1, E6⟩
      case measure => simp [intOf]; omega
    · have hjn' : j = n := by omega
      subst hjn'
      go_wp2_with fail
      obtain ⟨κ, hκ⟩ : ∃ κ : Int, κ = 1 + (m : Int) % 4 := ⟨_, rfl⟩
      have hk1 : 0 < κ := by omega
      obtain ⟨kb, hkb⟩ : ∃ kb, kb = wr.heap.size := ⟨_, rfl⟩
      rw [← hκ, ← hkb]
      have u0 : bl < wr.heap.size := block_lt_of_cell d1
      obtain ⟨p0, p1, p2, p3, p4⟩ := Lr.lts
      have K2 := Lib.hid (show bl < kb ∧ nb < kb ∧ tg < kb ∧ rb < kb ∧ lb < kb ∧ mb < kb ∧ W.heap.size ≤ kb by have := er.sz; exact ⟨by omega, by omega, by omega, by omega, by omega, by omega, by omega⟩)
      refine wp_abs (fun Wx => Ls Wx w1.heap.size nb tg rb lb mb 64 4 (oneRow 4 2 τ j) T ∧ Wx.cell? ⟨bl, 0, none⟩ = some (.pointer (some ⟨nb, 0, none⟩)) ∧ Wx.cell? ⟨kb, 0, none⟩ = some (.int .i64 κ) ∧ Wx.cell? ⟨kb + 1, 0, none⟩ = some (.func (.func 12) #[] #[.pointer (some ⟨kb, 0, none⟩)]) ∧ Ext W Wx)
        ⟨Lr.kept (((Ext.refl _).alloc _).alloc _), ((((Ext.refl _).alloc _).alloc _).cell (p := ⟨bl, 0, none⟩) u0).trans d1, by rw [hkb]; exact (two1 ..).trans rfl, by rw [hkb]; exact (two2 ..).trans rfl, (er.alloc _).alloc _⟩ ?_
      rintro wc ⟨Lc0, d2, d3, d4, ec⟩
      obtain ⟨row, hrow⟩ : ∃ row, row = laid τ j := ⟨_, rfl⟩
      have hrowI : row = rowI (oneRow 4 2 τ j) 2 := by rw [hrow]; exact (oneRow_at (by omega) τ j).symm.trans (rowI_in _ 2).symm
      have hrl : row.length = j := by rw [hrow]; exact laid_length τ j
      have hτ0 : ∀ x ∈ row, 0 ≤ τ x ∧ τ x < 6 := fun x _ => by rw [HT.out]; dsimp only; omega
      have hTτ : ∀ x ∈ row, T x = τ x := fun x hx => hT x ((laid_mem τ j x).1 (by rw [← hrow]; exact hx))
      have R := Lib.hid (And.intro hrowI (And.intro hrl (And.intro hτ0 hTτ)))
      clear Lr d1 er hT p0 p1 p2 p3 p4 u0 hκ hkb hrow hrowI hrl hτ0 hTτ
      go_loopw [11, 52] (fun s i wq => ∃ g : Nat, g ≤ 6 ∧ i = .int .i64 (g : Int) ∧ s = .int .i64 ((under τ row g : Nat) : Int) ∧ Ls wq w1.heap.size nb tg rb lb mb 64 4 (oneRow 4 2 τ j) T ∧ wq.cell? ⟨bl, 0, none⟩ = some (.pointer (some ⟨nb, 0, none⟩)) ∧ wq.cell? ⟨kb, 0, none⟩ = some (.int .i64 κ) ∧ wq.cell? ⟨kb + 1, 0, none⟩ = some (.func (.func 12) #[] #[.pointer (some ⟨kb, 0, none⟩)]) ∧ Ext W wq) (fun s i _ => 6 - (intOf i).toNat)
      case atStart => exact ⟨0, by omega, rfl, by rw [under_zero _ _ (fun x hx => (R.out.2.2.1 x hx).1)]; rfl, Lc0, d2, d3, d4, ec⟩
      case round =>
        obtain ⟨g, hg, rfl, rfl, Lq, e1, e2, e3, eq_⟩ := hrel
        clear Lc0 d2 d3 d4 ec
        have l0 := Lq.c0
        obtain ⟨p0, p1, p2, p3, p4⟩ := Lq.lts
        have u1 : bl < wr.heap.size := block_lt_of_cell e1
        have u2 : kb < wr.heap.size := block_lt_of_cell e2
        have u3 : kb + 1 < wr.heap.size := block_lt_of_cell e3
        have p0' : nb < wr.heap.size + 1 := by omega
        have u1' : bl < wr.heap.size + 1 := by omega
        by_cases hg6 : g < 6
        · have q6 : (g : Int) < 6 := by omega
          go_wp2_with fail
          obtain ⟨Wa, hWa⟩ : ∃ Wa, Wa = (wr.alloc (.cells #[.int .i64 (g : Int)] 3)).alloc (.cells #[.int .i64 (-1)] 3) := ⟨_, rfl⟩
          rw [← hWa]
          have xa : Ext wr Wa := by rw [hWa]; exact ((Ext.refl _).alloc _).alloc _
          have za : Wa.heap.size = wr.heap.size + 1 + 1 := by rw [hWa]; simp
          have a1 : Wa.cell? ⟨wr.heap.size, 0, none⟩ = some (.int .i64 (g : Int)) := by rw [hWa]; exact (two1 ..).trans rfl
          have a2 : Wa.cell? ⟨wr.heap.size + 1, 0, none⟩ = some (.int .i64 (-1)) := by rw [hWa]; exact (two2 ..).trans rfl
          have b2 : Wa.frozen? ⟨wr.heap.size + 1, 0, none⟩ = false := by rw [hWa]; exact two2z ..
          clear hWa
          refine (nodes_fn rb 2 Wa).mono ?_
          rintro e w7 ⟨rfl, hw7⟩
          have x7 : Ext Wa w7 := by rw [hw7]; exact ((Ext.refl _).alloc _).alloc _
          have d7 : w7.cell? ⟨Wa.heap.size, 0, none⟩ = some (.pointer (some ⟨rb, 0, none⟩)) := by rw [hw7]; exact (two1 ..).trans rfl
          have d8 : w7.cell? ⟨Wa.heap.size + 1, 0, none⟩ = some (.int .i64 2) := by rw [hw7]; exact (two2 ..).trans rfl
          have X7 := xa.trans x7
          rw [za] at d7 d8
          clear hw7
          have hmf : ∀ (fn : Fn) (first cap : Array Value) (w : World), (Instr.makeFunc fn first cap).run Try.prog w = .ok (.func fn first cap) w := fun _ _ _ _ => rfl
          have k1 := (X7.cell (p := ⟨bl, 0, none⟩) u1).trans e1
          have k2 := (X7.cell (p := ⟨kb, 0, none⟩) u2).trans e2
          have k3 := (X7.cell (p := ⟨kb + 1, 0, none⟩) u3).trans e3
          have k4 := (x7.cell (p := ⟨wr.heap.size, 0, none⟩) (by simp; omega)).trans a1
          have k5 := (x7.cell (p := ⟨wr.heap.size + 1, 0, none⟩) (by simp; omega)).trans a2
          have k6 := (x7.cells.2 (wr.heap.size + 1) 0 (by omega)).trans b2
          have L7 := Lq.kept X7
          have E7 := eq_.trans X7
          go_wp2_with fail
          refine (nodes_first 2 (g : Int) (wr.heap.size + 1 + 1) (wr.heap.size + 1 + 1 + 1) bl wr.heap.size (kb + 1) (wr.heap.size + 1) 12 _ (divs κ) w7 row R.out.1 (by omega) (by omega) L7 (fit_divs (enters_of Try.func12 (by kernel_rfl) rfl) (by omega) (fun x W hx hc => parts1_any κ (by omega) hk1 x kb W hx hc) k2 (by omega)) d7 d8 k1 k4 k3 k5 k6 (by omega) (by omega) (by omega) (by omega) (by omega) (by omega) (by omega) (by omega) (by omega)).mono ?_
          rintro e V ⟨⟨v, rfl⟩, C, v5⟩
          have kc := Kc.of_rc C
          have LV := L7.kc (by omega) (by omega) kc (show nb ≠ wr.heap.size + 1 by omega) (by omega) (by omega) (by omega) (by omega)
          have v1 := kc.cell k1 (by omega)
          have v2 := kc.cell k2 (by omega)
          have v3 := kc.cell k3 (by omega)
          have v4 := kc.cell k4 (by omega)
          have EV : Ext W V := E7.step (C.below (B := W.heap.size) E7.sz (by have := eq_.sz; omega) (by have := eq_.sz; omega)) (Nat.le_refl _)
          have q1 : ∀ u : ExtW V, u.w.cell? ⟨bl, 0, none⟩ = some (.pointer (some ⟨nb, 0, none⟩)) := fun u => (u.ext.cell (p := ⟨bl, 0, none⟩) (block_lt_of_cell v1)).trans v1
          have q2 : ∀ u : ExtW V, u.w.cell? ⟨wr.heap.size, 0, none⟩ = some (.int .i64 (g : Int)) := fun u => (u.ext.cell (p := ⟨wr.heap.size, 0, none⟩) (block_lt_of_cell v4)).trans v4
          have q3 : ∀ u : ExtW V, u.w.cell? ⟨kb + 1, 0, none⟩ = some (.func (.func 12) #[] #[.pointer (some ⟨kb, 0, none⟩)]) := fun u => (u.ext.cell (p := ⟨kb + 1, 0, none⟩) (block_lt_of_cell v3)).trans v3
          have q5 : ∀ u : ExtW V, u.w.cell? ⟨wr.heap.size + 1, 0, none⟩ = some (.int .i64 (firstI (fitRow T (g : Int) (divs κ) row))) := fun u => (u.ext.cell (p := ⟨wr.heap.size + 1, 0, none⟩) (block_lt_of_cell v5)).trans v5
          have fok : ∀ u : ExtW V, FitOk 64 12 #[.pointer (some ⟨kb, 0, none⟩)] (divs κ) u.w.heap.size u.w := fun u => fit_divs (enters_of Try.func12 (by kernel_rfl) rfl) (by omega) (fun x W hx hc => parts1_any κ (by omega) hk1 x kb W hx hc) ((u.ext.cell (p := ⟨kb, 0, none⟩) (block_lt_of_cell v2)).trans v2) (by have h1 : kb < V.heap.size := block_lt_of_cell v2; have := u.ext.sz; omega)
          have fsay : ∀ u : ExtW V, CallsIn Fence.wide 4 Try.prog 15 #[.pointer (some ⟨nb, 0, none⟩), .int .i64 2, .int .i64 (g : Int), .func (.func 12) #[] #[.pointer (some ⟨kb, 0, none⟩)]] u.w fun e w'' => e = .returned (.int .i64 (firstI (fitRow T (g : Int) (divs κ) row))) ∧ ∃ u' : ExtW V, w'' = u'.w := fun u =>
            (callsIn_wide.2 (LFirst_any 2 (g : Int) _ _ (divs κ) u.w _ (by rw [← R.out.1]) (by omega) (by omega) (LV.kept u.ext) (fok u))).mono (fun e w'' h => ⟨h.1, ⟨w'', u.ext.trans h.2⟩, rfl⟩)
          have csay : ∀ u : ExtW V, CallsIn Fence.wide 4 Try.prog 16 #[.pointer (some ⟨nb, 0, none⟩), .int .i64 2, .int .i64 (g : Int), .func (.func 12) #[] #[.pointer (some ⟨kb, 0, none⟩)]] u.w fun e w'' => e = .returned (.int .i64 ((fitRow T (g : Int) (divs κ) row).length : Int)) ∧ ∃ u' : ExtW V, w'' = u'.w := fun u =>
            (callsIn_wide.2 (LCount_any 2 (g : Int) _ _ (divs κ) u.w _ (by rw [← R.out.1]) (by omega) (by omega) (LV.kept u.ext) (fok u))).mono (fun e w'' h => ⟨h.1, ⟨w'', u.ext.trans h.2⟩, rfl⟩)
          have KV := Lib.hid (And.intro LV (And.intro v1 (And.intro v2 (And.intro v3 (And.intro v4 EV)))))
          have hus := Lib.hid (under_succ τ g row)
          have hfc := Lib.hid (fitRow_congr (r := row) (fun x hx => R.out.2.2.2 x hx) (g : Int) (fun _ => true))
          have hul := under_le τ row (g + 1)
          clear kc k1 k2 k3 k4 k5 k6 d7 d8 a1 a2 b2 L7 E7 X7 x7 xa za e1 e2 e3 eq_ Lq l0 C LV v1 v2 v3 v4 v5 EV fok
          go_wp2_with fail
          cases hfr : fitRow T (g : Int) (divs κ) row with
          | nil =>
            rw [hfr] at fsay csay q5
            simp only [firstI, List.length_nil, List.length_cons] at fsay csay q5
            have hfa : ∀ k, Fence.wide.fn k := fun _ => trivial
            refine region_quiet_ext (n := 5) (by kernel_rfl) (by kernel_rfl) ?_
            repeat (gi_big_quiet_step (first | exact fsay _ | exact csay _))
            refine wpQuietIn_nil ?_
            rintro w' ⟨u, rfl⟩
            simp only [Exit.then]
            obtain ⟨LV, v1, v2, v3, v4, EV⟩ := KV.out
            have LY := LV.kept u.ext
            have y1 := q1 u
            have y2 := (u.ext.cell (p := ⟨kb, 0, none⟩) (block_lt_of_cell v2)).trans v2
            have y3 := q3 u
            have y4 := q2 u
            have EY := EV.trans u.ext
            obtain ⟨Y, hY⟩ : ∃ Y, Y = u.w := ⟨_, rfl⟩
            rw [← hY] at LY y1 y2 y3 y4 EY ⊢
            clear hY q1 q2 q3 q5 fsay csay LV v1 v2 v3 v4 EV hfr
            obtain ⟨cn, hcn⟩ : ∃ cn, cn = (fitRow T (g : Int) (fun _ => true) row).length := ⟨_, rfl⟩
            have hsum : under τ row (g + 1) = under τ row g + cn := by rw [hcn, hus.out, hfc.out]
            have hb := R.out.2.1
            rw [hb] at hul
            obtain ⟨ug, hug⟩ : ∃ ug, ug = under τ row g := ⟨_, rfl⟩
            obtain ⟨un, hun⟩ : ∃ un, un = under τ row (g + 1) := ⟨_, rfl⟩
            rw [← hug, ← hun] at hsum
            rw [← hun] at hul
            rw [← hug]
            have HC := Lib.hid (And.intro hcn hun)
            have HS := Lib.hid hsum
            have hsm : ug + cn ≤ 50 := by omega
            clear hcn hug hun hb hsum
            go_wp2_with fail
            refine (LCount_any 2 (g : Int) 17 #[] (fun _ => true) Y _ rfl (by omega) (by omega) LY (fit_all _ _ (enters_of Try.func17 (by kernel_rfl) rfl) parts3_any _ _)).mono ?_
            rintro e w9 ⟨he, e9⟩
            rw [← R.out.1, ← HC.out.1] at he
            subst he
            have L9 := LY.kept e9
            have z1 := (e9.cell (p := ⟨bl, 0, none⟩) (block_lt_of_cell y1)).trans y1
            have z2 := (e9.cell (p := ⟨kb, 0, none⟩) (block_lt_of_cell y2)).trans y2
            have z3 := (e9.cell (p := ⟨kb + 1, 0, none⟩) (block_lt_of_cell y3)).trans y3
            have E9 := EY.trans e9
            clear LY y1 y2 y3 y4 EY e9
            go_wp2_with fail
            go_roundw
            case rel => exact ⟨g + 1, by omega, by go_num, by rw [← HC.out.2, HS.out]; go_num, L9, z1, z2, z3, E9⟩
            case measure => simp [intOf]; omega
          | cons y ys =>
            rw [hfr] at fsay csay q5
            simp only [firstI, List.length_nil, List.length_cons] at fsay csay q5
            have hfa : ∀ k, Fence.wide.fn k := fun _ => trivial
            refine region_quiet_ext (n := 5) (by kernel_rfl) (by kernel_rfl) ?_
            repeat (gi_big_quiet_step (first | exact fsay _ | exact csay _))
            refine wpQuietIn_nil ?_
            rintro w' ⟨u, rfl⟩
            simp only [Exit.then]
            obtain ⟨LV, v1, v2, v3, v4, EV⟩ := KV.out
            have LY := LV.kept u.ext
            have y1 := q1 u
            have y2 := (u.ext.cell (p := ⟨kb, 0, none⟩) (block_lt_of_cell v2)).trans v2
            have y3 := q3 u
            have y4 := q2 u
            have EY := EV.trans u.ext
            obtain ⟨Y, hY⟩ : ∃ Y, Y = u.w := ⟨_, rfl⟩
            rw [← hY] at LY y1 y2 y3 y4 EY ⊢
            clear hY q1 q2 q3 q5 fsay csay LV v1 v2 v3 v4 EV hfr
            obtain ⟨cn, hcn⟩ : ∃ cn, cn = (fitRow T (g : Int) (fun _ => true) row).length := ⟨_, rfl⟩
            have hsum : under τ row (g + 1) = under τ row g + cn := by rw [hcn, hus.out, hfc.out]
            have hb := R.out.2.1
            rw [hb] at hul
            obtain ⟨ug, hug⟩ : ∃ ug, ug = under τ row g := ⟨_, rfl⟩
            obtain ⟨un, hun⟩ : ∃ un, un = under τ row (g + 1) := ⟨_, rfl⟩
            rw [← hug, ← hun] at hsum
            rw [← hun] at hul
            rw [← hug]
            have HC := Lib.hid (And.intro hcn hun)
            have HS := Lib.hid hsum
            have hsm : ug + cn ≤ 50 := by omega
            clear hcn hug hun hb hsum
            go_wp2_with fail
            refine (LCount_any 2 (g : Int) 17 #[] (fun _ => true) Y _ rfl (by omega) (by omega) LY (fit_all _ _ (enters_of Try.func17 (by kernel_rfl) rfl) parts3_any _ _)).mono ?_
            rintro e w9 ⟨he, e9⟩
            rw [← R.out.1, ← HC.out.1] at he
            subst he
            have L9 := LY.kept e9
            have z1 := (e9.cell (p := ⟨bl, 0, none⟩) (block_lt_of_cell y1)).trans y1
            have z2 := (e9.cell (p := ⟨kb, 0, none⟩) (block_lt_of_cell y2)).trans y2
            have z3 := (e9.cell (p := ⟨kb + 1, 0, none⟩) (block_lt_of_cell y3)).trans y3
            have E9 := EY.trans e9
            clear LY y1 y2 y3 y4 EY e9
            go_wp2_with fail
            go_roundw
            case rel => exact ⟨g + 1, by omega, by go_num, by rw [← HC.out.2, HS.out]; go_num, L9, z1, z2, z3, E9⟩
            case measure => simp [intOf]; omega
        · have hg' : g = 6 := by omega
          subst hg'
          have hun : under τ row 6 = j := by rw [under_all τ 6 row (fun x hx => (R.out.2.2.1 x hx).2), R.out.2.1]
          rw [hun]
          go_wp2_with fail
          refine (Len_any 2 wr Lq.rr).mono ?_
          rintro e z1 ⟨he, hz1⟩
          have hz2 := hz1.symm; clear hz1; subst hz2
          rw [← R.out.1, R.out.2.1] at he
          subst he
          go_wp2_with fail
          go_ret
          exact ⟨rfl, eq_⟩
end Go.Proofs.Ytnlcbilmalfjaaa
