/- A part of the proof of a law of roundel: contracts of functions and lemmas, each true as it stands; no condition beyond those that its theorems state. -/
import Derived.Test.YtohgckdkkeiggaaR
namespace Go.Proofs.Ytohgckdkkeiggaa
set_option linter.unusedSimpArgs false
set_option linter.unusedVariables false
open Go.RowKit Go.Maps

theorem order_none (B : Nat) (A : Option Addr) (n c : Nat) (l : List Tk) (a : Int) (hnc : n ≤ c) (hc63 : c ≤ 9223372036854775807) (hf : ¬ ((∀ t ∈ l, t.gs.length ≤ 10) ∧ n ≤ 80)) (W : World) (hBW : B ≤ W.heap.size) (hl : TL W B A n l) :
    Calls Try.prog 5 #[.slice A n c, .int .u8 a] W fun e W' => e = .returned (.bool true) ∧ Ext W W' := by
  have hd : decide ((∀ t ∈ l, t.gs.length ≤ 10) ∧ n ≤ 80) = false := decide_eq_false hf
  have HD := Lib.hid hd
  have HL := Lib.hid hl
  clear hd hf hl
  go_enter Try.func5, Try.ntmps5
  go_wp2_with (first
    | (go_at_call 7; refine (awake_any _).mono ?_; rintro e w1 ⟨rfl, he1⟩; obtain ⟨he1c, he1f⟩ := Ext.cells he1; have he1z := Ext.sz he1; (try simp only [World.size_alloc, World.size_drew, World.heap_drewN, World.size_setCell] at he1z))
    | (go_at_call 8; refine (few_any B A n c l hnc hc63 w1 (Nat.le_trans hBW he1.sz) (HL.out.kept (he1.below.mono hBW))).mono ?_; rintro e w2 ⟨he, he2⟩; rw [HD.out] at he; subst he))
  go_ret
  refine ⟨rfl, ?_⟩
  (repeat (first | with_reducible exact Ext.refl _ | with_reducible assumption | with_reducible apply Ext.drew | with_reducible apply Ext.drewN | with_reducible apply Ext.alloc | (with_reducible refine Ext.setCell ?_ (by simp <;> omega) _) | (with_reducible refine Ext.trans ?_ (by with_reducible assumption))))

theorem order_zero (B : Nat) (A : Option Addr) (c : Nat) (l : List Tk) (a : Int) (hc63 : c ≤ 9223372036854775807) (hf : (∀ t ∈ l, t.gs.length ≤ 10) ∧ 0 ≤ 80) (W : World) (hBW : B ≤ W.heap.size) (hl : TL W B A 0 l) :
    Calls Try.prog 5 #[.slice A 0 c, .int .u8 a] W fun e W' => e = .returned (.bool true) ∧ Ext W W' := by
  have hd : decide ((∀ t ∈ l, t.gs.length ≤ 10) ∧ 0 ≤ 80) = true := decide_eq_true hf
  have HD := Lib.hid hd
  have HL := Lib.hid hl
  clear hd hf hl
  go_enter Try.func5, Try.ntmps5
  go_wp2_with (first
    | (go_at_call 7; refine (awake_any _).mono ?_; rintro e w1 ⟨rfl, he1⟩; obtain ⟨he1c, he1f⟩ := Ext.cells he1; have he1z := Ext.sz he1; (try simp only [World.size_alloc, World.size_drew, World.heap_drewN, World.size_setCell] at he1z))
    | (go_at_call 8; refine (few_any B A 0 c l (by omega) hc63 w1 (Nat.le_trans hBW he1.sz) (HL.out.kept (he1.below.mono hBW))).mono ?_; rintro e w2 ⟨he, he2⟩; rw [HD.out] at he; subst he))
  go_ret
  refine ⟨rfl, ?_⟩
  (repeat (first | with_reducible exact Ext.refl _ | with_reducible assumption | with_reducible apply Ext.drew | with_reducible apply Ext.drewN | with_reducible apply Ext.alloc | (with_reducible refine Ext.setCell ?_ (by simp <;> omega) _) | (with_reducible refine Ext.trans ?_ (by with_reducible assumption))))

set_option maxRecDepth 100000 in
set_option maxHeartbeats 1600000 in
theorem order_ok (A : Option Addr) (n c : Nat) (l : List Tk) (a : Int) (ha0 : 0 ≤ a) (ha1 : a ≤ 255) (hn0 : 0 < n) (hnc : n ≤ c) (hc63 : c ≤ 9223372036854775807) (hn : n ≤ 80) (hfew : ∀ t ∈ l, t.gs.length ≤ 10) (W : World) (hl : TL W W.heap.size A n l) :
    Calls Try.prog 5 #[.slice A n c, .int .u8 a] W fun e W' => e = .returned (.bool true) ∧ Ext W W' := by
  have HD := Lib.hid (decide_eq_true (show (∀ t ∈ l, t.gs.length ≤ 10) ∧ n ≤ 80 from ⟨hfew, hn⟩))
  have HL := Lib.hid hl
  have HW := Lib.hid hfew
  clear hl hfew
  obtain ⟨k, hk, hkn⟩ := tmod_nat a n ha0 hn0
  have wa : IntKind.i64.wrap a = a := IntWalk.i64_in _ (by omega)
  have hn0' : ¬ ((n : Int) = 0) := by omega
  have hn0'' : ((n : Int) == 0) = false := by simp; omega
  go_enter Try.func5, Try.ntmps5
  go_wp2_with (first
    | (go_at_call 7; refine (awake_any _).mono ?_; rintro e w1 ⟨rfl, he1⟩; obtain ⟨he1c, he1f⟩ := Ext.cells he1; have he1z := Ext.sz he1; (try simp only [World.size_alloc, World.size_drew, World.heap_drewN, World.size_setCell] at he1z))
    | (go_at_call 8; refine (few_any W.heap.size A n c l hnc hc63 w1 he1.sz (HL.out.kept he1.below)).mono ?_; rintro e w2 ⟨he, he2⟩; rw [HD.out] at he; subst he))
  have e2 : Ext W w2 := he1.trans he2
  have TA := (Tal.fresh w2 (fun _ => none) W.heap.size e2.sz (fun x t h => by cases h) (fun x t h => by cases h)).alloc (.cells zeros 44)
  have TB := Tal.fresh (w2.alloc (.cells zeros 44)) (fun _ => none) W.heap.size (by have := e2.sz; simp; omega) (fun x t h => by cases h) (fun x t h => by cases h)
  have ha : Ext W ((w2.alloc (.cells zeros 44)).alloc (.cells zeros 44)) := (e2.alloc _).alloc _
  have hab : w2.heap.size ≠ (w2.alloc (.cells zeros 44)).heap.size := by simp
  have hba : (w2.alloc (.cells zeros 44)).heap.size ≠ w2.heap.size := by simp
  refine (do_all (fun _ => none) W.heap.size w2.heap.size 0 (by omega) (fun _ _ => 0) 0 A n c l hnc hc63 hn HW.out _ ha.sz TA (HL.out.kept ha.below)).mono ?_
  rintro e w3 ⟨rfl, own3, HA3, hC3, ho3⟩
  have HB3 := TB.other HA3.sits hC3 ho3 hba
  have e3 : Ext W w3 := ha.step (hC3.below TA.sits) (Nat.le_refl _)
  clear TA TB hC3 ho3 ha
  obtain ⟨p, hp⟩ : ∃ p, p = w2.heap.size := ⟨_, rfl⟩
  obtain ⟨b, hb⟩ : ∃ b, b = (w2.alloc (.cells zeros 44)).heap.size := ⟨_, rfl⟩
  have hb' : w2.heap.size + 1 = b := by rw [hb]; simp
  rw [← hp, ← hb] at hab hba
  rw [← hb] at HB3
  rw [hb', ← hp]
  rw [← hp] at HA3
  clear hb hb' hp he1c he1f
  obtain ⟨FA, hFA⟩ : ∃ F, F = doF (fun _ _ => 0) l := ⟨_, rfl⟩
  rw [← hFA] at HA3
  obtain ⟨AX, hsl1, hsl2, hlX⟩ := cut_rest A n c k (by omega) hnc
  go_wp2_with fail
  have hL3 := hlX _ _ _ (HL.out.kept e3.below)
  refine (do_all own3 W.heap.size b 0 (by omega) (fun _ _ => 0) 0 AX (n - k) (c - k) (l.drop k) (by omega) (by omega) (by omega) (fun t ht => HW.out t (List.mem_of_mem_drop ht)) _ e3.sz HB3 hL3).mono ?_
  rintro e w4 ⟨rfl, own4, HB4, hC4, ho4⟩
  have HA4 := HA3.other HB4.sits hC4 ho4 hab
  have e4 : Ext W w4 := e3.step (hC4.below HB3.sits) (Nat.le_refl _)
  clear HA3 HB3 hL3 hC4 ho4 hlX hsl1 hsl2
  go_wp2_with fail
  have hL4 := (HL.out.kept e4.below).take k (by omega)
  refine (do_all own4 W.heap.size b _ (by omega) _ _ A k c (l.take k) (by omega) hc63 (by omega) (fun t ht => HW.out t (List.mem_of_mem_take ht)) _ e4.sz HB4 hL4).mono ?_
  rintro e w5 ⟨rfl, own5, HB5, hC5, ho5⟩
  have HA5 := HA4.other HB5.sits hC5 ho5 hab
  have e5 : Ext W w5 := e4.step (hC5.below HB4.sits) (Nat.le_refl _)
  clear HA4 HB4 hL4 hC5 ho5
  obtain ⟨FB, hFB⟩ : ∃ F, F = doF (doF (fun _ _ => 0) (l.drop k)) (l.take k) := ⟨_, rfl⟩
  rw [← hFB] at HB5
  have hT : (0 : Int) + ((n - k : Nat) : Int) + (k : Int) = (n : Int) := by omega
  rw [hT] at HB5
  rw [Int.zero_add] at HA5
  have HA6 := HA5.mono (m' := 1040) (by omega)
  have HB6 := HB5.mono (m' := 1040) (by omega)
  have V := Lib.hid (show ∀ i, i < 4 → ∀ x, FB i x = FA i x from fun i hi x => by rw [hFB, hFA]; exact turned l n k HL.out.1 (by omega) i hi x)
  clear HA5 HB5 hFA hFB hT
  go_wp2_with fail
  go_loopw [42] (fun i wr => ∃ (j : Nat) (ownr : Own), j ≤ n ∧ i = .int .i64 (j : Int) ∧ Tal wr ownr W.heap.size p (1040 + 13 * j) FA n ∧ Tal wr ownr W.heap.size b (1040 + 13 * j) FB n ∧ Ext W wr) (fun i _ => n - (intOf i).toNat)
  case atStart => exact ⟨0, own5, by omega, rfl, HA6, HB6, e5⟩
  case round =>
    obtain ⟨j, ownr, hj, rfl, Ar, Br, er⟩ := hrel
    clear HA6 HB6 e5 e4 e3 e2
    by_cases hjn : j < n
    · obtain ⟨h1, h2, h3⟩ := HL.out
      obtain ⟨x, o, rfl, hx, hcell⟩ := h3 (by omega)
      obtain ⟨GA, gn, gc, k0, k1, k2, k3, hsl, hGc⟩ := hcell j hjn
      have hcw : ∀ i, wr.cell? ⟨x, i, none⟩ = W.cell? ⟨x, i, none⟩ := fun i => er.cell (p := ⟨x, i, none⟩) hx
      rw [← hcw] at k0 k1 k2 k3
      have hj' : j < l.length := by omega
      have hmem : l.getD j default ∈ l := by simp [List.getD, hj']
      have hI := h2 _ hmem
      have hgl := HW.out _ hmem
      obtain ⟨⟨gc1, gt1, gs1, gi1⟩, hgx⟩ : ∃ g, g = l.getD j default := ⟨_, rfl⟩
      rw [← hgx] at k0 k1 k3 hsl hI hgl
      have hI1 := hI.1
      have hI2 := hI.2
      dsimp only at k0 k1 k3 hsl hI1 hI2 hgl
      have hgn := hsl.1
      have hgs := hsl.2.1
      have q3 : (j : Int) < (n : Int) := by omega
      have HG := Lib.hid hsl
      clear hgx h2 h3 hcell hsl hI hmem hcw
      have Aa := Ar.alloc (.cells #[.int .i64 gc1, .int .i64 gt1, .slice GA gn gc, .bool gi1] 49)
      have Ba := Br.alloc (.cells #[.int .i64 gc1, .int .i64 gt1, .slice GA gn gc, .bool gi1] 49)
      have ea := er.alloc (.cells #[.int .i64 gc1, .int .i64 gt1, .slice GA gn gc, .bool gi1] 49)
      obtain ⟨xb, hxb⟩ : ∃ xb, xb = wr.heap.size := ⟨_, rfl⟩
      have xnp : xb ≠ p := by have := Ar.sits.lt; omega
      have xnb : xb ≠ b := by have := Br.sits.lt; omega
      have xno : ownr xb = none := by
        cases h : ownr xb with
        | none => rfl
        | some t => exact absurd (Ar.sits.old _ _ h) (by omega)
      go_wp2_with fail
      rw [← hxb]
      refine wp_abs (fun Wx => Tal Wx ownr W.heap.size p (1040 + 13 * j) FA n ∧ Tal Wx ownr W.heap.size b (1040 + 13 * j) FB n ∧ Ext W Wx ∧ xb < Wx.heap.size ∧ Wx.cell? ⟨xb, 0, none⟩ = some (.int .i64 gc1) ∧ Wx.cell? ⟨xb, 1, none⟩ = some (.int .i64 gt1) ∧ Wx.cell? ⟨xb, 2, none⟩ = some (.slice GA gn gc)) ⟨Aa, Ba, ea, by rw [hxb]; simp, by rw [hxb]; simp, by rw [hxb]; simp, by rw [hxb]; simp⟩ ?_
      clear Aa Ba ea k0 k1 k2 k3 hxb Ar Br er
      rintro wx ⟨Aa, Ba, ea, xlt, c0, c1, c2⟩
      have HX := Lib.hid (show ∀ W' : World, W'.heap[xb]? = wx.heap[xb]? → W'.cell? ⟨xb, 0, none⟩ = some (.int .i64 gc1) ∧ W'.cell? ⟨xb, 1, none⟩ = some (.int .i64 gt1) from fun W' h => ⟨(World.cell?_of_block (a := ⟨xb, 0, none⟩) h).trans c0, (World.cell?_of_block (a := ⟨xb, 1, none⟩) h).trans c1⟩)
      have HX2 := Lib.hid (show ∀ W' : World, W'.heap[xb]? = wx.heap[xb]? → W'.cell? ⟨xb, 2, none⟩ = some (.slice GA gn gc) from fun W' h => (World.cell?_of_block (a := ⟨xb, 2, none⟩) h).trans c2)
      have v0 : FB 0 gt1 = FA 0 gt1 := V.out 0 (by omega) _
      have v2 : FB 2 gc1 = FA 2 gc1 := V.out 2 (by omega) _
      have v3 : FB 3 gc1 = FA 3 gc1 := V.out 3 (by omega) _
      have y0 : wx.drew.heap[xb]? = wx.heap[xb]? := rfl
      have Ad := Aa.drew
      have Bd := Ba.drew
      have ed := ea.drew
      go_region_held3 (fun W' => W'.cell? ⟨xb, 0, none⟩ = some (.int .i64 gc1) ∧ W'.cell? ⟨xb, 1, none⟩ = some (.int .i64 gt1))
        (first | with_reducible exact HX.out _ y0 | with_reducible exact HX.out _ y1 | with_reducible exact HX.out _ y2 | with_reducible exact HX.out _ y3 | with_reducible exact HX.out _ y4 | with_reducible exact HX.out _ y5 | with_reducible exact HX.out _ y6)
        (first
          | (go_at_call 10; (with_reducible refine (thread_any ownr W.heap.size p (1040 + 13 * j) (by omega) FA n gt1 hI2 wx.drew Ad).mono ?_); rintro e x1 ⟨rfl, o1, A1, C1, p1⟩; have X1 : Ext W x1 := ed.step (C1.below Ad.sits) (Nat.le_refl _); have B1 := Bd.other A1.sits C1 p1 hba; have y1 : x1.heap[xb]? = wx.heap[xb]? := (C1.keeps xlt xnp xno).trans y0; have n1 : o1 xb = none := (p1 xb xlt).trans xno; have l1 : xb < x1.heap.size := Nat.lt_of_lt_of_le xlt C1.size; clear C1 p1)
          | (go_at_call 10; (with_reducible refine (thread_any o1 W.heap.size b (1040 + 13 * j) (by omega) FB n gt1 hI2 x1 B1).mono ?_); rintro e x2 ⟨he, o2, B2, C2, p2⟩; rw [v0] at he; subst he; have X2 : Ext W x2 := X1.step (C2.below B1.sits) (Nat.le_refl _); have A2 := A1.other B2.sits C2 p2 hab; have y2 : x2.heap[xb]? = wx.heap[xb]? := (C2.keeps l1 xnb n1).trans y1; have n2 : o2 xb = none := (p2 xb l1).trans n1; have l2 : xb < x2.heap.size := Nat.lt_of_lt_of_le l1 C2.size; clear C2 p2)
          | (go_at_call 13; (with_reducible refine (busy_any o2 W.heap.size p (1040 + 13 * j + 1) (by omega) FA n gc1 hI1 x2 A2).mono ?_); rintro e x3 ⟨rfl, o3, A3, C3, p3⟩; have X3 : Ext W x3 := X2.step (C3.below A2.sits) (Nat.le_refl _); have B3 := B2.other A3.sits C3 p3 hba; have y3 : x3.heap[xb]? = wx.heap[xb]? := (C3.keeps l2 xnp n2).trans y2; have n3 : o3 xb = none := (p3 xb l2).trans n2; have l3 : xb < x3.heap.size := Nat.lt_of_lt_of_le l2 C3.size; clear C3 p3)
          | (go_at_call 13; (with_reducible refine (busy_any o3 W.heap.size b (1040 + 13 * j + 1) (by omega) FB n gc1 hI1 x3 B3).mono ?_); rintro e x4 ⟨he, o4, B4, C4, p4⟩; rw [v2] at he; subst he; have X4 : Ext W x4 := X3.step (C4.below B3.sits) (Nat.le_refl _); have A4 := A3.other B4.sits C4 p4 hab; have y4 : x4.heap[xb]? = wx.heap[xb]? := (C4.keeps l3 xnb n3).trans y3; have n4 : o4 xb = none := (p4 xb l3).trans n3; have l4 : xb < x4.heap.size := Nat.lt_of_lt_of_le l3 C4.size; clear C4 p4)
          | (go_at_call 14; (with_reducible refine (idles_any o4 W.heap.size p (1040 + 13 * j + 1 + 1) (by omega) FA n gc1 hI1 x4 A4).mono ?_); rintro e x5 ⟨rfl, o5, A5, C5, p5⟩; have X5 : Ext W x5 := X4.step (C5.below A4.sits) (Nat.le_refl _); have B5 := B4.other A5.sits C5 p5 hba; have y5 : x5.heap[xb]? = wx.heap[xb]? := (C5.keeps l4 xnp n4).trans y4; have n5 : o5 xb = none := (p5 xb l4).trans n4; have l5 : xb < x5.heap.size := Nat.lt_of_lt_of_le l4 C5.size; clear C5 p5)
          | (go_at_call 14; (with_reducible refine (idles_any o5 W.heap.size b (1040 + 13 * j + 1 + 1) (by omega) FB n gc1 hI1 x5 B5).mono ?_); rintro e x6 ⟨he, o6, B6, C6, p6⟩; rw [v3] at he; subst he; have X6 : Ext W x6 := X5.step (C6.below B5.sits) (Nat.le_refl _); have A6 := A5.other B6.sits C6 p6 hab; have y6 : x6.heap[xb]? = wx.heap[xb]? := (C6.keeps l5 xnb n5).trans y5; clear C6 p6))
      rename_i hHeld
      clear hHeld v0 v2 v3 HX y0 c0 c1 c2
      have c2 := HX2.out _ y6
      clear HX2 y1 y2 y3 y4 y5 y6 A1 A2 A3 A4 A5 B1 B2 B3 B4 B5 X1 X2 X3 X4 X5 Aa Ba Ad Bd ea ed n1 n2 n3 n4 n5 l1 l2 l3 l4 l5
      go_wp2_with fail
      go_loopw [74] (fun i wr2 => ∃ (q : Nat) (ownq : Own), q ≤ gn ∧ i = .int .i64 (q : Int) ∧ Tal wr2 ownq W.heap.size p (1040 + 13 * j + 1 + 1 + 1 + q) FA n ∧ Tal wr2 ownq W.heap.size b (1040 + 13 * j + 1 + 1 + 1 + q) FB n ∧ Ext W wr2) (fun i _ => gn - (intOf i).toNat)
      case atStart => exact ⟨0, o6, by omega, rfl, A6, B6, X6⟩
      case round =>
        obtain ⟨q, ownq, hq, rfl, Aq, Bq, eq⟩ := hrel
        by_cases hqn : q < gn
        · obtain ⟨s1, s2, s3⟩ := HG.out.kept eq.below
          obtain ⟨y, oy, rfl, hy, hycell⟩ := s3 (by omega)
          have hcq := hycell q hqn
          have hg := s2 (gs1.getD q 0) (by simp [List.getD, show q < gs1.length by omega])
          obtain ⟨g, hgx⟩ : ∃ g, g = gs1.getD q 0 := ⟨_, rfl⟩
          rw [← hgx] at hcq hg
          have q5 : (q : Int) < (gn : Int) := by omega
          have v1 : FB 1 g = FA 1 g := V.out 1 (by omega) g
          clear s1 s2 s3 hycell hgx c2
          go_wp2_with fail
          refine (group_any ownq W.heap.size p (1040 + 13 * j + 1 + 1 + 1 + q) (by omega) FA n g hg wr Aq).mono ?_
          rintro e x7 ⟨rfl, o7, A7, C7, p7⟩
          have X7 : Ext W x7 := eq.step (C7.below Aq.sits) (Nat.le_refl _)
          have B7 := Bq.other A7.sits C7 p7 hba
          go_wp2_with fail
          refine (group_any o7 W.heap.size b (1040 + 13 * j + 1 + 1 + 1 + q) (by omega) FB n g hg x7 B7).mono ?_
          rintro e x8 ⟨he, o8, B8, C8, p8⟩
          rw [v1] at he
          subst he
          have X8 : Ext W x8 := X7.step (C8.below B7.sits) (Nat.le_refl _)
          have A8 := A7.other B8.sits C8 p8 hab
          go_wp2_with fail
          go_roundw
          case rel => exact ⟨q + 1, o8, by omega, by go_num, A8, B8, X8⟩
          case measure => simp [intOf]; omega
        · obtain rfl : q = gn := by omega
          go_wp2_with fail
          go_roundw
          case rel => exact ⟨j + 1, ownq, by omega, by go_num, Aq.mono (m' := 1040 + 13 * (j + 1)) (by omega), Bq.mono (m' := 1040 + 13 * (j + 1)) (by omega), eq⟩
          case measure => simp [intOf]; omega
    · obtain rfl : j = n := by omega
      go_wp2_with fail
      refine (total_any ownr W.heap.size p _ FA _ wr Ar).mono ?_
      rintro e z1 ⟨rfl, hz1⟩
      have hz2 := hz1.symm; clear hz1; subst hz2
      go_wp2_with fail
      refine (total_any ownr W.heap.size b _ FB _ wr Br).mono ?_
      rintro e z1 ⟨rfl, hz1⟩
      have hz2 := hz1.symm; clear hz1; subst hz2
      go_wp2_with fail
      go_ret
      exact ⟨by simp, er⟩
end Go.Proofs.Ytohgckdkkeiggaa
