/- A part of the proof of a law of roundel: contracts of functions and lemmas, each true as it stands; no condition beyond those that its theorems state. -/
import Derived.Test.YtohgckdkkeiggaaQ
import Derived.Test.YtohgckdkkeiggaaO
namespace Go.Proofs.Ytohgckdkkeiggaa
set_option linter.unusedSimpArgs false
set_option linter.unusedVariables false
open Go.RowKit Go.Maps

theorem tmod_nat (a : Int) (n : Nat) (h0 : 0 ≤ a) (hn : 0 < n) : ∃ k : Nat, a.tmod (n : Int) = (k : Int) ∧ k < n := by
  obtain ⟨m, rfl⟩ := Int.eq_ofNat_of_zero_le h0
  exact ⟨m % n, by rfl, Nat.mod_lt _ hn⟩

theorem forgets_far (B : Nat) (A : Option Addr) (n c : Nat) (l : List Tk) (a id : Int) (hnc : n ≤ c) (hc63 : c ≤ 9223372036854775807) (hf : ¬ ((∀ t ∈ l, t.gs.length ≤ 10) ∧ n ≤ 80)) (W : World) (hBW : B ≤ W.heap.size) (hl : TL W B A n l) :
    Calls Try.prog 6 #[.slice A n c, .int .u8 a, .int .i64 id] W fun e W' => e = .returned (.bool true) ∧ Ext W W' := by
  have hd : decide ((∀ t ∈ l, t.gs.length ≤ 10) ∧ n ≤ 80) = false := decide_eq_false hf
  have HD := Lib.hid hd
  have HL := Lib.hid hl
  clear hd hf hl
  go_enter Try.func6, Try.ntmps6
  go_wp2_with (first
    | (go_at_call 7; refine (awake_any _).mono ?_; rintro e w1 ⟨rfl, he1⟩; obtain ⟨he1c, he1f⟩ := Ext.cells he1; have he1z := Ext.sz he1; (try simp only [World.size_alloc, World.size_drew, World.heap_drewN, World.size_setCell] at he1z))
    | (go_at_call 8; refine (few_any B A n c l hnc hc63 w1 (Nat.le_trans hBW he1.sz) (HL.out.kept (he1.below.mono hBW))).mono ?_; rintro e w2 ⟨he, he2⟩; rw [HD.out] at he; subst he))
  go_ret
  refine ⟨rfl, ?_⟩
  (repeat (first | with_reducible exact Ext.refl _ | with_reducible assumption | with_reducible apply Ext.drew | with_reducible apply Ext.drewN | with_reducible apply Ext.alloc | (with_reducible refine Ext.setCell ?_ (by simp <;> omega) _) | (with_reducible refine Ext.trans ?_ (by with_reducible assumption))))

set_option maxRecDepth 100000 in
set_option maxHeartbeats 1600000 in
theorem forgets_ok (A : Option Addr) (n c : Nat) (l : List Tk) (a id : Int) (ha0 : 0 ≤ a) (ha1 : a ≤ 255) (hid : I64 id) (hAc : A = none → c = 0) (hnc : n ≤ c) (hc63 : c ≤ 9223372036854775807) (hn : n ≤ 80) (hfew : ∀ t ∈ l, t.gs.length ≤ 10) (W : World) (hl : TL W W.heap.size A n l) :
    Calls Try.prog 6 #[.slice A n c, .int .u8 a, .int .i64 id] W fun e W' => e = .returned (.bool true) ∧ Ext W W' := by
  have HD := Lib.hid (decide_eq_true (show (∀ t ∈ l, t.gs.length ≤ 10) ∧ n ≤ 80 from ⟨hfew, hn⟩))
  have HL := Lib.hid hl
  have HW := Lib.hid hfew
  clear hl hfew
  obtain ⟨k, hk, hkn⟩ := tmod_nat a (n + 1) ha0 (by omega)
  have hk' : a.tmod ((n : Int) + 1) = (k : Int) := hk
  have wa : IntKind.i64.wrap a = a := IntWalk.i64_in _ (by omega)
  go_enter Try.func6, Try.ntmps6
  go_wp2_with (first
    | (go_at_call 7; refine (awake_any _).mono ?_; rintro e w1 ⟨rfl, he1⟩; obtain ⟨he1c, he1f⟩ := Ext.cells he1; have he1z := Ext.sz he1; (try simp only [World.size_alloc, World.size_drew, World.heap_drewN, World.size_setCell] at he1z))
    | (go_at_call 8; refine (few_any W.heap.size A n c l hnc hc63 w1 he1.sz (HL.out.kept he1.below)).mono ?_; rintro e w2 ⟨he, he2⟩; rw [HD.out] at he; subst he))
  have e2 : Ext W w2 := he1.trans he2
  have T0 := Tal.fresh w2 (fun _ => none) W.heap.size e2.sz (fun x t h => by cases h) (fun x t h => by cases h)
  have hL2 := (HL.out.kept (e2.alloc (.cells zeros 44)).below).take k (by omega)
  refine (do_all (fun _ => none) W.heap.size w2.heap.size 0 (by omega) (fun _ _ => 0) 0 A k c (l.take k) (by omega) hc63 (by omega) (fun t ht => HW.out t (List.mem_of_mem_take ht)) _ (e2.alloc _).sz T0 hL2).mono ?_
  rintro e w3 ⟨rfl, own3, H3, hC3, ho3⟩
  have e3 : Ext W w3 := (e2.alloc _).step (hC3.below T0.sits) (Nat.le_refl _)
  clear T0 hL2 hC3 ho3
  obtain ⟨b, hb⟩ : ∃ b, b = w2.heap.size := ⟨_, rfl⟩
  rw [← hb] at H3 ⊢
  clear hb he1c he1f
  obtain ⟨F1, hF1⟩ : ∃ F, F = doF (fun _ _ => 0) (l.take k) := ⟨_, rfl⟩
  rw [← hF1] at H3
  go_wp2_with fail
  refine (forget_any own3 W.heap.size b _ (by omega) F1 _ id hid _ H3).mono ?_
  rintro e w4 ⟨rfl, own4, H4, hC4, ho4⟩
  have e4 : Ext W w4 := e3.step (hC4.below H3.sits) (Nat.le_refl _)
  clear H3 hC4 ho4
  obtain ⟨F2, hF2⟩ : ∃ F, F = put1 F1 0 (upd (F1 0) id 0) := ⟨_, rfl⟩
  rw [← hF2] at H4
  obtain ⟨AX, hsl1, hsl2, hlX⟩ := cut_rest A n c k (by omega) hnc
  go_wp2_with fail
  have hL4 := hlX _ _ _ (HL.out.kept e4.below)
  refine (do_all own4 W.heap.size b _ (by omega) F2 _ AX (n - k) (c - k) (l.drop k) (by omega) (by omega) (by omega) (fun t ht => HW.out t (List.mem_of_mem_drop ht)) _ e4.sz H4 hL4).mono ?_
  rintro e w5 ⟨rfl, own5, H5, hC5, ho5⟩
  have e5 : Ext W w5 := e4.step (hC5.below H4.sits) (Nat.le_refl _)
  clear H4 hL4 hC5 ho5 hlX hsl1 hsl2
  obtain ⟨F, hF⟩ : ∃ F, F = forgF l k id := ⟨_, rfl⟩
  have hF' : doF F2 (l.drop k) = F := by rw [hF, forgF, hF2, hF1]
  have hT : (0 : Int) + (k : Int) + ((n - k : Nat) : Int) = (n : Int) := by omega
  rw [hF', hT] at H5
  have H6 := H5.mono (m' := 1041) (by omega)
  have HF := Lib.hid hF
  clear H5 hF' hT hF hF1 hF2
  go_wp2_with fail
  go_loopw [40] (fun i wr => ∃ (j : Nat) (ownr : Own), j ≤ n ∧ i = .int .i64 (j : Int) ∧ Tal wr ownr W.heap.size b (1041 + 13 * j) F n ∧ TChg own5 b w5 wr ∧ ∀ x, x < w5.heap.size → ownr x = own5 x) (fun i _ => n - (intOf i).toNat)
  case atStart => exact ⟨0, own5, by omega, rfl, H6, TChg.refl _ _ _, fun _ _ => rfl⟩
  case round =>
    obtain ⟨j, ownr, hj, rfl, Hr, hCr, hor⟩ := hrel
    have er : Ext W wr := e5.step (hCr.below H6.sits) (Nat.le_refl _)
    by_cases hjn : j < n
    · obtain ⟨h1, h2, h3⟩ := HL.out
      obtain ⟨x, o, rfl, hx, hcell⟩ := h3 (by omega)
      obtain ⟨GA, gn, gc, k0, k1, k2, k3, hsl, hGc⟩ := hcell j hjn
      have hcw : ∀ i, wr.cell? ⟨x, i, none⟩ = W.cell? ⟨x, i, none⟩ := fun i => er.cell (p := ⟨x, i, none⟩) hx
      rw [← hcw] at k0 k1 k2 k3
      have hj' : j < l.length := by omega
      have hmem : l.getD j default ∈ l := by simp [List.getD, hj']
      have hI := h2 _ hmem
      have hgl := HW.out _ hmem
      obtain ⟨⟨gc1, gt1, gs1, gi1⟩, hgx⟩ : ∃ g, g = l.getD j default := ⟨_, rfl⟩
      rw [← hgx] at k0 k1 k3 hsl hI hgl
      have hI1 := hI.1
      have hI2 := hI.2
      dsimp only at k0 k1 k3 hsl hI1 hI2 hgl
      have hgn := hsl.1
      have hgs := hsl.2.1
      have q3 : (j : Int) < (n : Int) := by omega
      have HG := Lib.hid hsl
      clear hgx h2 h3 hcell hsl hI hmem hcw
      have Ha := Hr.alloc (.cells #[.int .i64 gc1, .int .i64 gt1, .slice GA gn gc, .bool gi1] 49)
      have hCa := hCr.alloc (.cells #[.int .i64 gc1, .int .i64 gt1, .slice GA gn gc, .bool gi1] 49)
      have ea := er.alloc (.cells #[.int .i64 gc1, .int .i64 gt1, .slice GA gn gc, .bool gi1] 49)
      obtain ⟨xb, hxb⟩ : ∃ xb, xb = wr.heap.size := ⟨_, rfl⟩
      have xnb : xb ≠ b := by have := Hr.sits.lt; omega
      have xno : ownr xb = none := by
        cases h : ownr xb with
        | none => rfl
        | some t => exact absurd (Hr.sits.old _ _ h) (by omega)
      by_cases p : gt1 = id
      · have p' : (gt1 == id) = true := by simp [p]
        have P := Lib.hid p
        clear p
        go_wp2_with fail
        rw [← hxb]
        refine wp_abs (fun Wx => Tal Wx ownr W.heap.size b (1041 + 13 * j) F n ∧ TChg own5 b w5 Wx ∧ Ext W Wx ∧ xb < Wx.heap.size ∧ Wx.cell? ⟨xb, 0, none⟩ = some (.int .i64 gc1) ∧ Wx.cell? ⟨xb, 1, none⟩ = some (.int .i64 gt1) ∧ Wx.cell? ⟨xb, 2, none⟩ = some (.slice GA gn gc)) ⟨Ha, hCa, ea, by rw [hxb]; simp, by rw [hxb]; simp, by rw [hxb]; simp, by rw [hxb]; simp⟩ ?_
        clear Ha hCa ea k0 k1 k2 k3 hxb
        rintro wx ⟨Ha, hCa, ea, xlt, c0, c1, c2⟩
        have HX := Lib.hid (show ∀ W' : World, W'.heap[xb]? = wx.heap[xb]? → W'.cell? ⟨xb, 0, none⟩ = some (.int .i64 gc1) ∧ W'.cell? ⟨xb, 1, none⟩ = some (.int .i64 gt1) from fun W' h => ⟨(World.cell?_of_block (a := ⟨xb, 0, none⟩) h).trans c0, (World.cell?_of_block (a := ⟨xb, 1, none⟩) h).trans c1⟩)
        have HX2 := Lib.hid (show ∀ W' : World, W'.heap[xb]? = wx.heap[xb]? → W'.cell? ⟨xb, 2, none⟩ = some (.slice GA gn gc) from fun W' h => (World.cell?_of_block (a := ⟨xb, 2, none⟩) h).trans c2)
        have v0 : F 0 gt1 = sumTo (is0 gt1 (k : Int)) l n := by rw [HF.out, forgF0 l n k h1 (by omega)]; simp [P.out]
        have v1 : ∀ x, F 1 x = sumTo (fun _ => is1 x) l n := fun x => by rw [HF.out, forgF1 l n k h1 (by omega)]
        have v2 : F 2 gc1 = sumTo (fun _ => is2 gc1) l n := by rw [HF.out, forgF2 l n k h1 (by omega)]
        have v3 : F 3 gc1 = sumTo (fun _ => is3 gc1) l n := by rw [HF.out, forgF3 l n k h1 (by omega)]
        have V1 := Lib.hid v1
        clear v1
        have y0 : wx.drew.heap[xb]? = wx.heap[xb]? := rfl
        have Hd := Ha.drew
        have ed := ea.drew
        go_region_held3 (fun W' => W'.cell? ⟨xb, 0, none⟩ = some (.int .i64 gc1) ∧ W'.cell? ⟨xb, 1, none⟩ = some (.int .i64 gt1))
          (first | with_reducible exact HX.out _ y0 | with_reducible exact HX.out _ y1 | with_reducible exact HX.out _ y2 | with_reducible exact HX.out _ y3)
          (first
            | (go_at_call 10; (with_reducible refine (thread_any ownr W.heap.size b (1041 + 13 * j) (by omega) F n gt1 hI2 wx.drew Hd).mono ?_); rintro e x1 ⟨he, o1, H1, C1, p1⟩; rw [v0] at he; subst he; have X1 : Ext W x1 := ed.step (C1.below Hd.sits) (Nat.le_refl _); have y1 : x1.heap[xb]? = wx.heap[xb]? := (C1.keeps xlt xnb xno).trans y0; have n1 : o1 xb = none := (p1 xb xlt).trans xno; have l1 : xb < x1.heap.size := Nat.lt_of_lt_of_le xlt C1.size)
            | (go_at_call 11; (with_reducible refine (count0 W.heap.size _ n c l hnc hc63 hn gt1 (k : Int) x1 (HL.out.kept X1.below)).mono ?_); rintro e z1 ⟨rfl, hz1⟩; have hz2 := hz1.symm; clear hz1; subst hz2)
            | (go_at_call 13; (with_reducible refine (busy_any o1 W.heap.size b (1041 + 13 * j + 1) (by omega) F n gc1 hI1 x1 H1).mono ?_); rintro e x2 ⟨he, o2, H2, C2, p2⟩; rw [v2] at he; subst he; have X2 : Ext W x2 := X1.step (C2.below H1.sits) (Nat.le_refl _); have y2 : x2.heap[xb]? = wx.heap[xb]? := (C2.keeps l1 xnb n1).trans y1; have n2 : o2 xb = none := (p2 xb l1).trans n1; have l2 : xb < x2.heap.size := Nat.lt_of_lt_of_le l1 C2.size)
            | (go_at_call 11; (with_reducible refine (count2 W.heap.size _ n c l hnc hc63 hn gc1 0 x2 (HL.out.kept X2.below)).mono ?_); rintro e z1 ⟨rfl, hz1⟩; have hz2 := hz1.symm; clear hz1; subst hz2)
            | (go_at_call 14; (with_reducible refine (idles_any o2 W.heap.size b (1041 + 13 * j + 1 + 1) (by omega) F n gc1 hI1 x2 H2).mono ?_); rintro e x3 ⟨he, o3, H3, C3, p3⟩; rw [v3] at he; subst he; have X3 : Ext W x3 := X2.step (C3.below H2.sits) (Nat.le_refl _); have y3 : x3.heap[xb]? = wx.heap[xb]? := (C3.keeps l2 xnb n2).trans y2; have n3 : o3 xb = none := (p3 xb l2).trans n2; have l3 : xb < x3.heap.size := Nat.lt_of_lt_of_le l2 C3.size)
            | (go_at_call 11; (with_reducible refine (count3 W.heap.size _ n c l hnc hc63 hn gc1 0 x3 (HL.out.kept X3.below)).mono ?_); rintro e z1 ⟨rfl, hz1⟩; have hz2 := hz1.symm; clear hz1; subst hz2))
        rename_i hHeld
        clear hHeld v0 v2 v3 HX y0 c0 c1 c2
        have c2 := HX2.out _ y3
        clear HX2 y1 y2 y3
        have q1 : ∀ x, x < w5.heap.size → o1 x = own5 x := fun x hx => (p1 x (Nat.lt_of_lt_of_le hx hCa.size)).trans (hor x hx)
        have K1 : TChg own5 b w5 x1 := hCa.drew.trans C1 hor
        have q2 : ∀ x, x < w5.heap.size → o2 x = own5 x := fun x hx => (p2 x (Nat.lt_of_lt_of_le hx K1.size)).trans (q1 x hx)
        have K2 : TChg own5 b w5 x2 := K1.trans C2 q1
        have q4 : ∀ x, x < w5.heap.size → o3 x = own5 x := fun x hx => (p3 x (Nat.lt_of_lt_of_le hx K2.size)).trans (q2 x hx)
        have K3 : TChg own5 b w5 x3 := K2.trans C3 q2
        clear p1 p2 p3 K1 K2 C1 C2 C3 H1 H2 q1 q2 hCr hor er Hr Ha Hd hCa ea ed n1 n2 X1 X2
        go_wp2_with fail
        go_loopw [81] (fun i wr2 => ∃ (q : Nat) (ownq : Own), q ≤ gn ∧ i = .int .i64 (q : Int) ∧ Tal wr2 ownq W.heap.size b (1041 + 13 * j + 1 + 1 + 1 + q) F n ∧ TChg o3 b x3 wr2 ∧ ∀ x, x < x3.heap.size → ownq x = o3 x) (fun i _ => gn - (intOf i).toNat)
        case atStart => exact ⟨0, o3, by omega, rfl, H3, TChg.refl _ _ _, fun _ _ => rfl⟩
        case round =>
          obtain ⟨q, ownq, hq, rfl, Hq, hCq, hoq⟩ := hrel
          have eq : Ext W wr := X3.step (hCq.below H3.sits) (Nat.le_refl _)
          by_cases hqn : q < gn
          · obtain ⟨s1, s2, s3⟩ := HG.out.kept eq.below
            obtain ⟨y, oy, rfl, hy, hycell⟩ := s3 (by omega)
            have hcq := hycell q hqn
            have hg := s2 (gs1.getD q 0) (by simp [List.getD, show q < gs1.length by omega])
            obtain ⟨g, hgx⟩ : ∃ g, g = gs1.getD q 0 := ⟨_, rfl⟩
            rw [← hgx] at hcq hg
            have q5 : (q : Int) < (gn : Int) := by omega
            have v1 := V1.out g
            clear s1 s2 s3 hycell hgx c2
            go_wp2_with fail
            refine (group_any ownq W.heap.size b (1041 + 13 * j + 1 + 1 + 1 + q) (by omega) F n g hg wr Hq).mono ?_
            rintro e x4 ⟨he, o4, H4, C4, p4⟩
            rw [v1] at he
            subst he
            have X4 : Ext W x4 := eq.step (C4.below Hq.sits) (Nat.le_refl _)
            go_wp2_with fail
            refine (count1 W.heap.size _ n c l hnc hc63 hn HW.out g 0 x4 (HL.out.kept X4.below)).mono ?_
            rintro e z1 ⟨rfl, hz1⟩
            have hz2 := hz1.symm; clear hz1; subst hz2
            go_wp2_with fail
            go_roundw
            case rel => exact ⟨q + 1, o4, by omega, by go_num, H4, hCq.trans C4 hoq, fun x hx => (p4 x (Nat.lt_of_lt_of_le hx hCq.size)).trans (hoq x hx)⟩
            case measure => simp [intOf]; omega
          · obtain rfl : q = gn := by omega
            go_wp2_with fail
            go_roundw
            case rel => exact ⟨j + 1, ownq, by omega, by go_num, Hq.mono (m' := 1041 + 13 * (j + 1)) (by omega), K3.trans hCq q4, fun x hx => (hoq x (Nat.lt_of_lt_of_le hx K3.size)).trans (q4 x hx)⟩
            case measure => simp [intOf]; omega
      · have p' : (gt1 == id) = false := by simp [p]
        have P := Lib.hid p
        clear p
        go_wp2_with fail
        rw [← hxb]
        refine wp_abs (fun Wx => Tal Wx ownr W.heap.size b (1041 + 13 * j) F n ∧ TChg own5 b w5 Wx ∧ Ext W Wx ∧ xb < Wx.heap.size ∧ Wx.cell? ⟨xb, 0, none⟩ = some (.int .i64 gc1) ∧ Wx.cell? ⟨xb, 1, none⟩ = some (.int .i64 gt1) ∧ Wx.cell? ⟨xb, 2, none⟩ = some (.slice GA gn gc)) ⟨Ha, hCa, ea, by rw [hxb]; simp, by rw [hxb]; simp, by rw [hxb]; simp, by rw [hxb]; simp⟩ ?_
        clear Ha hCa ea k0 k1 k2 k3 hxb
        rintro wx ⟨Ha, hCa, ea, xlt, c0, c1, c2⟩
        have HX := Lib.hid (show ∀ W' : World, W'.heap[xb]? = wx.heap[xb]? → W'.cell? ⟨xb, 0, none⟩ = some (.int .i64 gc1) ∧ W'.cell? ⟨xb, 1, none⟩ = some (.int .i64 gt1) from fun W' h => ⟨(World.cell?_of_block (a := ⟨xb, 0, none⟩) h).trans c0, (World.cell?_of_block (a := ⟨xb, 1, none⟩) h).trans c1⟩)
        have HX2 := Lib.hid (show ∀ W' : World, W'.heap[xb]? = wx.heap[xb]? → W'.cell? ⟨xb, 2, none⟩ = some (.slice GA gn gc) from fun W' h => (World.cell?_of_block (a := ⟨xb, 2, none⟩) h).trans c2)
        have v0 : F 0 gt1 = sumTo (is0 gt1 0) l n := by rw [HF.out, forgF0 l n k h1 (by omega)]; simp [P.out]
        have v1 : ∀ x, F 1 x = sumTo (fun _ => is1 x) l n := fun x => by rw [HF.out, forgF1 l n k h1 (by omega)]
        have v2 : F 2 gc1 = sumTo (fun _ => is2 gc1) l n := by rw [HF.out, forgF2 l n k h1 (by omega)]
        have v3 : F 3 gc1 = sumTo (fun _ => is3 gc1) l n := by rw [HF.out, forgF3 l n k h1 (by omega)]
        have V1 := Lib.hid v1
        clear v1
        have y0 : wx.drew.heap[xb]? = wx.heap[xb]? := rfl
        have Hd := Ha.drew
        have ed := ea.drew
        go_region_held3 (fun W' => W'.cell? ⟨xb, 0, none⟩ = some (.int .i64 gc1) ∧ W'.cell? ⟨xb, 1, none⟩ = some (.int .i64 gt1))
          (first | with_reducible exact HX.out _ y0 | with_reducible exact HX.out _ y1 | with_reducible exact HX.out _ y2 | with_reducible exact HX.out _ y3)
          (first
            | (go_at_call 10; (with_reducible refine (thread_any ownr W.heap.size b (1041 + 13 * j) (by omega) F n gt1 hI2 wx.drew Hd).mono ?_); rintro e x1 ⟨he, o1, H1, C1, p1⟩; rw [v0] at he; subst he; have X1 : Ext W x1 := ed.step (C1.below Hd.sits) (Nat.le_refl _); have y1 : x1.heap[xb]? = wx.heap[xb]? := (C1.keeps xlt xnb xno).trans y0; have n1 : o1 xb = none := (p1 xb xlt).trans xno; have l1 : xb < x1.heap.size := Nat.lt_of_lt_of_le xlt C1.size)
            | (go_at_call 11; (with_reducible refine (count0 W.heap.size _ n c l hnc hc63 hn gt1 0 x1 (HL.out.kept X1.below)).mono ?_); rintro e z1 ⟨rfl, hz1⟩; have hz2 := hz1.symm; clear hz1; subst hz2)
            | (go_at_call 13; (with_reducible refine (busy_any o1 W.heap.size b (1041 + 13 * j + 1) (by omega) F n gc1 hI1 x1 H1).mono ?_); rintro e x2 ⟨he, o2, H2, C2, p2⟩; rw [v2] at he; subst he; have X2 : Ext W x2 := X1.step (C2.below H1.sits) (Nat.le_refl _); have y2 : x2.heap[xb]? = wx.heap[xb]? := (C2.keeps l1 xnb n1).trans y1; have n2 : o2 xb = none := (p2 xb l1).trans n1; have l2 : xb < x2.heap.size := Nat.lt_of_lt_of_le l1 C2.size)
            | (go_at_call 11; (with_reducible refine (count2 W.heap.size _ n c l hnc hc63 hn gc1 0 x2 (HL.out.kept X2.below)).mono ?_); rintro e z1 ⟨rfl, hz1⟩; have hz2 := hz1.symm; clear hz1; subst hz2)
            | (go_at_call 14; (with_reducible refine (idles_any o2 W.heap.size b (1041 + 13 * j + 1 + 1) (by omega) F n gc1 hI1 x2 H2).mono ?_); rintro e x3 ⟨he, o3, H3, C3, p3⟩; rw [v3] at he; subst he; have X3 : Ext W x3 := X2.step (C3.below H2.sits) (Nat.le_refl _); have y3 : x3.heap[xb]? = wx.heap[xb]? := (C3.keeps l2 xnb n2).trans y2; have n3 : o3 xb = none := (p3 xb l2).trans n2; have l3 : xb < x3.heap.size := Nat.lt_of_lt_of_le l2 C3.size)
            | (go_at_call 11; (with_reducible refine (count3 W.heap.size _ n c l hnc hc63 hn gc1 0 x3 (HL.out.kept X3.below)).mono ?_); rintro e z1 ⟨rfl, hz1⟩; have hz2 := hz1.symm; clear hz1; subst hz2))
        rename_i hHeld
        clear hHeld v0 v2 v3 HX y0 c0 c1 c2
        have c2 := HX2.out _ y3
        clear HX2 y1 y2 y3
        have q1 : ∀ x, x < w5.heap.size → o1 x = own5 x := fun x hx => (p1 x (Nat.lt_of_lt_of_le hx hCa.size)).trans (hor x hx)
        have K1 : TChg own5 b w5 x1 := hCa.drew.trans C1 hor
        have q2 : ∀ x, x < w5.heap.size → o2 x = own5 x := fun x hx => (p2 x (Nat.lt_of_lt_of_le hx K1.size)).trans (q1 x hx)
        have K2 : TChg own5 b w5 x2 := K1.trans C2 q1
        have q4 : ∀ x, x < w5.heap.size → o3 x = own5 x := fun x hx => (p3 x (Nat.lt_of_lt_of_le hx K2.size)).trans (q2 x hx)
        have K3 : TChg own5 b w5 x3 := K2.trans C3 q2
        clear p1 p2 p3 K1 K2 C1 C2 C3 H1 H2 q1 q2 hCr hor er Hr Ha Hd hCa ea ed n1 n2 X1 X2
        go_wp2_with fail
        go_loopw [81] (fun i wr2 => ∃ (q : Nat) (ownq : Own), q ≤ gn ∧ i = .int .i64 (q : Int) ∧ Tal wr2 ownq W.heap.size b (1041 + 13 * j + 1 + 1 + 1 + q) F n ∧ TChg o3 b x3 wr2 ∧ ∀ x, x < x3.heap.size → ownq x = o3 x) (fun i _ => gn - (intOf i).toNat)
        case atStart => exact ⟨0, o3, by omega, rfl, H3, TChg.refl _ _ _, fun _ _ => rfl⟩
        case round =>
          obtain ⟨q, ownq, hq, rfl, Hq, hCq, hoq⟩ := hrel
          have eq : Ext W wr := X3.step (hCq.below H3.sits) (Nat.le_refl _)
          by_cases hqn : q < gn
          · obtain ⟨s1, s2, s3⟩ := HG.out.kept eq.below
            obtain ⟨y, oy, rfl, hy, hycell⟩ := s3 (by omega)
            have hcq := hycell q hqn
            have hg := s2 (gs1.getD q 0) (by simp [List.getD, show q < gs1.length by omega])
            obtain ⟨g, hgx⟩ : ∃ g, g = gs1.getD q 0 := ⟨_, rfl⟩
            rw [← hgx] at hcq hg
            have q5 : (q : Int) < (gn : Int) := by omega
            have v1 := V1.out g
            clear s1 s2 s3 hycell hgx c2
            go_wp2_with fail
            refine (group_any ownq W.heap.size b (1041 + 13 * j + 1 + 1 + 1 + q) (by omega) F n g hg wr Hq).mono ?_
            rintro e x4 ⟨he, o4, H4, C4, p4⟩
            rw [v1] at he
            subst he
            have X4 : Ext W x4 := eq.step (C4.below Hq.sits) (Nat.le_refl _)
            go_wp2_with fail
            refine (count1 W.heap.size _ n c l hnc hc63 hn HW.out g 0 x4 (HL.out.kept X4.below)).mono ?_
            rintro e z1 ⟨rfl, hz1⟩
            have hz2 := hz1.symm; clear hz1; subst hz2
            go_wp2_with fail
            go_roundw
            case rel => exact ⟨q + 1, o4, by omega, by go_num, H4, hCq.trans C4 hoq, fun x hx => (p4 x (Nat.lt_of_lt_of_le hx hCq.size)).trans (hoq x hx)⟩
            case measure => simp [intOf]; omega
          · obtain rfl : q = gn := by omega
            go_wp2_with fail
            go_roundw
            case rel => exact ⟨j + 1, ownq, by omega, by go_num, Hq.mono (m' := 1041 + 13 * (j + 1)) (by omega), K3.trans hCq q4, fun x hx => (hoq x (Nat.lt_of_lt_of_le hx K3.size)).trans (q4 x hx)⟩
            case measure => simp [intOf]; omega
    · obtain rfl : j = n := by omega
      have h1 := HL.out.1
      have v0 : F 0 id = sumTo (is0 id (k : Int)) l j := by rw [HF.out, forgF0 l j k h1 (by omega)]; simp
      go_wp2_with fail
      refine (thread_any ownr W.heap.size b (1041 + 13 * j) (by omega) F j id hid wr Hr).mono ?_
      rintro e x1 ⟨he, o1, H1, C1, p1⟩
      rw [v0] at he
      subst he
      have X1 : Ext W x1 := er.step (C1.below Hr.sits) (Nat.le_refl _)
      go_wp2_with fail
      refine (count0 W.heap.size _ j c l hnc hc63 hn id k x1 (HL.out.kept X1.below)).mono ?_
      rintro e z1 ⟨rfl, hz1⟩
      have hz2 := hz1.symm; clear hz1; subst hz2
      go_wp2_with fail
      refine (total_any o1 W.heap.size b _ F _ x1 H1).mono ?_
      rintro e z1 ⟨rfl, hz1⟩
      have hz2 := hz1.symm; clear hz1; subst hz2
      go_wp2_with fail
      go_ret
      exact ⟨by simp, X1⟩
end Go.Proofs.Ytohgckdkkeiggaa
