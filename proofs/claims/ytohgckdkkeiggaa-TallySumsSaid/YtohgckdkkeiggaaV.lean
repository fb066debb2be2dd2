/- A part of the proof of a law of roundel: contracts of functions and lemmas, each true as it stands; no condition beyond those that its theorems state. -/
import Derived.Test.YtohgckdkkeiggaaT
import Derived.Test.YtohgckdkkeiggaaR
namespace Go.Proofs.Ytohgckdkkeiggaa
set_option linter.unusedSimpArgs false
set_option linter.unusedVariables false
open Go.RowKit Go.Maps

theorem sums_far (B : Nat) (A : Option Addr) (n c : Nat) (l : List Tk) (hnc : n ≤ c) (hc63 : c ≤ 9223372036854775807) (hf : ¬ ((∀ t ∈ l, t.gs.length ≤ 10) ∧ n ≤ 80)) (W : World) (hBW : B ≤ W.heap.size) (hl : TL W B A n l) :
    Calls Try.prog 4 #[.slice A n c] W fun e W' => e = .returned (.bool true) ∧ Ext W W' := by
  have hd : decide ((∀ t ∈ l, t.gs.length ≤ 10) ∧ n ≤ 80) = false := decide_eq_false hf
  have HD := Lib.hid hd
  have HL := Lib.hid hl
  clear hd hf hl
  go_enter Try.func4, Try.ntmps4
  go_wp2_with (first
    | (go_at_call 7; refine (awake_any _).mono ?_; rintro e w1 ⟨rfl, he1⟩; obtain ⟨he1c, he1f⟩ := Ext.cells he1; have he1z := Ext.sz he1; (try simp only [World.size_alloc, World.size_drew, World.heap_drewN, World.size_setCell] at he1z))
    | (go_at_call 8; refine (few_any B A n c l hnc hc63 w1 (Nat.le_trans hBW he1.sz) (HL.out.kept (he1.below.mono hBW))).mono ?_; rintro e w2 ⟨he, he2⟩; rw [HD.out] at he; subst he))
  go_ret
  refine ⟨rfl, ?_⟩
  (repeat (first | with_reducible exact Ext.refl _ | with_reducible assumption | with_reducible apply Ext.drew | with_reducible apply Ext.drewN | with_reducible apply Ext.alloc | (with_reducible refine Ext.setCell ?_ (by simp <;> omega) _) | (with_reducible refine Ext.trans ?_ (by with_reducible assumption))))

set_option maxRecDepth 100000 in
set_option maxHeartbeats 1600000 in
theorem sums_ok (A : Option Addr) (n c : Nat) (l : List Tk) (hnc : n ≤ c) (hc63 : c ≤ 9223372036854775807) (hn : n ≤ 80) (hfew : ∀ t ∈ l, t.gs.length ≤ 10) (W : World) (hl : TL W W.heap.size A n l) :
    Calls Try.prog 4 #[.slice A n c] W fun e W' => e = .returned (.bool true) ∧ Ext W W' := by
  have HD := Lib.hid (decide_eq_true (show (∀ t ∈ l, t.gs.length ≤ 10) ∧ n ≤ 80 from ⟨hfew, hn⟩))
  have HL := Lib.hid hl
  have HW := Lib.hid hfew
  have hmk := makes54
  clear hl hfew
  go_enter Try.func4, Try.ntmps4
  go_wp2_with (first
    | (go_at_call 7; refine (awake_any _).mono ?_; rintro e w1 ⟨rfl, he1⟩; obtain ⟨he1c, he1f⟩ := Ext.cells he1; have he1z := Ext.sz he1; (try simp only [World.size_alloc, World.size_drew, World.heap_drewN, World.size_setCell] at he1z))
    | (go_at_call 8; refine (few_any W.heap.size A n c l hnc hc63 w1 he1.sz (HL.out.kept he1.below)).mono ?_; rintro e w2 ⟨he, he2⟩; rw [HD.out] at he; subst he))
  have e2 : Ext W w2 := he1.trans he2
  have TA := Tal.fresh w2 (fun _ => none) W.heap.size e2.sz (fun x t h => by cases h) (fun x t h => by cases h)
  have ha : Ext W (w2.alloc (.cells zeros 44)) := e2.alloc _
  refine (do_all (fun _ => none) W.heap.size w2.heap.size 0 (by omega) (fun _ _ => 0) 0 A n c l hnc hc63 hn HW.out _ ha.sz TA (HL.out.kept ha.below)).mono ?_
  rintro e w3 ⟨rfl, own3, H3, hC3, ho3⟩
  have e3 : Ext W w3 := ha.step (hC3.below TA.sits) (Nat.le_refl _)
  clear TA hC3 ho3 ha
  obtain ⟨b, hb⟩ : ∃ b, b = w2.heap.size := ⟨_, rfl⟩
  rw [← hb] at H3 ⊢
  clear hb he1c he1f
  obtain ⟨F, hF⟩ : ∃ F, F = doF (fun _ _ => 0) l := ⟨_, rfl⟩
  rw [← hF, Int.zero_add] at H3
  have V0 := Lib.hid (show ∀ x, F 0 x = sumTo (is0 x 0) l n from fun x => by rw [hF, do0, HL.out.1]; simp)
  have V2 := Lib.hid (show ∀ x, F 2 x = sumTo (fun _ => is2 x) l n from fun x => by rw [hF, do2, HL.out.1]; simp)
  have V3 := Lib.hid (show ∀ x, F 3 x = sumTo (fun _ => is3 x) l n from fun x => by rw [hF, do3, HL.out.1]; simp)
  clear hF
  obtain ⟨mt, hmt⟩ : ∃ x, x = w3.heap.size := ⟨_, rfl⟩
  obtain ⟨mc, hmc⟩ : ∃ x, x = w3.heap.size + 1 := ⟨_, rfl⟩
  have mnb : mt ≠ b := by have := H3.sits.lt; omega
  have cnb : mc ≠ b := by have := H3.sits.lt; omega
  have mtc : mt ≠ mc := by omega
  have cge : W.heap.size ≤ mc := by have := e3.sz; omega
  have mge : W.heap.size ≤ mt := by have := e3.sz; omega
  have mo : own3 mt = none := by
    cases h : own3 mt with
    | none => rfl
    | some t => exact absurd (H3.sits.old _ _ h) (by omega)
  have co : own3 mc = none := by
    cases h : own3 mc with
    | none => rfl
    | some t => exact absurd (H3.sits.old _ _ h) (by omega)
  have e5 : Ext W ((w3.alloc (.map #[] 0)).alloc (.map #[] 0)) := (e3.alloc _).alloc _
  have H5 : Tal ((w3.alloc (.map #[] 0)).alloc (.map #[] 0)) own3 W.heap.size b 1040 F n := (((H3.mono (m' := 1040) (by omega)).alloc _).alloc _)
  have M5 : BSet ((w3.alloc (.map #[] 0)).alloc (.map #[] 0)) mt 0 (fun _ => false) := by
    have z := BSet.made w3
    rw [← hmt] at z
    exact z.kept (Below.heap_alloc _ _ _ z.lt)
  have N5 : BSet ((w3.alloc (.map #[] 0)).alloc (.map #[] 0)) mc 0 (fun _ => false) := by
    have z := BSet.made (w3.alloc (.map #[] 0))
    rw [show (w3.alloc (.map #[] 0)).heap.size = mc by rw [hmc]; simp] at z
    exact z
  go_wp2_with fail
  rw [← hmc]
  rw [← hmt]
  refine wp_abs (fun Wx => Tal Wx own3 W.heap.size b 1040 F n ∧ BSet Wx mt 0 (fun _ => false) ∧ BSet Wx mc 0 (fun _ => false) ∧ Ext W Wx) ⟨H5, M5, N5, e5⟩ ?_
  clear H5 M5 N5 e5 hmt hmc H3 e3
  rintro w5 ⟨H5, M5, N5, e5⟩
  have z0 := in_none l n
  go_loopw [6, 7, 8, 25] (fun sm id bs i wr => ∃ (j : Nat) (ownr : Own) (S1 S2 : Int → Bool), j ≤ n ∧ sm = .int .i64 (sumTo (fun _ => inT S1) l n) ∧ id = .int .i64 (sumTo (fun _ => inI S2) l n) ∧ bs = .int .i64 (sumTo (fun _ => inB S2) l n) ∧ i = .int .i64 (j : Int) ∧ Tal wr ownr W.heap.size b (1040 + 3 * j) F n ∧ BSet wr mt j S1 ∧ BSet wr mc j S2 ∧ ownr mt = none ∧ ownr mc = none ∧ Ext W wr ∧
    ∀ i, i < j → ((l.getD i default).idle = false → S1 (l.getD i default).thread = true) ∧ S2 (l.getD i default).core = true) (fun _ _ _ i _ => n - (intOf i).toNat)
  case atStart => exact ⟨0, own3, fun _ => false, fun _ => false, by omega, by rw [z0.1], by rw [z0.2.1], by rw [z0.2.2], rfl, H5, M5, N5, mo, co, e5, fun i h => by omega⟩
  case round =>
    obtain ⟨j, ownr, S1, S2, hj, rfl, rfl, rfl, rfl, Ar, Br, Dr, mor, cor, er, hall⟩ := hrel
    clear H5 M5 N5 e5 z0 mo co e2
    by_cases hjn : j < n
    · obtain ⟨h1, h2, h3⟩ := HL.out
      obtain ⟨x, o, rfl, hx, hcell⟩ := h3 (by omega)
      obtain ⟨GA, gn, gc, k0, k1, k2, k3, hsl, hGc⟩ := hcell j hjn
      have hcw : ∀ i, wr.cell? ⟨x, i, none⟩ = W.cell? ⟨x, i, none⟩ := fun i => er.cell (p := ⟨x, i, none⟩) hx
      rw [← hcw] at k0 k1 k2 k3
      have hj' : j < l.length := by omega
      have hmem : l.getD j default ∈ l := by simp [List.getD, hj']
      have hI := h2 _ hmem
      obtain ⟨⟨gc1, gt1, gs1, gi1⟩, hgx⟩ : ∃ g, g = l.getD j default := ⟨_, rfl⟩
      rw [← hgx] at k0 k1 k3 hI
      have hI1 := hI.1
      have hI2 := hI.2
      dsimp only at k0 k1 k3 hI1 hI2
      have q3 : (j : Int) < (n : Int) := by omega
      have HAL0 := Lib.hid (And.intro hall hgx)
      clear hgx h2 h3 hcell hsl hI hmem hcw hall
      have Aa := Ar.alloc (.cells #[.int .i64 gc1, .int .i64 gt1, .slice GA gn gc, .bool gi1] 49)
      have Ba := Br.kept (Below.heap_alloc wr (.cells #[.int .i64 gc1, .int .i64 gt1, .slice GA gn gc, .bool gi1] 49) mt Br.lt)
      have Da := Dr.kept (Below.heap_alloc wr (.cells #[.int .i64 gc1, .int .i64 gt1, .slice GA gn gc, .bool gi1] 49) mc Dr.lt)
      have ea := er.alloc (.cells #[.int .i64 gc1, .int .i64 gt1, .slice GA gn gc, .bool gi1] 49)
      have xnb : wr.heap.size ≠ b := by have := Ar.sits.lt; omega
      have xmt : wr.heap.size ≠ mt := by have := Br.lt; omega
      have xmc : wr.heap.size ≠ mc := by have := Dr.lt; omega
      have xno : ownr wr.heap.size = none := by
        cases h : ownr wr.heap.size with
        | none => rfl
        | some t => exact absurd (Ar.sits.old _ _ h) (by omega)
      cases gi1 with
      | true =>
        have ALL : ∀ S2' : Int → Bool, (∀ x, S2 x = true → S2' x = true) → S2' gc1 = true → ∀ i, i < j + 1 → ((l.getD i default).idle = false → S1 (l.getD i default).thread = true) ∧ S2' (l.getD i default).core = true :=
          fun S2' m2 n2 => all_step HAL0.out.2 HAL0.out.1 (fun _ h => h) m2 (fun h => by cases h) n2
        have A1 := Aa
        have B1 := Ba.mono (m' := j + 1) (by omega)
        have D1 := Da
        have X1 := ea
        have xo1 := xno
        have mo1 := mor
        have co1 := cor
        have c1 : (wr.alloc (.cells #[.int .i64 gc1, .int .i64 gt1, .slice GA gn gc, .bool true] 49)).cell? ⟨wr.heap.size, 0, none⟩ = some (.int .i64 gc1) := by simp
        have xl1 : wr.heap.size < (wr.alloc (.cells #[.int .i64 gc1, .int .i64 gt1, .slice GA gn gc, .bool true] 49)).heap.size := by simp
        -- the cores
        have lk2 := D1.look gc1 hI1
        by_cases p2 : S2 gc1 = true
        · rw [p2] at lk2
          go_wp2_with fail
          go_roundw
          case rel => exact ⟨j + 1, ownr, S1, S2, by omega, rfl, rfl, rfl, by go_num, A1.mono (m' := 1040 + 3 * (j + 1)) (by omega), B1, D1.mono (by omega), mo1, co1, X1, ALL S2 (fun _ h => h) p2⟩
          case measure => simp [intOf]; omega
        · have p2' : S2 gc1 = false := by simpa using p2
          rw [p2'] at lk2
          have tb := sumTo_bnd (fun _ => inI (addS S2 gc1)) 1 (fun _ => inI_bnd (addS S2 gc1)) l n
          have tb2 := sumTo_bnd (fun _ => inB (addS S2 gc1)) 1 (fun _ => inB_bnd (addS S2 gc1)) l n
          have ta := inI_add S2 gc1 p2' l n
          have ta2 := inB_add S2 gc1 p2' l n
          rw [ta] at tb
          rw [ta2] at tb2
          have hall := ALL (addS S2 gc1) (addS_mono S2 gc1) (addS_same S2 gc1)
          obtain ⟨s2, hs2⟩ : ∃ s, s = sumTo (fun _ => inI S2) l n := ⟨_, rfl⟩
          obtain ⟨s3, hs3⟩ : ∃ s, s = sumTo (fun _ => inB S2) l n := ⟨_, rfl⟩
          rw [← hs2] at tb ta ⊢
          rw [← hs3] at tb2 ta2 ⊢
          have w3 : IntKind.i64.wrap (s2 + F 3 gc1) = s2 + F 3 gc1 := IntWalk.i64_in _ (by rw [V3.out gc1]; omega)
          have w2 : IntKind.i64.wrap (s3 + F 2 gc1) = s3 + F 2 gc1 := IntWalk.i64_in _ (by rw [V2.out gc1]; omega)
          have TA := Lib.hid (And.intro ta ta2)
          have HAL := Lib.hid hall
          clear tb tb2 ta ta2 hs2 hs3 p2 p2' hall
          go_wp2_with (first
            | (at_mapUpdate; refine wpList_mapUpdate_set rfl _ _ _ rfl rfl rfl rfl D1 hI1 (by omega) ?_; intro w6 D6 g6; have c6 : w6.cell? ⟨wr.heap.size, 0, none⟩ = some (.int .i64 gc1) := (World.cell?_of_block (a := ⟨wr.heap.size, 0, none⟩) (g6.block wr.heap.size xl1 (by simp [xmc]))).trans c1))
          have A6 := (A1.grown g6 (Ne.symm cnb) co1).mono (m' := 1040 + 3 * j + 1) (by omega)
          have B6 : BSet w6 mt (j + 1) S1 := B1.kept (g6.block mt B1.lt (by simp [mtc]))
          have X6 : Ext W w6 := X1.step ⟨g6.os, g6.tape, g6.output, g6.size, fun i hi => g6.block i (Nat.lt_of_lt_of_le hi X1.sz) (by simp; have := cge; omega)⟩ (Nat.le_refl _)
          have xl6 : wr.heap.size < w6.heap.size := Nat.lt_of_lt_of_le xl1 g6.size
          refine (idles_any ownr W.heap.size b (1040 + 3 * j + 1) (by omega) F n gc1 hI1 w6 A6).mono ?_
          rintro e w7 ⟨rfl, own7, A7, C7, p7⟩
          have X7 : Ext W w7 := X6.step (C7.below A6.sits) (Nat.le_refl _)
          have B7 := B6.kept (C7.keeps B6.lt mnb mo1)
          have D7 := BSet.kept D6 (C7.keeps (BSet.lt D6) cnb co1)
          have c7 := (World.cell?_of_block (a := ⟨wr.heap.size, 0, none⟩) (C7.keeps xl6 xnb xo1)).trans c6
          have xl7 := Nat.lt_of_lt_of_le xl6 C7.size
          have mo7 := (p7 mt B6.lt).trans mo1
          have co7 := (p7 mc (BSet.lt D6)).trans co1
          go_wp2_with fail
          refine (busy_any own7 W.heap.size b (1040 + 3 * j + 1 + 1) (by omega) F n gc1 hI1 w7 A7).mono ?_
          rintro e w8 ⟨rfl, own8, A8, C8, p8⟩
          have X8 : Ext W w8 := X7.step (C8.below A7.sits) (Nat.le_refl _)
          have B8 := B7.kept (C8.keeps B7.lt mnb mo7)
          have D8 := BSet.kept D7 (C8.keeps (BSet.lt D7) cnb co7)
          have mo8 := (p8 mt B7.lt).trans mo7
          have co8 := (p8 mc (BSet.lt D7)).trans co7
          clear A6 B6 X6 A7 B7 D7 c7 X7 A1 B1 D1 X1
          go_wp2_with fail
          go_roundw
          case rel => exact ⟨j + 1, own8, S1, addS S2 gc1, by omega, rfl, by rw [TA.out.1, V3.out gc1], by rw [TA.out.2, V2.out gc1], by go_num, A8.mono (m' := 1040 + 3 * (j + 1)) (by omega), B8, D8, mo8, co8, X8, HAL.out⟩
          case measure => simp [intOf]; omega
      | false =>
        have lk1 := Ba.look gt1 hI2
        by_cases p1 : S1 gt1 = true
        · rw [p1] at lk1
          have ALL : ∀ S2' : Int → Bool, (∀ x, S2 x = true → S2' x = true) → S2' gc1 = true → ∀ i, i < j + 1 → ((l.getD i default).idle = false → S1 (l.getD i default).thread = true) ∧ S2' (l.getD i default).core = true :=
            fun S2' m2 n2 => all_step HAL0.out.2 HAL0.out.1 (fun _ h => h) m2 (fun _ => p1) n2
          have A1 := Aa
          have B1 := Ba.mono (m' := j + 1) (by omega)
          have D1 := Da
          have X1 := ea
          have xo1 := xno
          have mo1 := mor
          have co1 := cor
          have c1 : (wr.alloc (.cells #[.int .i64 gc1, .int .i64 gt1, .slice GA gn gc, .bool false] 49)).cell? ⟨wr.heap.size, 0, none⟩ = some (.int .i64 gc1) := by simp
          have xl1 : wr.heap.size < (wr.alloc (.cells #[.int .i64 gc1, .int .i64 gt1, .slice GA gn gc, .bool false] 49)).heap.size := by simp
          -- the cores
          have lk2 := D1.look gc1 hI1
          by_cases p2 : S2 gc1 = true
          · rw [p2] at lk2
            go_wp2_with fail
            go_roundw
            case rel => exact ⟨j + 1, ownr, S1, S2, by omega, rfl, rfl, rfl, by go_num, A1.mono (m' := 1040 + 3 * (j + 1)) (by omega), B1, D1.mono (by omega), mo1, co1, X1, ALL S2 (fun _ h => h) p2⟩
            case measure => simp [intOf]; omega
          · have p2' : S2 gc1 = false := by simpa using p2
            rw [p2'] at lk2
            have tb := sumTo_bnd (fun _ => inI (addS S2 gc1)) 1 (fun _ => inI_bnd (addS S2 gc1)) l n
            have tb2 := sumTo_bnd (fun _ => inB (addS S2 gc1)) 1 (fun _ => inB_bnd (addS S2 gc1)) l n
            have ta := inI_add S2 gc1 p2' l n
            have ta2 := inB_add S2 gc1 p2' l n
            rw [ta] at tb
            rw [ta2] at tb2
            have hall := ALL (addS S2 gc1) (addS_mono S2 gc1) (addS_same S2 gc1)
            obtain ⟨s2, hs2⟩ : ∃ s, s = sumTo (fun _ => inI S2) l n := ⟨_, rfl⟩
            obtain ⟨s3, hs3⟩ : ∃ s, s = sumTo (fun _ => inB S2) l n := ⟨_, rfl⟩
            rw [← hs2] at tb ta ⊢
            rw [← hs3] at tb2 ta2 ⊢
            have w3 : IntKind.i64.wrap (s2 + F 3 gc1) = s2 + F 3 gc1 := IntWalk.i64_in _ (by rw [V3.out gc1]; omega)
            have w2 : IntKind.i64.wrap (s3 + F 2 gc1) = s3 + F 2 gc1 := IntWalk.i64_in _ (by rw [V2.out gc1]; omega)
            have TA := Lib.hid (And.intro ta ta2)
            have HAL := Lib.hid hall
            clear tb tb2 ta ta2 hs2 hs3 p2 p2' hall
            go_wp2_with (first
              | (at_mapUpdate; refine wpList_mapUpdate_set rfl _ _ _ rfl rfl rfl rfl D1 hI1 (by omega) ?_; intro w6 D6 g6; have c6 : w6.cell? ⟨wr.heap.size, 0, none⟩ = some (.int .i64 gc1) := (World.cell?_of_block (a := ⟨wr.heap.size, 0, none⟩) (g6.block wr.heap.size xl1 (by simp [xmc]))).trans c1))
            have A6 := (A1.grown g6 (Ne.symm cnb) co1).mono (m' := 1040 + 3 * j + 1) (by omega)
            have B6 : BSet w6 mt (j + 1) S1 := B1.kept (g6.block mt B1.lt (by simp [mtc]))
            have X6 : Ext W w6 := X1.step ⟨g6.os, g6.tape, g6.output, g6.size, fun i hi => g6.block i (Nat.lt_of_lt_of_le hi X1.sz) (by simp; have := cge; omega)⟩ (Nat.le_refl _)
            have xl6 : wr.heap.size < w6.heap.size := Nat.lt_of_lt_of_le xl1 g6.size
            refine (idles_any ownr W.heap.size b (1040 + 3 * j + 1) (by omega) F n gc1 hI1 w6 A6).mono ?_
            rintro e w7 ⟨rfl, own7, A7, C7, p7⟩
            have X7 : Ext W w7 := X6.step (C7.below A6.sits) (Nat.le_refl _)
            have B7 := B6.kept (C7.keeps B6.lt mnb mo1)
            have D7 := BSet.kept D6 (C7.keeps (BSet.lt D6) cnb co1)
            have c7 := (World.cell?_of_block (a := ⟨wr.heap.size, 0, none⟩) (C7.keeps xl6 xnb xo1)).trans c6
            have xl7 := Nat.lt_of_lt_of_le xl6 C7.size
            have mo7 := (p7 mt B6.lt).trans mo1
            have co7 := (p7 mc (BSet.lt D6)).trans co1
            go_wp2_with fail
            refine (busy_any own7 W.heap.size b (1040 + 3 * j + 1 + 1) (by omega) F n gc1 hI1 w7 A7).mono ?_
            rintro e w8 ⟨rfl, own8, A8, C8, p8⟩
            have X8 : Ext W w8 := X7.step (C8.below A7.sits) (Nat.le_refl _)
            have B8 := B7.kept (C8.keeps B7.lt mnb mo7)
            have D8 := BSet.kept D7 (C8.keeps (BSet.lt D7) cnb co7)
            have mo8 := (p8 mt B7.lt).trans mo7
            have co8 := (p8 mc (BSet.lt D7)).trans co7
            clear A6 B6 X6 A7 B7 D7 c7 X7 A1 B1 D1 X1
            go_wp2_with fail
            go_roundw
            case rel => exact ⟨j + 1, own8, S1, addS S2 gc1, by omega, rfl, by rw [TA.out.1, V3.out gc1], by rw [TA.out.2, V2.out gc1], by go_num, A8.mono (m' := 1040 + 3 * (j + 1)) (by omega), B8, D8, mo8, co8, X8, HAL.out⟩
            case measure => simp [intOf]; omega
        · have p1' : S1 gt1 = false := by simpa using p1
          rw [p1'] at lk1
          have ALL : ∀ S2' : Int → Bool, (∀ x, S2 x = true → S2' x = true) → S2' gc1 = true → ∀ i, i < j + 1 → ((l.getD i default).idle = false → addS S1 gt1 (l.getD i default).thread = true) ∧ S2' (l.getD i default).core = true :=
            fun S2' m2 n2 => all_step HAL0.out.2 HAL0.out.1 (addS_mono S1 gt1) m2 (fun _ => addS_same S1 gt1) n2
          have tb := sumTo_bnd (fun _ => inT (addS S1 gt1)) 1 (fun _ => inT_bnd (addS S1 gt1)) l n
          have ta := inT_add S1 gt1 p1' l n
          rw [ta] at tb
          obtain ⟨s1, hs1⟩ : ∃ s, s = sumTo (fun _ => inT S1) l n := ⟨_, rfl⟩
          rw [← hs1] at tb ta ⊢
          have w1 : IntKind.i64.wrap (s1 + F 0 gt1) = s1 + F 0 gt1 := IntWalk.i64_in _ (by rw [V0.out gt1]; omega)
          have TA1 := Lib.hid ta
          clear tb ta hs1 p1 p1'
          go_wp2_with (first
            | (at_mapUpdate; refine wpList_mapUpdate_set rfl _ _ _ rfl rfl rfl rfl Ba hI2 (by omega) ?_; intro w6 B6 g6; have c6 : w6.cell? ⟨wr.heap.size, 1, none⟩ = some (.int .i64 gt1) := (World.cell?_of_block (a := ⟨wr.heap.size, 1, none⟩) (g6.block wr.heap.size (by simp) (by simp [xmt]))).trans (by simp)))
          have A6 := Aa.grown g6 (Ne.symm mnb) mor
          have D6 : BSet w6 mc j S2 := Da.kept (g6.block mc Da.lt (by simp [Ne.symm mtc]))
          have X6 : Ext W w6 := ea.step ⟨g6.os, g6.tape, g6.output, g6.size, fun i hi => g6.block i (Nat.lt_of_lt_of_le hi ea.sz) (by simp; have := mge; omega)⟩ (Nat.le_refl _)
          have xl6 : wr.heap.size < w6.heap.size := Nat.lt_of_lt_of_le (by simp) g6.size
          have c0 : w6.cell? ⟨wr.heap.size, 0, none⟩ = some (.int .i64 gc1) := (World.cell?_of_block (a := ⟨wr.heap.size, 0, none⟩) (g6.block wr.heap.size (by simp) (by simp [xmt]))).trans (by simp)
          refine (thread_any ownr W.heap.size b (1040 + 3 * j) (by omega) F n gt1 hI2 w6 A6).mono ?_
          rintro e w7 ⟨rfl, own7, A7, C7, p7⟩
          have A1 := A7
          have X1 : Ext W w7 := X6.step (C7.below A6.sits) (Nat.le_refl _)
          have B1 : BSet w7 mt (j + 1) (addS S1 gt1) := BSet.kept B6 (C7.keeps (BSet.lt B6) mnb mor)
          have D1 := D6.kept (C7.keeps D6.lt cnb cor)
          have c1 := (World.cell?_of_block (a := ⟨wr.heap.size, 0, none⟩) (C7.keeps xl6 xnb xno)).trans c0
          have xl1 := Nat.lt_of_lt_of_le xl6 C7.size
          have mo1 := (p7 mt (BSet.lt B6)).trans mor
          have co1 := (p7 mc D6.lt).trans cor
          have xo1 := (p7 wr.heap.size xl6).trans xno
          clear A6 B6 X6 D6 c0 Aa Ba Da ea
          -- the cores
          have lk2 := D1.look gc1 hI1
          by_cases p2 : S2 gc1 = true
          · rw [p2] at lk2
            go_wp2_with fail
            go_roundw
            case rel => exact ⟨j + 1, own7, (addS S1 gt1), S2, by omega, by rw [TA1.out, V0.out gt1], rfl, rfl, by go_num, A1.mono (m' := 1040 + 3 * (j + 1)) (by omega), B1, D1.mono (by omega), mo1, co1, X1, ALL S2 (fun _ h => h) p2⟩
            case measure => simp [intOf]; omega
          · have p2' : S2 gc1 = false := by simpa using p2
            rw [p2'] at lk2
            have tb := sumTo_bnd (fun _ => inI (addS S2 gc1)) 1 (fun _ => inI_bnd (addS S2 gc1)) l n
            have tb2 := sumTo_bnd (fun _ => inB (addS S2 gc1)) 1 (fun _ => inB_bnd (addS S2 gc1)) l n
            have ta := inI_add S2 gc1 p2' l n
            have ta2 := inB_add S2 gc1 p2' l n
            rw [ta] at tb
            rw [ta2] at tb2
            have hall := ALL (addS S2 gc1) (addS_mono S2 gc1) (addS_same S2 gc1)
            obtain ⟨s2, hs2⟩ : ∃ s, s = sumTo (fun _ => inI S2) l n := ⟨_, rfl⟩
            obtain ⟨s3, hs3⟩ : ∃ s, s = sumTo (fun _ => inB S2) l n := ⟨_, rfl⟩
            rw [← hs2] at tb ta ⊢
            rw [← hs3] at tb2 ta2 ⊢
            have w3 : IntKind.i64.wrap (s2 + F 3 gc1) = s2 + F 3 gc1 := IntWalk.i64_in _ (by rw [V3.out gc1]; omega)
            have w2 : IntKind.i64.wrap (s3 + F 2 gc1) = s3 + F 2 gc1 := IntWalk.i64_in _ (by rw [V2.out gc1]; omega)
            have TA := Lib.hid (And.intro ta ta2)
            have HAL := Lib.hid hall
            clear tb tb2 ta ta2 hs2 hs3 p2 p2' hall
            go_wp2_with (first
              | (at_mapUpdate; refine wpList_mapUpdate_set rfl _ _ _ rfl rfl rfl rfl D1 hI1 (by omega) ?_; intro w6 D6 g6; have c6 : w6.cell? ⟨wr.heap.size, 0, none⟩ = some (.int .i64 gc1) := (World.cell?_of_block (a := ⟨wr.heap.size, 0, none⟩) (g6.block wr.heap.size xl1 (by simp [xmc]))).trans c1))
            have A6 := (A1.grown g6 (Ne.symm cnb) co1).mono (m' := 1040 + 3 * j + 1) (by omega)
            have B6 : BSet w6 mt (j + 1) (addS S1 gt1) := B1.kept (g6.block mt B1.lt (by simp [mtc]))
            have X6 : Ext W w6 := X1.step ⟨g6.os, g6.tape, g6.output, g6.size, fun i hi => g6.block i (Nat.lt_of_lt_of_le hi X1.sz) (by simp; have := cge; omega)⟩ (Nat.le_refl _)
            have xl6 : wr.heap.size < w6.heap.size := Nat.lt_of_lt_of_le xl1 g6.size
            refine (idles_any own7 W.heap.size b (1040 + 3 * j + 1) (by omega) F n gc1 hI1 w6 A6).mono ?_
            rintro e w7 ⟨rfl, own7, A7, C7, p7⟩
            have X7 : Ext W w7 := X6.step (C7.below A6.sits) (Nat.le_refl _)
            have B7 := B6.kept (C7.keeps B6.lt mnb mo1)
            have D7 := BSet.kept D6 (C7.keeps (BSet.lt D6) cnb co1)
            have c7 := (World.cell?_of_block (a := ⟨wr.heap.size, 0, none⟩) (C7.keeps xl6 xnb xo1)).trans c6
            have xl7 := Nat.lt_of_lt_of_le xl6 C7.size
            have mo7 := (p7 mt B6.lt).trans mo1
            have co7 := (p7 mc (BSet.lt D6)).trans co1
            go_wp2_with fail
            refine (busy_any own7 W.heap.size b (1040 + 3 * j + 1 + 1) (by omega) F n gc1 hI1 w7 A7).mono ?_
            rintro e w8 ⟨rfl, own8, A8, C8, p8⟩
            have X8 : Ext W w8 := X7.step (C8.below A7.sits) (Nat.le_refl _)
            have B8 := B7.kept (C8.keeps B7.lt mnb mo7)
            have D8 := BSet.kept D7 (C8.keeps (BSet.lt D7) cnb co7)
            have mo8 := (p8 mt B7.lt).trans mo7
            have co8 := (p8 mc (BSet.lt D7)).trans co7
            clear A6 B6 X6 A7 B7 D7 c7 X7 A1 B1 D1 X1
            go_wp2_with fail
            go_roundw
            case rel => exact ⟨j + 1, own8, (addS S1 gt1), addS S2 gc1, by omega, by rw [TA1.out, V0.out gt1], by rw [TA.out.1, V3.out gc1], by rw [TA.out.2, V2.out gc1], by go_num, A8.mono (m' := 1040 + 3 * (j + 1)) (by omega), B8, D8, mo8, co8, X8, HAL.out⟩
            case measure => simp [intOf]; omega
    · obtain rfl : j = n := by omega
      have z := in_all S1 S2 l j hall
      have tb := sumTo_bnd (fun _ => inT S1) 1 (fun _ => inT_bnd S1) l j
      have tb2 := sumTo_bnd (fun _ => inI S2) 1 (fun _ => inI_bnd S2) l j
      obtain ⟨s1, hs1⟩ : ∃ s, s = sumTo (fun _ => inT S1) l j := ⟨_, rfl⟩
      obtain ⟨s2, hs2⟩ : ∃ s, s = sumTo (fun _ => inI S2) l j := ⟨_, rfl⟩
      rw [← z.1]
      rw [← hs1, ← hs2] at z
      rw [← hs1] at tb ⊢
      rw [← hs2] at tb2 ⊢
      have hz := z.2
      have w1 : IntKind.i64.wrap (s1 + s2) = s1 + s2 := IntWalk.i64_in _ (by omega)
      clear z tb tb2 hs1 hs2
      go_wp2_with fail
      refine (total_any ownr W.heap.size b _ F _ wr Ar).mono ?_
      rintro e z1 ⟨rfl, hz1⟩
      have hz2 := hz1.symm; clear hz1; subst hz2
      have hz' : (s1 + s2 == (j : Int)) = true := by simp [hz]
      go_wp2_with fail
      go_ret
      exact ⟨by simp [hz], er⟩
end Go.Proofs.Ytohgckdkkeiggaa
