/- A part of the proof of a law of roundel: contracts of functions and lemmas, each true as it stands; no condition beyond those that its theorems state. -/
import Derived.Test.YtohgckdkkeiggaaOwn
namespace Go.Proofs.Ytohgckdkkeiggaa
set_option linter.unusedSimpArgs false
set_option linter.unusedVariables false
open Go.RowKit Go.Maps

theorem OwnI.lit (w : World) (x : Int) : OwnI (w.alloc (.cells #[.int .i64 x] 3)) w.heap.size (.slice (some ⟨w.heap.size, 0, none⟩) 1 1) [x] := by
  exact World.ownsRow_lit w #[.int .i64 x] 1 (Nat.le_refl _) (by unfold maxLen; omega) rfl
theorem OwnI.ext {w w' : World} {base : Nat} {v : Value} {l : List Int} (h : OwnI w base v l) (he : Ext w w') : OwnI w' base v l :=
  World.ownsRow.kept h (row := none) ⟨he.os, he.tape, he.output, he.size, fun k hk _ => he.block k hk⟩ (by cases v.ownBlock <;> simp)

theorem idsTo_I64 {W : World} {B : Nat} {A : Option Addr} {n : Nat} {l : List Tk} (h : TL W B A n l) {id : Int} (hid : I64 id) : ∀ j, j ≤ n → ∀ g ∈ idsTo id l j, I64 g
  | 0, _, g, hg => by
    simp only [idsTo, List.mem_singleton] at hg
    rw [hg]; exact hid
  | j + 1, hj, g, hg => by
    simp only [idsTo, List.mem_append] at hg
    rcases hg with hg | hg
    · exact idsTo_I64 h hid j (by omega) g hg
    · have hl : j < l.length := by have := h.1; omega
      have hm := h.2.1 (l.getD j default) (by simp [List.getD, hl])
      obtain ⟨x, o, _, _, hc⟩ := h.2.2 (by omega)
      obtain ⟨GA, gn, gc, _, _, _, _, hs, _⟩ := hc j (by omega)
      simp only [idsOf, List.mem_append, List.mem_cons, List.not_mem_nil, or_false] at hg
      rcases hg with (rfl | rfl) | hg
      · exact hm.1
      · exact hm.2
      · exact hs.2.1 g hg

set_option maxRecDepth 100000 in
set_option maxHeartbeats 1600000 in
theorem counts_ok (A : Option Addr) (n c : Nat) (l : List Tk) (id : Int) (hid : I64 id) (hnc : n ≤ c) (hc63 : c ≤ 9223372036854775807) (hn : n ≤ 80) (hfew : ∀ t ∈ l, t.gs.length ≤ 10) (W : World) (hl : TL W W.heap.size A n l) :
    Calls Try.prog 3 #[.slice A n c, .int .i64 id] W fun e W' => e = .returned (.bool true) ∧ Ext W W' := by
  have HD := Lib.hid (decide_eq_true (show (∀ t ∈ l, t.gs.length ≤ 10) ∧ n ≤ 80 from ⟨hfew, hn⟩))
  have HL := Lib.hid hl
  have HW := Lib.hid hfew
  clear hl hfew
  go_enter Try.func3, Try.ntmps3
  go_wp2_with (first
    | (go_at_call 7; refine (awake_any _).mono ?_; rintro e w1 ⟨rfl, he1⟩; obtain ⟨he1c, he1f⟩ := Ext.cells he1; have he1z := Ext.sz he1; (try simp only [World.size_alloc, World.size_drew, World.heap_drewN, World.size_setCell] at he1z))
    | (go_at_call 8; refine (few_any W.heap.size A n c l hnc hc63 w1 he1.sz (HL.out.kept he1.below)).mono ?_; rintro e w2 ⟨he, he2⟩; rw [HD.out] at he; subst he))
  have e2 : Ext W w2 := he1.trans he2
  have T0 := Tal.fresh w2 (fun _ => none) W.heap.size e2.sz (fun x t h => by cases h) (fun x t h => by cases h)
  have hL2 := HL.out.kept (e2.alloc (.cells zeros 44)).below
  refine (do_all (fun _ => none) W.heap.size w2.heap.size 0 (by omega) (fun _ _ => 0) 0 A n c l hnc hc63 hn HW.out _ (e2.alloc _).sz T0 hL2).mono ?_
  rintro e w3 ⟨rfl, own3, H3, hC3, ho3⟩
  have e3 : Ext W w3 := (e2.alloc _).step (hC3.below T0.sits) (Nat.le_refl _)
  clear T0 hL2 hC3 ho3
  obtain ⟨b, hb⟩ : ∃ b, b = w2.heap.size := ⟨_, rfl⟩
  rw [← hb] at H3 ⊢
  clear hb he1c he1f
  go_wp2_with fail
  have hO0 := (OwnI.lit w3 id)
  go_loopw [6, 25] (fun v i wr => ∃ j : Nat, j ≤ n ∧ i = .int .i64 (j : Int) ∧ OwnI wr w3.heap.size v (idsTo id l j) ∧ (idsTo id l j).length ≤ 1 + 12 * j ∧ Ext w3 wr) (fun _ i _ => n - (intOf i).toNat)
  case atStart => exact ⟨0, by omega, rfl, hO0, by simp [idsTo], (Ext.refl _).alloc _⟩
  case round =>
    obtain ⟨j, hj, rfl, hO, hlen, hew⟩ := hrel
    by_cases hjn : j < n
    · obtain ⟨h1, h2, h3⟩ := HL.out.kept (e3.trans hew).below
      obtain ⟨x, o, rfl, hx, hcell⟩ := h3 (by omega)
      obtain ⟨GA, gn, gc, k0, k1, k2, k3, hsl, hGc⟩ := hcell j hjn
      have hst : idsTo id l (j + 1) = idsTo id l j ++ idsOf (l.getD j default) := rfl
      have hgl := HW.out (l.getD j default) (by simp [List.getD, show j < l.length by omega])
      obtain ⟨⟨gc1, gt1, gs1, gi1⟩, hgx⟩ : ∃ g, g = l.getD j default := ⟨_, rfl⟩
      rw [← hgx] at k0 k1 k3 hsl hgl hst
      dsimp only at k0 k1 k3 hsl hgl
      have q3 : (j : Int) < (n : Int) := by omega
      have HS := Lib.hid hst
      have HG := Lib.hid hsl
      have hgn : gn ≤ 10 := by have := hsl.1; omega
      clear hgx hst h1 h2 h3 hcell hsl hgl
      have hOa : OwnI ((wr.alloc (.cells #[.int .i64 gc1, .int .i64 gt1, .slice GA gn gc, .bool gi1] 49)).alloc (.cells #[.int .i64 gc1, .int .i64 gt1] 3)) w3.heap.size _ (idsTo id l j) := hO.ext (((Ext.refl wr).alloc _).alloc _)
      have hsz := hew.sz
      go_wp2_with (first
        | (at_builtin; refine wpList_append_ints rfl (.tmp 29) (.tmp 34) rfl w3.heap.size _ (idsTo id l j) rfl hOa (some ⟨wr.heap.size + 1, 0, none⟩) 2 2 [gc1, gt1] rfl (by simp) rfl ?_ (by omega) (by simp; omega) ?_; (exact fun _ => ⟨wr.heap.size + 1, 0, rfl, fun i hi => (by
            have z := World.cell?_alloc_new (wr.alloc (.cells #[.int .i64 gc1, .int .i64 gt1, .slice GA gn gc, .bool gi1] 49)) #[.int .i64 gc1, .int .i64 gt1] 3 i
            rw [show (wr.alloc (.cells #[.int .i64 gc1, .int .i64 gt1, .slice GA gn gc, .bool gi1] 49)).heap.size = wr.heap.size + 1 by simp] at z
            rw [Nat.zero_add, z]
            obtain rfl | rfl : i = 0 ∨ i = 1 := by omega
            · rfl
            · rfl)⟩); intro v4 w4 o4 g4; have c4 : w4.cell? ⟨wr.heap.size, 2, none⟩ = some (.slice GA gn gc) := (World.cell?_of_block (a := ⟨wr.heap.size, 2, none⟩) (g4.block wr.heap.size (by simp; omega) (fun e => by have := (World.ownsRow.lt hO _ e.symm).2; omega))).trans (by rw [World.cell?_alloc_past _ _ _ (by simp)]; simp); have e4 : Ext w3 w4 := ((hew.alloc _).alloc _).grown g4 (fun k hk => (World.ownsRow.lt hO k hk).1); have hs4 : SlB w4 W.heap.size GA gn gs1 := HG.out.kept ((((Below.refl _ wr).alloc (by have := e3.sz; omega) _).alloc (by have := e3.sz; simp; omega) _).grown g4 (by have := e3.sz; simp; omega) (fun k hk => by have := (World.ownsRow.lt hO k hk).1; have := e3.sz; omega)))
        | (at_builtin; refine wpList_append_ints rfl (.tmp 36) (.tmp 38) rfl w3.heap.size v4 _ rfl o4 GA gn gc gs1 rfl hGc hs4.1 (fun h => (by obtain ⟨y, oy, q1, _, q2⟩ := hs4.2.2 h; exact ⟨y, oy, q1, q2⟩)) (by simp; omega) e4.sz ?_; intro v5 w5 o5 g5))
      have hg1 := hs4.1
      have e5 : Ext w3 w5 := e4.grown g5 (fun k hk => (World.ownsRow.lt o4 k hk).1)
      go_roundw
      case rel =>
        refine ⟨j + 1, by omega, by go_num, ?_, ?_, e5⟩
        · rw [HS.out]
          rw [List.append_assoc] at o5
          exact o5
        · rw [HS.out, List.length_append]
          simp only [idsOf, List.length_append, List.length_cons, List.length_nil]
          omega
      case measure => simp [intOf]; omega
    · obtain rfl : j = n := by omega
      have H3w := H3.ext hew
      have hI : ∀ g ∈ idsTo id l j, I64 g := idsTo_I64 HL.out hid j (by omega)
      have HLl := HL.out.1
      have e6 : Ext W wr := e3.trans hew
      clear hO0
      obtain ⟨Ai, ci, rfl, hi1, hi2, hsI⟩ := own_sl hO hI H3.sits.lt H3.sits.old
      generalize wr = wp at *
      obtain ⟨L, hLn⟩ : ∃ L, L = idsTo id l j := ⟨_, rfl⟩
      rw [← hLn] at hI hsI hi1 hlen ⊢
      clear hLn hO
      go_wp2_with fail
      go_loopw [43] (fun i wr' => ∃ (q : Nat) (own' : Own), q ≤ L.length ∧ i = .int .i64 (q : Int) ∧ Tal wr' own' W.heap.size b (0 + 13 * j + 4 * q) (doF (fun _ _ => 0) l) (0 + j) ∧ TChg own3 b wp wr' ∧ ∀ x, x < wp.heap.size → own' x = own3 x) (fun i _ => L.length - (intOf i).toNat)
      case atStart => exact ⟨0, own3, by omega, rfl, H3w, TChg.refl _ _ _, fun _ _ => rfl⟩
      case round =>
        obtain ⟨q, ownq, hq, rfl, Hq, hCq, hoq⟩ := hrel
        have eq : Ext W wr := e6.step (hCq.below H3w.sits) (Nat.le_refl _)
        by_cases hqn : q < L.length
        · obtain ⟨s1, s2, s3⟩ := hsI.kept hCq hoq
          obtain ⟨y, oy, rfl, hy, hyb, hyt, hycell⟩ := s3 (by omega)
          have hcq := hycell q hqn
          have hg := hI (L.getD q 0) (by simp [List.getD, hqn])
          obtain ⟨g, hgx⟩ : ∃ g, g = L.getD q 0 := ⟨_, rfl⟩
          rw [← hgx] at hcq hg
          have q3 : (q : Int) < (L.length : Int) := by omega
          have q4 : (L.length : Int) ≤ (ci : Int) := by omega
          obtain ⟨F, hF⟩ : ∃ F, F = doF (fun _ _ => 0) l := ⟨_, rfl⟩
          rw [← hF] at Hq
          have v0 : F 0 g = sumTo (is0 g 0) l j := by rw [hF, do0, HLl]; simp
          have v1 : F 1 g = sumTo (fun _ => is1 g) l j := by rw [hF, do1, HLl]; simp
          have v2 : F 2 g = sumTo (fun _ => is2 g) l j := by rw [hF, do2, HLl]; simp
          have v3 : F 3 g = sumTo (fun _ => is3 g) l j := by rw [hF, do3, HLl]; simp
          clear s1 s2 s3 hycell hgx
          go_wp2_with fail
          refine (thread_any ownq W.heap.size b (0 + 13 * j + 4 * q) (by omega) F (0 + j) g hg wr Hq).mono ?_
          rintro e x1 ⟨he, o1, H1, C1, p1⟩
          rw [v0] at he
          subst he
          have X1 : Ext W x1 := eq.step (C1.below Hq.sits) (Nat.le_refl _)
          go_wp2_with fail
          refine (count0 W.heap.size A j c l hnc hc63 hn g 0 _ (HL.out.kept X1.below)).mono ?_
          rintro e y1 ⟨rfl, hy1⟩
          have hy2 := hy1.symm; clear hy1; subst hy2
          go_wp2_with fail
          refine (group_any o1 W.heap.size b (0 + 13 * j + 4 * q + 1) (by omega) F (0 + j) g hg x1 H1).mono ?_
          rintro e x2 ⟨he, o2, H2, C2, p2⟩
          rw [v1] at he
          subst he
          have X2 : Ext W x2 := X1.step (C2.below H1.sits) (Nat.le_refl _)
          go_wp2_with fail
          refine (count1 W.heap.size A j c l hnc hc63 hn HW.out g 0 _ (HL.out.kept X2.below)).mono ?_
          rintro e y1 ⟨rfl, hy1⟩
          have hy2 := hy1.symm; clear hy1; subst hy2
          go_wp2_with fail
          refine (busy_any o2 W.heap.size b (0 + 13 * j + 4 * q + 1 + 1) (by omega) F (0 + j) g hg x2 H2).mono ?_
          rintro e x3 ⟨he, o3, H3, C3, p3⟩
          rw [v2] at he
          subst he
          have X3 : Ext W x3 := X2.step (C3.below H2.sits) (Nat.le_refl _)
          go_wp2_with fail
          refine (count2 W.heap.size A j c l hnc hc63 hn g 0 _ (HL.out.kept X3.below)).mono ?_
          rintro e y1 ⟨rfl, hy1⟩
          have hy2 := hy1.symm; clear hy1; subst hy2
          go_wp2_with fail
          refine (idles_any o3 W.heap.size b (0 + 13 * j + 4 * q + 1 + 1 + 1) (by omega) F (0 + j) g hg x3 H3).mono ?_
          rintro e x4 ⟨he, o4, H4, C4, p4⟩
          rw [v3] at he
          subst he
          have X4 : Ext W x4 := X3.step (C4.below H3.sits) (Nat.le_refl _)
          go_wp2_with fail
          refine (count3 W.heap.size A j c l hnc hc63 hn g 0 _ (HL.out.kept X4.below)).mono ?_
          rintro e y1 ⟨rfl, hy1⟩
          have hy2 := hy1.symm; clear hy1; subst hy2
          go_wp2_with fail
          have K1 := hCq.trans C1 hoq
          have q1 : ∀ x, x < wp.heap.size → o1 x = own3 x := fun x hx => (p1 x (Nat.lt_of_lt_of_le hx hCq.size)).trans (hoq x hx)
          have K2 := K1.trans C2 q1
          have q2 : ∀ x, x < wp.heap.size → o2 x = own3 x := fun x hx => (p2 x (Nat.lt_of_lt_of_le hx K1.size)).trans (q1 x hx)
          have K3 := K2.trans C3 q2
          have q5 : ∀ x, x < wp.heap.size → o3 x = own3 x := fun x hx => (p3 x (Nat.lt_of_lt_of_le hx K2.size)).trans (q2 x hx)
          have K4 := K3.trans C4 q5
          have q6 : ∀ x, x < wp.heap.size → o4 x = own3 x := fun x hx => (p4 x (Nat.lt_of_lt_of_le hx K3.size)).trans (q5 x hx)
          have H5 := H4.mono (m' := 0 + 13 * j + 4 * (q + 1)) (by omega)
          rw [hF] at H5
          go_roundw
          case rel => exact ⟨q + 1, o4, by omega, by go_num, H5, K4, q6⟩
          case measure => simp [intOf]; omega
        · obtain rfl : q = L.length := by omega
          go_wp2_with fail
          refine (total_any ownq W.heap.size b _ _ _ wr Hq).mono ?_
          rintro e y1 ⟨rfl, rfl⟩
          go_wp2_with fail
          go_ret
          exact ⟨by simp, eq⟩
end Go.Proofs.Ytohgckdkkeiggaa
