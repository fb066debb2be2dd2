/- A part of the proof of a law of roundel: contracts of functions and lemmas, each true as it stands; no condition beyond those that its theorems state. -/
import Derived.Test.YtnlcbilmalfjaaaIs0
import Derived.Laws.EntriesVeiled
namespace Go.Proofs.Ytnlcbilmalfjaaa
set_option linter.unusedSimpArgs false
set_option linter.unusedVariables false
open Go.RowKit

def zOf (W : World) (v : Value) : Int := match v with
  | .pointer (some a) => (match W.cell? a with
    | some (.int _ z) => z
    | _ => 0)
  | _ => 0

set_option maxRecDepth 100000 in
set_option maxHeartbeats 3200000 in
theorem is_any {B nb tg rb lb mb N M : Nat} {rows : List (List Nat)} {T : Nat → Int} (P : Nat → Prop) (v : Value) (tag by_ : Int) (hby : 0 < by_) (hby2 : by_ ≤ 1000) (hM1 : 0 < M) (hN1 : 0 < N) (hN2 : N ≤ 64) (W : World) (HL : Ls W B nb tg rb lb mb N M rows T) (H : RefL W P v N T rows) :
    Calls Try.prog 23 #[.pointer (some ⟨nb, 0, none⟩), v, .int .i64 tag, .int .i64 by_] W fun e W' => e = .returned (.bool true) ∧ Ext W W' := by
  have H0 := Lib.hid H
  obtain ⟨hM, hM64, hR64⟩ := HL.rr.small
  obtain ⟨A, m, c, rfl, h1, h2, h3, h4, h5⟩ := H
  have hmM : M = m := by omega
  subst hmM
  obtain ⟨x, rfl, hx, hc⟩ := h5 (by omega)
  have HC := Lib.hid hc
  clear h5 hc
  obtain ⟨W1, hW1⟩ : ∃ W1, W1 = ((W.alloc (.cells #[.pointer (some ⟨nb, 0, none⟩)] 24)).alloc (.cells #[.int .i64 (N : Int), .slice (some ⟨x, 0, none⟩) M c] 44)).alloc (.cells #[.int .i64 by_] 3) := ⟨_, rfl⟩
  have E0 : Ext W W1 := by rw [hW1]; exact (((Ext.refl W).alloc _).alloc _).alloc _
  have s1 : W1.heap.size = W.heap.size + 1 + 1 + 1 := by rw [hW1]; simp
  have t0 : W1.cell? ⟨W.heap.size, 0, none⟩ = some (.pointer (some ⟨nb, 0, none⟩)) := by rw [hW1, World.cell?_alloc_past _ _ _ (by simp; omega)]; exact (two1 ..).trans rfl
  have t1 : W1.cell? ⟨W.heap.size + 1, 0, none⟩ = some (.int .i64 (N : Int)) := by rw [hW1, World.cell?_alloc_past _ _ _ (by simp)]; exact (two2 ..).trans rfl
  have t2 : W1.cell? ⟨W.heap.size + 1, 1, none⟩ = some (.slice (some ⟨x, 0, none⟩) M c) := by rw [hW1, World.cell?_alloc_past _ _ _ (by simp)]; exact (two2 ..).trans rfl
  have t3 : W1.cell? ⟨W.heap.size + 1 + 1, 0, none⟩ = some (.int .i64 by_) := by rw [hW1]; exact (al3 ..).trans rfl
  have HT := Lib.hid (show ∀ W' : World, Ext W1 W' → W'.cell? ⟨W.heap.size, 0, none⟩ = some (.pointer (some ⟨nb, 0, none⟩)) ∧ W'.cell? ⟨W.heap.size + 1, 0, none⟩ = some (.int .i64 (N : Int)) ∧ W'.cell? ⟨W.heap.size + 1, 1, none⟩ = some (.slice (some ⟨x, 0, none⟩) M c) ∧ W'.cell? ⟨W.heap.size + 1 + 1, 0, none⟩ = some (.int .i64 by_) from fun W' he => ⟨(he.cell (p := ⟨W.heap.size, 0, none⟩) (show W.heap.size < _ by omega)).trans t0, (he.cell (p := ⟨W.heap.size + 1, 0, none⟩) (show W.heap.size + 1 < _ by omega)).trans t1, (he.cell (p := ⟨W.heap.size + 1, 1, none⟩) (show W.heap.size + 1 < _ by omega)).trans t2, (he.cell (p := ⟨W.heap.size + 1 + 1, 0, none⟩) (show W.heap.size + 1 + 1 < _ by omega)).trans t3⟩)
  have L1 := HL.kept E0
  have F1 := H0.out.ext E0
  have HW1 := Lib.hid hW1
  have hmf : ∀ (fn : Fn) (first cap : Array Value) (w : World), (Instr.makeFunc fn first cap).run Try.prog w = .ok (.func fn first cap) w := fun _ _ _ _ => rfl
  clear hW1 t0 t1 t2 t3 HL
  go_enter Try.func23, Try.ntmps23
  go_wp2_with fail
  rw [← HW1.out]
  go_loopw [10] (fun pz wr => ∃ (cb : Nat) (z : Int), pz = .pointer (some ⟨cb, 0, none⟩) ∧ -1 ≤ z ∧ z ≤ (M : Int) + 1 ∧ W1.heap.size ≤ cb ∧ wr.cell? ⟨cb, 0, none⟩ = some (.int .i64 z) ∧ wr.frozen? ⟨cb, 0, none⟩ = false ∧ Ext W1 wr) (fun pz wr => ((M : Int) + 1 - zOf wr pz).toNat)
  case atStart => exact ⟨_, -1, rfl, by omega, by omega, by omega, (by rw [← s1]; exact World.cell?_alloc_new _ _ _ 0), (by rw [← s1]; exact World.frozen?_alloc_new _ _ _ 0), (Ext.refl _).alloc _⟩
  case round =>
    obtain ⟨cb, z, rfl, hz1, hz2, hcb, cz, fz, er⟩ := hrel
    obtain ⟨wo, hwo⟩ : ∃ wo, wo = wr := ⟨_, rfl⟩
    subst hwo
    obtain ⟨b0, b1, b2, b3⟩ := HT.out wo er
    by_cases hzM : z ≤ (M : Int)
    · have Lw := L1.kept er
      have Fw := F1.ext er
      by_cases hin : 0 ≤ z ∧ z < (M : Int)
      · obtain ⟨l, rfl⟩ := Int.eq_ofNat_of_zero_le hin.1
        have hl : l < M := by omega
        have hl' : (l : Int) < (M : Int) := by omega
        obtain ⟨GA, gn, gc, k1, k2⟩ := HC.out l hl
        have k1' := ((E0.trans er).cell (p := ⟨x, l, none⟩) (block_lt_of_cell k1)).trans k1
        have xb : x < wo.heap.size := block_lt_of_cell k1'
        have cbl : cb < wo.heap.size := block_lt_of_cell cz
        have brl : W.heap.size + 1 < wo.heap.size := block_lt_of_cell b1
        obtain ⟨row, hrow⟩ : ∃ row, row = rowAt rows l := ⟨_, rfl⟩
        have k2' : RowL wo (fun y => P y ∧ y < wo.heap.size) GA gn gc T row := by rw [hrow]; exact (k2.mono (L' := fun y => P y ∧ y < wo.heap.size) (fun y hy hlt => ⟨hy, Nat.lt_of_lt_of_le hlt (E0.trans er).sz⟩)).ext (E0.trans er)
        have HRW := Lib.hid (show row = rowI rows (l : Int) by rw [hrow, rowI_in])
        clear k1 k2 hrow
        go_wp2_with fail
        obtain ⟨p0, p1, p2, p3, p4⟩ := Lw.lts
        have hzo : zOf wo (.pointer (some ⟨cb, 0, none⟩)) = (l : Int) := by simp only [zOf, cz]
        have hbl : W.heap.size < wo.heap.size := block_lt_of_cell b0
        have hby3 : W.heap.size + 1 + 1 < wo.heap.size := block_lt_of_cell b3
        refine wp_abs (fun Wx => Ls Wx B nb tg rb lb mb N M rows T ∧ RowL Wx (fun y => P y ∧ y < wo.heap.size) GA gn gc T row ∧ (Wx.cell? ⟨wo.heap.size, 0, none⟩ = some (.slice GA gn gc) ∧ Wx.cell? ⟨wo.heap.size + 1, 0, none⟩ = some (.int .i64 0) ∧ Wx.cell? ⟨wo.heap.size + 1 + 1, 0, none⟩ = some (.bool true) ∧ Wx.frozen? ⟨wo.heap.size + 1, 0, none⟩ = false ∧ Wx.frozen? ⟨wo.heap.size + 1 + 1, 0, none⟩ = false) ∧ (Wx.cell? ⟨cb, 0, none⟩ = some (.int .i64 (l : Int)) ∧ Wx.frozen? ⟨cb, 0, none⟩ = false) ∧ wo.heap.size + 1 + 1 < Wx.heap.size ∧ Ext W1 Wx ∧ Ext wo Wx)
          ⟨Lw.kept ((((Ext.refl _).alloc _).alloc _).alloc _), k2'.ext ((((Ext.refl _).alloc _).alloc _).alloc _), ⟨(World.cell?_alloc_past _ _ _ (by simp; omega)).trans ((two1 ..).trans rfl), (World.cell?_alloc_past _ _ _ (by simp)).trans ((two2 ..).trans rfl), (al3 ..).trans rfl, (World.frozen?_alloc_past _ _ _ (by simp)).trans (two2z ..), (by simpa using World.frozen?_alloc_new ((wo.alloc (.cells #[.slice GA gn gc] 69)).alloc (.cells #[.int .i64 0] 3)) #[.bool true] 4 0)⟩, ⟨((((((Ext.refl _).alloc _).alloc _).alloc _).cell (p := ⟨cb, 0, none⟩) cbl).trans cz), (((((((Ext.refl _).alloc _).alloc _).alloc _).cells.2 cb 0 cbl)).trans fz)⟩, by simp, er.trans ((((Ext.refl _).alloc _).alloc _).alloc _), (((Ext.refl _).alloc _).alloc _).alloc _⟩ ?_
        rintro wx ⟨Lx, Rx, ⟨cw, ck, co, fk, fo⟩, ⟨cc, fc⟩, lx, ex, ey⟩
        obtain ⟨a0, -, -, -⟩ := HT.out wx ex
        have HB := Lib.hid (show ∀ W' : World, Ext wx W' → W'.cell? ⟨W.heap.size, 0, none⟩ = some (.pointer (some ⟨nb, 0, none⟩)) ∧ W'.cell? ⟨nb, 0, none⟩ = some (.pointer (some ⟨rb, 0, none⟩)) ∧ W'.cell? ⟨cb, 0, none⟩ = some (.int .i64 (l : Int)) from fun W' he => ⟨(he.cell (p := ⟨W.heap.size, 0, none⟩) (block_lt_of_cell a0)).trans a0, (he.cell (p := ⟨nb, 0, none⟩) Lx.lts.1).trans Lx.c0, (he.cell (p := ⟨cb, 0, none⟩) (block_lt_of_cell cc)).trans cc⟩)
        have HG := Lib.hid (And.intro Lx (And.intro Rx (And.intro (And.intro cw (And.intro ck (And.intro co (And.intro fk fo)))) (And.intro cc fc))))
        clear Lw Fw k2' a0 Lx Rx cw ck co fk fo cc fc cz fz b0 b1 b2 b3
        have HCall := Lib.hid (show ∀ w3 : World, Ext wx w3 → w3.cell? ⟨wx.heap.size, 0, none⟩ = some (.pointer (some ⟨rb, 0, none⟩)) → w3.cell? ⟨wx.heap.size + 1, 0, none⟩ = some (.int .i64 (l : Int)) →
            Calls Try.prog 33 #[.func (.func 43) #[] #[.pointer (some ⟨wo.heap.size + 1 + 1, 0, none⟩), .pointer (some ⟨wo.heap.size + 1, 0, none⟩), .pointer (some ⟨wo.heap.size, 0, none⟩), .pointer (some ⟨W.heap.size, 0, none⟩), .pointer (some ⟨cb, 0, none⟩)], .pointer (some ⟨wx.heap.size, 0, none⟩), .pointer (some ⟨wx.heap.size + 1, 0, none⟩)] w3 fun e V => (∃ v, e = .returned v) ∧
              (Ls V B nb tg rb lb mb N M rows T ∧ RowL V (fun y => P y ∧ y < wo.heap.size) GA gn gc T row ∧ (V.cell? ⟨wo.heap.size, 0, none⟩ = some (.slice GA gn gc) ∧ V.cell? ⟨wo.heap.size + 1, 0, none⟩ = some (.int .i64 (gn : Nat)) ∧ V.cell? ⟨wo.heap.size + 1 + 1, 0, none⟩ = some (.bool true)) ∧ (V.cell? ⟨cb, 0, none⟩ = some (.int .i64 (l : Int)) ∧ V.frozen? ⟨cb, 0, none⟩ = false) ∧ Ext W1 V) ∧
              (V.cell? ⟨W.heap.size, 0, none⟩ = some (.pointer (some ⟨nb, 0, none⟩)) ∧ V.cell? ⟨nb, 0, none⟩ = some (.pointer (some ⟨rb, 0, none⟩)) ∧ V.cell? ⟨cb, 0, none⟩ = some (.int .i64 (l : Int))) from fun w3 he d3 d4 => by
          obtain ⟨Lx, Rx, ⟨cw, ck, co, fk, fo⟩, cc, fc⟩ := HG.out
          have e2 := (HB.out w3 he)
          have n1 := Lx.lts.1
          have hes := he.sz
          have c0 := (he.cell (p := ⟨wo.heap.size, 0, none⟩) (block_lt_of_cell cw)).trans cw
          refine (nodes_is (T := T) (l : Int) (wo.heap.size + 1 + 1) (wo.heap.size + 1) wo.heap.size wx.heap.size (wx.heap.size + 1) W.heap.size cb (fun y => P y ∧ y < wo.heap.size) GA gn gc w3 row HRW.out hM1 hN1 (Lx.kept he) (Rx.ext he) (fun h => by have := h.2; omega) (fun h => by have := h.2; omega)
            ((he.cell (p := ⟨wo.heap.size + 1 + 1, 0, none⟩) (block_lt_of_cell co)).trans co) ((he.cell (p := ⟨wo.heap.size + 1, 0, none⟩) (block_lt_of_cell ck)).trans ck) c0 e2.1 e2.2.2 ((he.cells.2 _ _ (block_lt_of_cell co)).trans fo) ((he.cells.2 _ _ (block_lt_of_cell ck)).trans fk) d3 d4
            (by omega) ⟨by omega, by omega⟩ ⟨by omega, by omega⟩ ⟨by omega, by omega⟩ ⟨by omega, by omega⟩ ⟨by omega, by omega⟩ ⟨by omega, by omega⟩ ⟨by omega, by omega⟩ ⟨by omega, by omega⟩ ⟨by omega, by omega⟩).mono ?_
          rintro e V ⟨hv, o9, k9, C9⟩
          have hb9 : ∀ k, k < wo.heap.size + 1 → V.heap[k]? = w3.heap[k]? := fun k hk => C9.blk k (by omega) (by omega) (by omega)
          have hbx : ∀ k, k < wo.heap.size + 1 → V.heap[k]? = wx.heap[k]? := fun k hk => (hb9 k hk).trans (he.blk (by omega))
          have EV : Ext W1 V := (ex.trans he).step (C9.below (B := W1.heap.size) (ex.trans he).sz (by omega) (by omega)) (Nat.le_refl _)
          have cv : ∀ {b o : Nat} {u : Value}, b < wo.heap.size + 1 → wx.cell? ⟨b, o, none⟩ = some u → V.cell? ⟨b, o, none⟩ = some u := fun {b o u} h hc => (World.cell?_of_block (a := ⟨b, o, none⟩) (hbx b h)).trans hc
          have LV : Ls V B nb tg rb lb mb N M rows T := ⟨Lx.rr.blk (Nat.le_trans he.sz C9.size) (hbx rb (by omega)) (hbx lb (by omega)) (hbx mb (by omega)), cv (by omega) Lx.c0, cv (by omega) Lx.c1, fun i hi => cv (by omega) (Lx.t i hi), fun o => (World.frozen?_of_block (a := ⟨tg, o, none⟩) (hbx tg (by omega))).trans (Lx.ft o), Lx.d1, Lx.d2, Lx.ge, ⟨Nat.lt_of_lt_of_le Lx.lt.1 (Nat.le_trans he.sz C9.size), Nat.lt_of_lt_of_le Lx.lt.2 (Nat.le_trans he.sz C9.size)⟩⟩
          have ccV := cv (show cb < wo.heap.size + 1 by omega) cc
          exact ⟨hv, ⟨LV, Rx.kept (fun k hk _ => hbx k (by omega)), ⟨cv (by omega) cw, k9, o9⟩, ⟨ccV, (World.frozen?_of_block (a := ⟨cb, 0, none⟩) (hbx cb (by omega))).trans fc⟩, EV⟩, cv (by omega) (HB.out wx (Ext.refl _)).1, cv (by omega) Lx.c0, ccV⟩)
        refine (fun (key : RowKit.Hid ?KKA) => ?restA) (Lib.hid ?keyproofA)
        case' restA => go_region_held3 (fun W' => W'.cell? ⟨W.heap.size, 0, none⟩ = some (.pointer (some ⟨nb, 0, none⟩)) ∧ W'.cell? ⟨nb, 0, none⟩ = some (.pointer (some ⟨rb, 0, none⟩)) ∧ W'.cell? ⟨cb, 0, none⟩ = some (.int .i64 (l : Int)))
          (first | exact HE | exact HB.out _ (by (repeat (first | with_reducible exact Ext.refl _ | with_reducible assumption | with_reducible apply Ext.drew | with_reducible apply Ext.drewN | with_reducible apply Ext.alloc | (with_reducible refine Ext.setCell ?_ (by simp <;> omega) _) | (with_reducible refine Ext.trans ?_ (by with_reducible assumption))))))
          (first
            | (go_at_call 10; (with_reducible refine (nodes_fn rb (l : Int) wx.drew).mono ?_); rintro e w3 ⟨rfl, hw3⟩; have e3 : Ext wx w3 := (by rw [hw3]; exact (((Ext.refl wx).drew).alloc _).alloc _); have d3 : w3.cell? ⟨wx.heap.size, 0, none⟩ = some (.pointer (some ⟨rb, 0, none⟩)) := (by rw [hw3]; exact (two1 ..).trans rfl); have d4 : w3.cell? ⟨wx.heap.size + 1, 0, none⟩ = some (.int .i64 (l : Int)) := (by rw [hw3]; exact (two2 ..).trans rfl); clear hw3)
            | (go_at_call 33; (with_reducible refine (HCall.out w3 e3 d3 d4).mono ?_); rintro e V ⟨⟨rv, rfl⟩, FV, HE⟩))
        case' keyproofA => skip
        all_goals
          first
            | (rename_i hH
               clear hH HE
               revert FV
               revert V
               revert rv
               exact key.out)
            | skip
        all_goals
          intro rv V FV
          obtain ⟨LV, RV, ⟨vw, vk, vo⟩, ⟨vc, vf⟩, EV⟩ := FV
          have vwl := block_lt_of_cell vw
          have vkl := block_lt_of_cell vk
          have vol := block_lt_of_cell vo
          have vcl := block_lt_of_cell vc
          have hgn := RV.1
          have hgn64 : gn ≤ 64 := by
            rw [← hgn, HRW.out]
            by_cases hz : 0 ≤ ((l : Int))
            · obtain ⟨k, hk⟩ := Int.eq_ofNat_of_zero_le hz
              rw [hk, rowI_in]
              exact hR64 k
            · rw [rowI_out (by omega)]; simp
          have HV := Lib.hid (And.intro LV (And.intro RV (And.intro (And.intro vw (And.intro vk vo)) (And.intro vc vf))))
          clear HCall HB HG LV RV vk vo vc vf
          go_wp2_with fail
          clear vw
          go_loopw [14, 15, 53] (fun fi ma ix wq => ∃ i : Nat, i ≤ gn ∧ ix = .int .i64 (i : Int) ∧ fi = .int .i64 (firstI (fitRow T tag (divs by_) (row.take i))) ∧ ma = .int .i64 ((fitRow T tag (divs by_) (row.take i)).length : Int) ∧ Ext V wq) (fun _ _ ix _ => gn - (intOf ix).toNat)
          case atStart => exact ⟨0, by omega, rfl, rfl, rfl, Ext.refl _⟩
          case round =>
            obtain ⟨i, hi, rfl, rfl, rfl, eq_⟩ := hrel
            obtain ⟨a0, a1, a2, a3⟩ := HT.out wr (EV.trans eq_)
            by_cases hig : i < gn
            · try exact absurd hig (Nat.not_lt_zero _)
              all_goals
                obtain ⟨yy, hGA, hy, hyc⟩ := HV.out.2.1.2.2.2.2 (by omega)
                obtain ⟨y0, y1⟩ := hyc i hig
                have hrl := HV.out.2.1.1
                obtain ⟨xi, hxi⟩ : ∃ xi, xi = row.getD i 0 := ⟨_, rfl⟩
                rw [← hxi] at y0 y1
                have hxr : xi ∈ row := by rw [hxi]; exact getD_memN (by omega)
                have y0' := (eq_.cell (p := ⟨yy, i * 2, none⟩) (block_lt_of_cell y0)).trans y0
                have y1' := (eq_.cell (p := ⟨yy, i * 2 + 1, none⟩) (block_lt_of_cell y1)).trans y1
                have hxN : xi < 1000 := by
                  have h1 := HV.out.1.rr.nodup.2 xi (by
                    rw [HRW.out] at hxr
                    by_cases hz : 0 ≤ ((l : Int))
                    · obtain ⟨k, hk⟩ := Int.eq_ofNat_of_zero_le hz
                      rw [hk, rowI_in] at hxr
                      by_cases hkk : k < rows.length
                      · exact rowAt_mem hkk hxr
                      · rw [rowAt_out (by omega)] at hxr; simp at hxr
                    · rw [rowI_out (by omega)] at hxr; simp at hxr)
                  omega
                have htk : row.take (i + 1) = row.take i ++ [xi] := by rw [List.take_succ_eq_append_getElem (by omega), hxi]; simp [List.getD, show i < row.length by omega]
                obtain ⟨F, hF⟩ : ∃ F, F = fitRow T tag (divs by_) (row.take i) := ⟨_, rfl⟩
                have hFl : F.length ≤ 64 := by rw [hF]; refine Nat.le_trans (List.length_filter_le _ _) ?_; rw [List.length_take]; omega
                have hst : fitRow T tag (divs by_) (row.take (i + 1)) = if (T xi == tag && divs by_ xi) = true then F ++ [xi] else F := by
                  rw [htk, hF]
                  unfold fitRow
                  rw [List.filter_append, List.filter_cons, List.filter_nil]
                  by_cases h : (T xi == tag && divs by_ xi) = true
                  · rw [if_pos h, if_pos h]
                  · rw [if_neg h, if_neg h, List.append_nil]
                rw [← hF]
                have HS := Lib.hid hst
                have q3 : (i : Int) < (gn : Nat) := by omega
                have hbn : ¬ by_ = 0 := by omega
                have hd1 : (T xi == tag) = decide (T xi = tag) := by by_cases h : T xi = tag <;> simp [h]
                clear hst htk hF hxr hxi hyc y0 y1 hrl
                subst hGA
                by_cases hT : T xi = tag
                · have hT1 : (T xi == tag) = true := by simp [hT]
                  have hT2 : T xi = tag := hT
                  by_cases hp : divs by_ xi = true
                  · have HE := Lib.hid (HS.out.trans (if_pos (by rw [hT1, hp]; rfl)))
                    cases F with
                    | nil =>
                      go_wp2_with fail
                      refine (is1_any by_ hbn hby xi (W.heap.size + 1 + 1) _ hxN ((((Ext.refl _).alloc _).cell (p := ⟨W.heap.size + 1 + 1, 0, none⟩) (block_lt_of_cell a3)).trans a3)).mono ?_
                      rintro e w9 ⟨rfl, rfl⟩
                      rw [hp]
                      go_wp2_with fail
                      go_roundw
                      case rel => exact ⟨i + 1, by omega, by go_num, by rw [HE.out]; rfl, by rw [HE.out]; rfl, eq_.alloc _⟩
                      case measure => simp [intOf]; omega
                    | cons yF FF =>
                      obtain ⟨ln, hln⟩ : ∃ ln, ln = (yF :: FF).length := ⟨_, rfl⟩
                      rw [← hln] at hFl ⊢
                      have HLn := Lib.hid hln
                      clear hln
                      have hy0 : ¬ (yF : Int) < 0 := by omega
                      have hfi : firstI (yF :: FF) = (yF : Int) := rfl
                      rw [hfi]
                      go_wp2_with fail
                      refine (is1_any by_ hbn hby xi (W.heap.size + 1 + 1) _ hxN ((((Ext.refl _).alloc _).cell (p := ⟨W.heap.size + 1 + 1, 0, none⟩) (block_lt_of_cell a3)).trans a3)).mono ?_
                      rintro e w9 ⟨rfl, rfl⟩
                      rw [hp]
                      go_wp2_with fail
                      go_roundw
                      case rel => exact ⟨i + 1, by omega, by go_num, by rw [HE.out]; rfl, by rw [HE.out, List.length_append, ← HLn.out]; first | rfl | go_num, eq_.alloc _⟩
                      case measure => simp [intOf]; omega
                  · have hp' : divs by_ xi = false := by simpa using hp
                    have HE := Lib.hid (HS.out.trans (if_neg (by rw [hp']; simp)))
                    go_wp2_with fail
                    refine (is1_any by_ hbn hby xi (W.heap.size + 1 + 1) _ hxN ((((Ext.refl _).alloc _).cell (p := ⟨W.heap.size + 1 + 1, 0, none⟩) (block_lt_of_cell a3)).trans a3)).mono ?_
                    rintro e w9 ⟨rfl, rfl⟩
                    rw [hp']
                    go_wp2_with fail
                    go_roundw
                    case rel => exact ⟨i + 1, by omega, by go_num, by rw [HE.out], by rw [HE.out], eq_.alloc _⟩
                    case measure => simp [intOf]; omega
                · have hT1 : (T xi == tag) = false := by simp [hT]
                  have HE := Lib.hid (HS.out.trans (if_neg (by rw [hT1]; simp)))
                  go_wp2_with fail
                  go_roundw
                  case rel => exact ⟨i + 1, by omega, by go_num, by rw [HE.out], by rw [HE.out], eq_.alloc _⟩
                  case measure => simp [intOf]; omega
            · have hie : i = gn := by omega
              have htk : row.take i = row := List.take_of_length_le (by have := HV.out.2.1.1; omega)
              rw [htk, hie]
              clear htk hig hi
              obtain ⟨fi, hfi⟩ : ∃ fi, fi = firstI (fitRow T tag (divs by_) row) := ⟨_, rfl⟩
              obtain ⟨cn, hcn⟩ : ∃ cn, cn = (fitRow T tag (divs by_) row).length := ⟨_, rfl⟩
              rw [← hfi, ← hcn]
              have qA : ∀ u : ExtW wr, u.w.cell? ⟨wo.heap.size, 0, none⟩ = some (.slice GA gn gc) := fun u => ((eq_.trans u.ext).cell (p := ⟨wo.heap.size, 0, none⟩) vwl).trans HV.out.2.2.1.1
              have qB : ∀ u : ExtW wr, u.w.cell? ⟨wo.heap.size + 1, 0, none⟩ = some (.int .i64 (gn : Nat)) := fun u => ((eq_.trans u.ext).cell (p := ⟨wo.heap.size + 1, 0, none⟩) vkl).trans HV.out.2.2.1.2.1
              have qC : ∀ u : ExtW wr, u.w.cell? ⟨wo.heap.size + 1 + 1, 0, none⟩ = some (.bool true) := fun u => ((eq_.trans u.ext).cell (p := ⟨wo.heap.size + 1 + 1, 0, none⟩) vol).trans HV.out.2.2.1.2.2
              have qD : ∀ u : ExtW wr, u.w.cell? ⟨cb, 0, none⟩ = some (.int .i64 (l : Int)) := fun u => ((eq_.trans u.ext).cell (p := ⟨cb, 0, none⟩) vcl).trans HV.out.2.2.2.1
              have qE : ∀ u : ExtW wr, u.w.cell? ⟨W.heap.size, 0, none⟩ = some (.pointer (some ⟨nb, 0, none⟩)) := fun u => (HT.out u.w (EV.trans (eq_.trans u.ext))).1
              have q3 : ∀ u : ExtW wr, u.w.cell? ⟨W.heap.size + 1 + 1, 0, none⟩ = some (.int .i64 by_) := fun u => (HT.out u.w (EV.trans (eq_.trans u.ext))).2.2.2
              have LR : Ls wr B nb tg rb lb mb N M rows T := HV.out.1.kept eq_
              have qF : ∀ u : ExtW wr, u.w.cell? ⟨nb, 0, none⟩ = some (.pointer (some ⟨rb, 0, none⟩)) := fun u => (LR.kept u.ext).c0
              have hby3' : W.heap.size + 1 + 1 < wr.heap.size := block_lt_of_cell a3
              have fok : ∀ u : ExtW wr, FitOk N 42 #[.pointer (some ⟨W.heap.size + 1 + 1, 0, none⟩)] (divs by_) u.w.heap.size u.w := fun u => fit_divs (enters_of Try.func42 (by kernel_rfl) rfl) hN2 (fun x W' hx hc => is1_any by_ (by omega) hby x (W.heap.size + 1 + 1) W' hx hc) (q3 u) (by have := u.ext.sz; omega)
              have lsay : ∀ u : ExtW wr, CallsIn Fence.wide 4 Try.prog 18 #[.pointer (some ⟨rb, 0, none⟩), .int .i64 (l : Int)] u.w fun e w'' => e = .returned (.int .i64 (gn : Nat)) ∧ ∃ u' : ExtW wr, w'' = u'.w := fun u =>
                (callsIn_wide.2 (Len_any (l : Int) u.w (LR.kept u.ext).rr)).mono (fun e w'' h => ⟨by rw [h.1, ← HRW.out, hgn], u, h.2⟩)
              have fsay : ∀ u : ExtW wr, CallsIn Fence.wide 4 Try.prog 15 #[.pointer (some ⟨nb, 0, none⟩), .int .i64 (l : Int), .int .i64 tag, .func (.func 42) #[] #[.pointer (some ⟨W.heap.size + 1 + 1, 0, none⟩)]] u.w fun e w'' => e = .returned (.int .i64 fi) ∧ ∃ u' : ExtW wr, w'' = u'.w := fun u =>
                (callsIn_wide.2 (LFirst_any (l : Int) tag _ _ (divs by_) u.w _ (by rw [← HRW.out]) (by omega) (by omega) (LR.kept u.ext) (fok u))).mono (fun e w'' h => ⟨by rw [hfi]; exact h.1, ⟨w'', u.ext.trans h.2⟩, rfl⟩)
              have csay : ∀ u : ExtW wr, CallsIn Fence.wide 4 Try.prog 16 #[.pointer (some ⟨nb, 0, none⟩), .int .i64 (l : Int), .int .i64 tag, .func (.func 42) #[] #[.pointer (some ⟨W.heap.size + 1 + 1, 0, none⟩)]] u.w fun e w'' => e = .returned (.int .i64 (cn : Int)) ∧ ∃ u' : ExtW wr, w'' = u'.w := fun u =>
                (callsIn_wide.2 (LCount_any (l : Int) tag _ _ (divs by_) u.w _ (by rw [← HRW.out]) (by omega) (by omega) (LR.kept u.ext) (fok u))).mono (fun e w'' h => ⟨by rw [hcn]; exact h.1, ⟨w'', u.ext.trans h.2⟩, rfl⟩)
              have hfa : ∀ k, Fence.wide.fn k := fun _ => trivial
              have ER := EV.trans eq_
              have hW1s := EV.sz
              have hcbs : wr.heap.size ≥ W1.heap.size := ER.sz
              clear HV LR fok hby3' a0 a1 a2 a3 HRW hgn hfi hcn EV eq_
              go_wp2_with fail
              refine region_quiet_ext (n := 5) (by kernel_rfl) (by kernel_rfl) ?_
              repeat (gi_big_quiet_step (first | exact lsay _ | exact fsay _ | exact csay _))
              refine wpQuietIn_nil ?_
              rintro w' ⟨u, rfl⟩
              simp only [Exit.then]
              have y1 := qD u
              have EY := ER.trans u.ext
              have y2 := EY.sz
              have y3 : cb < u.w.heap.size := block_lt_of_cell y1
              obtain ⟨Y, hY⟩ : ∃ Y, Y = u.w := ⟨_, rfl⟩
              rw [← hY] at y1 y2 y3 EY ⊢
              clear hY qA qB qC qD qE qF q3 lsay fsay csay
              go_wp2_with fail
              go_roundw
              case rel => exact ⟨_, (l : Int) + 1, rfl, by omega, by omega, by omega, World.cell?_alloc_new _ _ _ 0, World.frozen?_alloc_new _ _ _ 0, EY.alloc _⟩
              case measure =>
                have hzn : zOf (Y.alloc (.cells #[.int .i64 ((l : Int) + 1)] 3)) (.pointer (some ⟨Y.heap.size, 0, none⟩)) = (l : Int) + 1 := by
                  simp only [zOf]
                  rw [World.cell?_alloc_new _ _ _ 0]
                  rfl
                rw [hzn, hzo]
                omega
      · have cbl : cb < wo.heap.size := block_lt_of_cell cz
        have brl : W.heap.size + 1 < wo.heap.size := block_lt_of_cell b1
        obtain ⟨row, hrow⟩ : ∃ row : List Nat, row = [] := ⟨_, rfl⟩
        have k2' : RowL wo (fun y => P y ∧ y < wo.heap.size) none 0 0 T row := by rw [hrow]; exact ⟨rfl, by omega, by omega, by omega, fun h => absurd h (by omega)⟩
        have HRW := Lib.hid (show row = rowI rows z by
          rw [hrow]
          by_cases hz0 : 0 ≤ z
          · obtain ⟨k, rfl⟩ := Int.eq_ofNat_of_zero_le hz0
            rw [rowI_in, rowAt_out (by omega)]
          · rw [rowI_out (by omega)])
        clear hrow
        by_cases hz0 : 0 ≤ z
        · have hz3 : ¬ z < (M : Int) := by omega
          go_wp2_with fail
          obtain ⟨p0, p1, p2, p3, p4⟩ := Lw.lts
          have hzo : zOf wo (.pointer (some ⟨cb, 0, none⟩)) = z := by simp only [zOf, cz]
          have hbl : W.heap.size < wo.heap.size := block_lt_of_cell b0
          have hby3 : W.heap.size + 1 + 1 < wo.heap.size := block_lt_of_cell b3
          refine wp_abs (fun Wx => Ls Wx B nb tg rb lb mb N M rows T ∧ RowL Wx (fun y => P y ∧ y < wo.heap.size) none 0 0 T row ∧ (Wx.cell? ⟨wo.heap.size, 0, none⟩ = some (.slice none 0 0) ∧ Wx.cell? ⟨wo.heap.size + 1, 0, none⟩ = some (.int .i64 0) ∧ Wx.cell? ⟨wo.heap.size + 1 + 1, 0, none⟩ = some (.bool true) ∧ Wx.frozen? ⟨wo.heap.size + 1, 0, none⟩ = false ∧ Wx.frozen? ⟨wo.heap.size + 1 + 1, 0, none⟩ = false) ∧ (Wx.cell? ⟨cb, 0, none⟩ = some (.int .i64 z) ∧ Wx.frozen? ⟨cb, 0, none⟩ = false) ∧ wo.heap.size + 1 + 1 < Wx.heap.size ∧ Ext W1 Wx ∧ Ext wo Wx)
            ⟨Lw.kept ((((Ext.refl _).alloc _).alloc _).alloc _), k2'.ext ((((Ext.refl _).alloc _).alloc _).alloc _), ⟨(World.cell?_alloc_past _ _ _ (by simp; omega)).trans ((two1 ..).trans rfl), (World.cell?_alloc_past _ _ _ (by simp)).trans ((two2 ..).trans rfl), (al3 ..).trans rfl, (World.frozen?_alloc_past _ _ _ (by simp)).trans (two2z ..), (by simpa using World.frozen?_alloc_new ((wo.alloc (.cells #[.slice none 0 0] 69)).alloc (.cells #[.int .i64 0] 3)) #[.bool true] 4 0)⟩, ⟨((((((Ext.refl _).alloc _).alloc _).alloc _).cell (p := ⟨cb, 0, none⟩) cbl).trans cz), (((((((Ext.refl _).alloc _).alloc _).alloc _).cells.2 cb 0 cbl)).trans fz)⟩, by simp, er.trans ((((Ext.refl _).alloc _).alloc _).alloc _), (((Ext.refl _).alloc _).alloc _).alloc _⟩ ?_
          rintro wx ⟨Lx, Rx, ⟨cw, ck, co, fk, fo⟩, ⟨cc, fc⟩, lx, ex, ey⟩
          obtain ⟨a0, -, -, -⟩ := HT.out wx ex
          have HB := Lib.hid (show ∀ W' : World, Ext wx W' → W'.cell? ⟨W.heap.size, 0, none⟩ = some (.pointer (some ⟨nb, 0, none⟩)) ∧ W'.cell? ⟨nb, 0, none⟩ = some (.pointer (some ⟨rb, 0, none⟩)) ∧ W'.cell? ⟨cb, 0, none⟩ = some (.int .i64 z) from fun W' he => ⟨(he.cell (p := ⟨W.heap.size, 0, none⟩) (block_lt_of_cell a0)).trans a0, (he.cell (p := ⟨nb, 0, none⟩) Lx.lts.1).trans Lx.c0, (he.cell (p := ⟨cb, 0, none⟩) (block_lt_of_cell cc)).trans cc⟩)
          have HG := Lib.hid (And.intro Lx (And.intro Rx (And.intro (And.intro cw (And.intro ck (And.intro co (And.intro fk fo)))) (And.intro cc fc))))
          clear Lw Fw k2' a0 Lx Rx cw ck co fk fo cc fc cz fz b0 b1 b2 b3
          have HCall := Lib.hid (show ∀ w3 : World, Ext wx w3 → w3.cell? ⟨wx.heap.size, 0, none⟩ = some (.pointer (some ⟨rb, 0, none⟩)) → w3.cell? ⟨wx.heap.size + 1, 0, none⟩ = some (.int .i64 z) →
              Calls Try.prog 33 #[.func (.func 43) #[] #[.pointer (some ⟨wo.heap.size + 1 + 1, 0, none⟩), .pointer (some ⟨wo.heap.size + 1, 0, none⟩), .pointer (some ⟨wo.heap.size, 0, none⟩), .pointer (some ⟨W.heap.size, 0, none⟩), .pointer (some ⟨cb, 0, none⟩)], .pointer (some ⟨wx.heap.size, 0, none⟩), .pointer (some ⟨wx.heap.size + 1, 0, none⟩)] w3 fun e V => (∃ v, e = .returned v) ∧
                (Ls V B nb tg rb lb mb N M rows T ∧ RowL V (fun y => P y ∧ y < wo.heap.size) none 0 0 T row ∧ (V.cell? ⟨wo.heap.size, 0, none⟩ = some (.slice none 0 0) ∧ V.cell? ⟨wo.heap.size + 1, 0, none⟩ = some (.int .i64 (0 : Nat)) ∧ V.cell? ⟨wo.heap.size + 1 + 1, 0, none⟩ = some (.bool true)) ∧ (V.cell? ⟨cb, 0, none⟩ = some (.int .i64 z) ∧ V.frozen? ⟨cb, 0, none⟩ = false) ∧ Ext W1 V) ∧
                (V.cell? ⟨W.heap.size, 0, none⟩ = some (.pointer (some ⟨nb, 0, none⟩)) ∧ V.cell? ⟨nb, 0, none⟩ = some (.pointer (some ⟨rb, 0, none⟩)) ∧ V.cell? ⟨cb, 0, none⟩ = some (.int .i64 z)) from fun w3 he d3 d4 => by
            obtain ⟨Lx, Rx, ⟨cw, ck, co, fk, fo⟩, cc, fc⟩ := HG.out
            have e2 := (HB.out w3 he)
            have n1 := Lx.lts.1
            have hes := he.sz
            have c0 := (he.cell (p := ⟨wo.heap.size, 0, none⟩) (block_lt_of_cell cw)).trans cw
            refine (nodes_is (T := T) z (wo.heap.size + 1 + 1) (wo.heap.size + 1) wo.heap.size wx.heap.size (wx.heap.size + 1) W.heap.size cb (fun y => P y ∧ y < wo.heap.size) none 0 0 w3 row HRW.out hM1 hN1 (Lx.kept he) (Rx.ext he) (fun h => by have := h.2; omega) (fun h => by have := h.2; omega)
              ((he.cell (p := ⟨wo.heap.size + 1 + 1, 0, none⟩) (block_lt_of_cell co)).trans co) ((he.cell (p := ⟨wo.heap.size + 1, 0, none⟩) (block_lt_of_cell ck)).trans ck) c0 e2.1 e2.2.2 ((he.cells.2 _ _ (block_lt_of_cell co)).trans fo) ((he.cells.2 _ _ (block_lt_of_cell ck)).trans fk) d3 d4
              (by omega) ⟨by omega, by omega⟩ ⟨by omega, by omega⟩ ⟨by omega, by omega⟩ ⟨by omega, by omega⟩ ⟨by omega, by omega⟩ ⟨by omega, by omega⟩ ⟨by omega, by omega⟩ ⟨by omega, by omega⟩ ⟨by omega, by omega⟩).mono ?_
            rintro e V ⟨hv, o9, k9, C9⟩
            have hb9 : ∀ k, k < wo.heap.size + 1 → V.heap[k]? = w3.heap[k]? := fun k hk => C9.blk k (by omega) (by omega) (by omega)
            have hbx : ∀ k, k < wo.heap.size + 1 → V.heap[k]? = wx.heap[k]? := fun k hk => (hb9 k hk).trans (he.blk (by omega))
            have EV : Ext W1 V := (ex.trans he).step (C9.below (B := W1.heap.size) (ex.trans he).sz (by omega) (by omega)) (Nat.le_refl _)
            have cv : ∀ {b o : Nat} {u : Value}, b < wo.heap.size + 1 → wx.cell? ⟨b, o, none⟩ = some u → V.cell? ⟨b, o, none⟩ = some u := fun {b o u} h hc => (World.cell?_of_block (a := ⟨b, o, none⟩) (hbx b h)).trans hc
            have LV : Ls V B nb tg rb lb mb N M rows T := ⟨Lx.rr.blk (Nat.le_trans he.sz C9.size) (hbx rb (by omega)) (hbx lb (by omega)) (hbx mb (by omega)), cv (by omega) Lx.c0, cv (by omega) Lx.c1, fun i hi => cv (by omega) (Lx.t i hi), fun o => (World.frozen?_of_block (a := ⟨tg, o, none⟩) (hbx tg (by omega))).trans (Lx.ft o), Lx.d1, Lx.d2, Lx.ge, ⟨Nat.lt_of_lt_of_le Lx.lt.1 (Nat.le_trans he.sz C9.size), Nat.lt_of_lt_of_le Lx.lt.2 (Nat.le_trans he.sz C9.size)⟩⟩
            have ccV := cv (show cb < wo.heap.size + 1 by omega) cc
            exact ⟨hv, ⟨LV, Rx.kept (fun k hk _ => hbx k (by omega)), ⟨cv (by omega) cw, k9, o9⟩, ⟨ccV, (World.frozen?_of_block (a := ⟨cb, 0, none⟩) (hbx cb (by omega))).trans fc⟩, EV⟩, cv (by omega) (HB.out wx (Ext.refl _)).1, cv (by omega) Lx.c0, ccV⟩)
          refine (fun (key : RowKit.Hid ?KKB) => ?restB) (Lib.hid ?keyproofB)
          case' restB => go_region_held3 (fun W' => W'.cell? ⟨W.heap.size, 0, none⟩ = some (.pointer (some ⟨nb, 0, none⟩)) ∧ W'.cell? ⟨nb, 0, none⟩ = some (.pointer (some ⟨rb, 0, none⟩)) ∧ W'.cell? ⟨cb, 0, none⟩ = some (.int .i64 z))
            (first | exact HE | exact HB.out _ (by (repeat (first | with_reducible exact Ext.refl _ | with_reducible assumption | with_reducible apply Ext.drew | with_reducible apply Ext.drewN | with_reducible apply Ext.alloc | (with_reducible refine Ext.setCell ?_ (by simp <;> omega) _) | (with_reducible refine Ext.trans ?_ (by with_reducible assumption))))))
            (first
              | (go_at_call 10; (with_reducible refine (nodes_fn rb z wx.drew).mono ?_); rintro e w3 ⟨rfl, hw3⟩; have e3 : Ext wx w3 := (by rw [hw3]; exact (((Ext.refl wx).drew).alloc _).alloc _); have d3 : w3.cell? ⟨wx.heap.size, 0, none⟩ = some (.pointer (some ⟨rb, 0, none⟩)) := (by rw [hw3]; exact (two1 ..).trans rfl); have d4 : w3.cell? ⟨wx.heap.size + 1, 0, none⟩ = some (.int .i64 z) := (by rw [hw3]; exact (two2 ..).trans rfl); clear hw3)
              | (go_at_call 33; (with_reducible refine (HCall.out w3 e3 d3 d4).mono ?_); rintro e V ⟨⟨rv, rfl⟩, FV, HE⟩))
          case' keyproofB => skip
          all_goals
            first
              | (rename_i hH
                 clear hH HE
                 revert FV
                 revert V
                 revert rv
                 exact key.out)
              | skip
          all_goals
            intro rv V FV
            obtain ⟨LV, RV, ⟨vw, vk, vo⟩, ⟨vc, vf⟩, EV⟩ := FV
            have vwl := block_lt_of_cell vw
            have vkl := block_lt_of_cell vk
            have vol := block_lt_of_cell vo
            have vcl := block_lt_of_cell vc
            have hgn := RV.1
            have hgn64 : 0 ≤ 64 := by
              rw [← hgn, HRW.out]
              by_cases hz : 0 ≤ (z)
              · obtain ⟨k, hk⟩ := Int.eq_ofNat_of_zero_le hz
                rw [hk, rowI_in]
                exact hR64 k
              · rw [rowI_out (by omega)]; simp
            have HV := Lib.hid (And.intro LV (And.intro RV (And.intro (And.intro vw (And.intro vk vo)) (And.intro vc vf))))
            clear HCall HB HG LV RV vk vo vc vf
            go_wp2_with fail
            clear vw
            go_loopw [14, 15, 53] (fun fi ma ix wq => ∃ i : Nat, i ≤ 0 ∧ ix = .int .i64 (i : Int) ∧ fi = .int .i64 (firstI (fitRow T tag (divs by_) (row.take i))) ∧ ma = .int .i64 ((fitRow T tag (divs by_) (row.take i)).length : Int) ∧ Ext V wq) (fun _ _ ix _ => 0 - (intOf ix).toNat)
            case atStart => exact ⟨0, by omega, rfl, rfl, rfl, Ext.refl _⟩
            case round =>
              obtain ⟨i, hi, rfl, rfl, rfl, eq_⟩ := hrel
              obtain ⟨a0, a1, a2, a3⟩ := HT.out wr (EV.trans eq_)
              by_cases hig : i < 0
              · try exact absurd hig (Nat.not_lt_zero _)
                all_goals
                  obtain ⟨yy, hGA, hy, hyc⟩ := HV.out.2.1.2.2.2.2 (by omega)
                  obtain ⟨y0, y1⟩ := hyc i hig
                  have hrl := HV.out.2.1.1
                  obtain ⟨xi, hxi⟩ : ∃ xi, xi = row.getD i 0 := ⟨_, rfl⟩
                  rw [← hxi] at y0 y1
                  have hxr : xi ∈ row := by rw [hxi]; exact getD_memN (by omega)
                  have y0' := (eq_.cell (p := ⟨yy, i * 2, none⟩) (block_lt_of_cell y0)).trans y0
                  have y1' := (eq_.cell (p := ⟨yy, i * 2 + 1, none⟩) (block_lt_of_cell y1)).trans y1
                  have hxN : xi < 1000 := by
                    have h1 := HV.out.1.rr.nodup.2 xi (by
                      rw [HRW.out] at hxr
                      by_cases hz : 0 ≤ (z)
                      · obtain ⟨k, hk⟩ := Int.eq_ofNat_of_zero_le hz
                        rw [hk, rowI_in] at hxr
                        by_cases hkk : k < rows.length
                        · exact rowAt_mem hkk hxr
                        · rw [rowAt_out (by omega)] at hxr; simp at hxr
                      · rw [rowI_out (by omega)] at hxr; simp at hxr)
                    omega
                  have htk : row.take (i + 1) = row.take i ++ [xi] := by rw [List.take_succ_eq_append_getElem (by omega), hxi]; simp [List.getD, show i < row.length by omega]
                  obtain ⟨F, hF⟩ : ∃ F, F = fitRow T tag (divs by_) (row.take i) := ⟨_, rfl⟩
                  have hFl : F.length ≤ 64 := by rw [hF]; refine Nat.le_trans (List.length_filter_le _ _) ?_; rw [List.length_take]; omega
                  have hst : fitRow T tag (divs by_) (row.take (i + 1)) = if (T xi == tag && divs by_ xi) = true then F ++ [xi] else F := by
                    rw [htk, hF]
                    unfold fitRow
                    rw [List.filter_append, List.filter_cons, List.filter_nil]
                    by_cases h : (T xi == tag && divs by_ xi) = true
                    · rw [if_pos h, if_pos h]
                    · rw [if_neg h, if_neg h, List.append_nil]
                  rw [← hF]
                  have HS := Lib.hid hst
                  have q3 : (i : Int) < (0 : Nat) := by omega
                  have hbn : ¬ by_ = 0 := by omega
                  have hd1 : (T xi == tag) = decide (T xi = tag) := by by_cases h : T xi = tag <;> simp [h]
                  clear hst htk hF hxr hxi hyc y0 y1 hrl
                  subst hGA
                  by_cases hT : T xi = tag
                  · have hT1 : (T xi == tag) = true := by simp [hT]
                    have hT2 : T xi = tag := hT
                    by_cases hp : divs by_ xi = true
                    · have HE := Lib.hid (HS.out.trans (if_pos (by rw [hT1, hp]; rfl)))
                      cases F with
                      | nil =>
                        go_wp2_with fail
                        refine (is1_any by_ hbn hby xi (W.heap.size + 1 + 1) _ hxN ((((Ext.refl _).alloc _).cell (p := ⟨W.heap.size + 1 + 1, 0, none⟩) (block_lt_of_cell a3)).trans a3)).mono ?_
                        rintro e w9 ⟨rfl, rfl⟩
                        rw [hp]
                        go_wp2_with fail
                        go_roundw
                        case rel => exact ⟨i + 1, by omega, by go_num, by rw [HE.out]; rfl, by rw [HE.out]; rfl, eq_.alloc _⟩
                        case measure => simp [intOf]; omega
                      | cons yF FF =>
                        obtain ⟨ln, hln⟩ : ∃ ln, ln = (yF :: FF).length := ⟨_, rfl⟩
                        rw [← hln] at hFl ⊢
                        have HLn := Lib.hid hln
                        clear hln
                        have hy0 : ¬ (yF : Int) < 0 := by omega
                        have hfi : firstI (yF :: FF) = (yF : Int) := rfl
                        rw [hfi]
                        go_wp2_with fail
                        refine (is1_any by_ hbn hby xi (W.heap.size + 1 + 1) _ hxN ((((Ext.refl _).alloc _).cell (p := ⟨W.heap.size + 1 + 1, 0, none⟩) (block_lt_of_cell a3)).trans a3)).mono ?_
                        rintro e w9 ⟨rfl, rfl⟩
                        rw [hp]
                        go_wp2_with fail
                        go_roundw
                        case rel => exact ⟨i + 1, by omega, by go_num, by rw [HE.out]; rfl, by rw [HE.out, List.length_append, ← HLn.out]; first | rfl | go_num, eq_.alloc _⟩
                        case measure => simp [intOf]; omega
                    · have hp' : divs by_ xi = false := by simpa using hp
                      have HE := Lib.hid (HS.out.trans (if_neg (by rw [hp']; simp)))
                      go_wp2_with fail
                      refine (is1_any by_ hbn hby xi (W.heap.size + 1 + 1) _ hxN ((((Ext.refl _).alloc _).cell (p := ⟨W.heap.size + 1 + 1, 0, none⟩) (block_lt_of_cell a3)).trans a3)).mono ?_
                      rintro e w9 ⟨rfl, rfl⟩
                      rw [hp']
                      go_wp2_with fail
                      go_roundw
                      case rel => exact ⟨i + 1, by omega, by go_num, by rw [HE.out], by rw [HE.out], eq_.alloc _⟩
                      case measure => simp [intOf]; omega
                  · have hT1 : (T xi == tag) = false := by simp [hT]
                    have HE := Lib.hid (HS.out.trans (if_neg (by rw [hT1]; simp)))
                    go_wp2_with fail
                    go_roundw
                    case rel => exact ⟨i + 1, by omega, by go_num, by rw [HE.out], by rw [HE.out], eq_.alloc _⟩
                    case measure => simp [intOf]; omega
              · have hie : i = 0 := by omega
                have htk : row.take i = row := List.take_of_length_le (by have := HV.out.2.1.1; omega)
                rw [htk, hie]
                clear htk hig hi
                obtain ⟨fi, hfi⟩ : ∃ fi, fi = firstI (fitRow T tag (divs by_) row) := ⟨_, rfl⟩
                obtain ⟨cn, hcn⟩ : ∃ cn, cn = (fitRow T tag (divs by_) row).length := ⟨_, rfl⟩
                rw [← hfi, ← hcn]
                have qA : ∀ u : ExtW wr, u.w.cell? ⟨wo.heap.size, 0, none⟩ = some (.slice none 0 0) := fun u => ((eq_.trans u.ext).cell (p := ⟨wo.heap.size, 0, none⟩) vwl).trans HV.out.2.2.1.1
                have qB : ∀ u : ExtW wr, u.w.cell? ⟨wo.heap.size + 1, 0, none⟩ = some (.int .i64 (0 : Nat)) := fun u => ((eq_.trans u.ext).cell (p := ⟨wo.heap.size + 1, 0, none⟩) vkl).trans HV.out.2.2.1.2.1
                have qC : ∀ u : ExtW wr, u.w.cell? ⟨wo.heap.size + 1 + 1, 0, none⟩ = some (.bool true) := fun u => ((eq_.trans u.ext).cell (p := ⟨wo.heap.size + 1 + 1, 0, none⟩) vol).trans HV.out.2.2.1.2.2
                have qD : ∀ u : ExtW wr, u.w.cell? ⟨cb, 0, none⟩ = some (.int .i64 z) := fun u => ((eq_.trans u.ext).cell (p := ⟨cb, 0, none⟩) vcl).trans HV.out.2.2.2.1
                have qE : ∀ u : ExtW wr, u.w.cell? ⟨W.heap.size, 0, none⟩ = some (.pointer (some ⟨nb, 0, none⟩)) := fun u => (HT.out u.w (EV.trans (eq_.trans u.ext))).1
                have q3 : ∀ u : ExtW wr, u.w.cell? ⟨W.heap.size + 1 + 1, 0, none⟩ = some (.int .i64 by_) := fun u => (HT.out u.w (EV.trans (eq_.trans u.ext))).2.2.2
                have LR : Ls wr B nb tg rb lb mb N M rows T := HV.out.1.kept eq_
                have qF : ∀ u : ExtW wr, u.w.cell? ⟨nb, 0, none⟩ = some (.pointer (some ⟨rb, 0, none⟩)) := fun u => (LR.kept u.ext).c0
                have hby3' : W.heap.size + 1 + 1 < wr.heap.size := block_lt_of_cell a3
                have fok : ∀ u : ExtW wr, FitOk N 42 #[.pointer (some ⟨W.heap.size + 1 + 1, 0, none⟩)] (divs by_) u.w.heap.size u.w := fun u => fit_divs (enters_of Try.func42 (by kernel_rfl) rfl) hN2 (fun x W' hx hc => is1_any by_ (by omega) hby x (W.heap.size + 1 + 1) W' hx hc) (q3 u) (by have := u.ext.sz; omega)
                have lsay : ∀ u : ExtW wr, CallsIn Fence.wide 4 Try.prog 18 #[.pointer (some ⟨rb, 0, none⟩), .int .i64 z] u.w fun e w'' => e = .returned (.int .i64 (0 : Nat)) ∧ ∃ u' : ExtW wr, w'' = u'.w := fun u =>
                  (callsIn_wide.2 (Len_any z u.w (LR.kept u.ext).rr)).mono (fun e w'' h => ⟨by rw [h.1, ← HRW.out, hgn], u, h.2⟩)
                have fsay : ∀ u : ExtW wr, CallsIn Fence.wide 4 Try.prog 15 #[.pointer (some ⟨nb, 0, none⟩), .int .i64 z, .int .i64 tag, .func (.func 42) #[] #[.pointer (some ⟨W.heap.size + 1 + 1, 0, none⟩)]] u.w fun e w'' => e = .returned (.int .i64 fi) ∧ ∃ u' : ExtW wr, w'' = u'.w := fun u =>
                  (callsIn_wide.2 (LFirst_any z tag _ _ (divs by_) u.w _ (by rw [← HRW.out]) (by omega) (by omega) (LR.kept u.ext) (fok u))).mono (fun e w'' h => ⟨by rw [hfi]; exact h.1, ⟨w'', u.ext.trans h.2⟩, rfl⟩)
                have csay : ∀ u : ExtW wr, CallsIn Fence.wide 4 Try.prog 16 #[.pointer (some ⟨nb, 0, none⟩), .int .i64 z, .int .i64 tag, .func (.func 42) #[] #[.pointer (some ⟨W.heap.size + 1 + 1, 0, none⟩)]] u.w fun e w'' => e = .returned (.int .i64 (cn : Int)) ∧ ∃ u' : ExtW wr, w'' = u'.w := fun u =>
                  (callsIn_wide.2 (LCount_any z tag _ _ (divs by_) u.w _ (by rw [← HRW.out]) (by omega) (by omega) (LR.kept u.ext) (fok u))).mono (fun e w'' h => ⟨by rw [hcn]; exact h.1, ⟨w'', u.ext.trans h.2⟩, rfl⟩)
                have hfa : ∀ k, Fence.wide.fn k := fun _ => trivial
                have ER := EV.trans eq_
                have hW1s := EV.sz
                have hcbs : wr.heap.size ≥ W1.heap.size := ER.sz
                clear HV LR fok hby3' a0 a1 a2 a3 HRW hgn hfi hcn EV eq_
                go_wp2_with fail
                refine region_quiet_ext (n := 5) (by kernel_rfl) (by kernel_rfl) ?_
                repeat (gi_big_quiet_step (first | exact lsay _ | exact fsay _ | exact csay _))
                refine wpQuietIn_nil ?_
                rintro w' ⟨u, rfl⟩
                simp only [Exit.then]
                have y1 := qD u
                have EY := ER.trans u.ext
                have y2 := EY.sz
                have y3 : cb < u.w.heap.size := block_lt_of_cell y1
                obtain ⟨Y, hY⟩ : ∃ Y, Y = u.w := ⟨_, rfl⟩
                rw [← hY] at y1 y2 y3 EY ⊢
                clear hY qA qB qC qD qE qF q3 lsay fsay csay
                go_wp2_with fail
                go_roundw
                case rel => exact ⟨_, z + 1, rfl, by omega, by omega, by omega, World.cell?_alloc_new _ _ _ 0, World.frozen?_alloc_new _ _ _ 0, EY.alloc _⟩
                case measure =>
                  have hzn : zOf (Y.alloc (.cells #[.int .i64 (z + 1)] 3)) (.pointer (some ⟨Y.heap.size, 0, none⟩)) = z + 1 := by
                    simp only [zOf]
                    rw [World.cell?_alloc_new _ _ _ 0]
                    rfl
                  rw [hzn, hzo]
                  omega
        · go_wp2_with fail
          obtain ⟨p0, p1, p2, p3, p4⟩ := Lw.lts
          have hzo : zOf wo (.pointer (some ⟨cb, 0, none⟩)) = z := by simp only [zOf, cz]
          have hbl : W.heap.size < wo.heap.size := block_lt_of_cell b0
          have hby3 : W.heap.size + 1 + 1 < wo.heap.size := block_lt_of_cell b3
          refine wp_abs (fun Wx => Ls Wx B nb tg rb lb mb N M rows T ∧ RowL Wx (fun y => P y ∧ y < wo.heap.size) none 0 0 T row ∧ (Wx.cell? ⟨wo.heap.size, 0, none⟩ = some (.slice none 0 0) ∧ Wx.cell? ⟨wo.heap.size + 1, 0, none⟩ = some (.int .i64 0) ∧ Wx.cell? ⟨wo.heap.size + 1 + 1, 0, none⟩ = some (.bool true) ∧ Wx.frozen? ⟨wo.heap.size + 1, 0, none⟩ = false ∧ Wx.frozen? ⟨wo.heap.size + 1 + 1, 0, none⟩ = false) ∧ (Wx.cell? ⟨cb, 0, none⟩ = some (.int .i64 z) ∧ Wx.frozen? ⟨cb, 0, none⟩ = false) ∧ wo.heap.size + 1 + 1 < Wx.heap.size ∧ Ext W1 Wx ∧ Ext wo Wx)
            ⟨Lw.kept ((((Ext.refl _).alloc _).alloc _).alloc _), k2'.ext ((((Ext.refl _).alloc _).alloc _).alloc _), ⟨(World.cell?_alloc_past _ _ _ (by simp; omega)).trans ((two1 ..).trans rfl), (World.cell?_alloc_past _ _ _ (by simp)).trans ((two2 ..).trans rfl), (al3 ..).trans rfl, (World.frozen?_alloc_past _ _ _ (by simp)).trans (two2z ..), (by simpa using World.frozen?_alloc_new ((wo.alloc (.cells #[.slice none 0 0] 69)).alloc (.cells #[.int .i64 0] 3)) #[.bool true] 4 0)⟩, ⟨((((((Ext.refl _).alloc _).alloc _).alloc _).cell (p := ⟨cb, 0, none⟩) cbl).trans cz), (((((((Ext.refl _).alloc _).alloc _).alloc _).cells.2 cb 0 cbl)).trans fz)⟩, by simp, er.trans ((((Ext.refl _).alloc _).alloc _).alloc _), (((Ext.refl _).alloc _).alloc _).alloc _⟩ ?_
          rintro wx ⟨Lx, Rx, ⟨cw, ck, co, fk, fo⟩, ⟨cc, fc⟩, lx, ex, ey⟩
          obtain ⟨a0, -, -, -⟩ := HT.out wx ex
          have HB := Lib.hid (show ∀ W' : World, Ext wx W' → W'.cell? ⟨W.heap.size, 0, none⟩ = some (.pointer (some ⟨nb, 0, none⟩)) ∧ W'.cell? ⟨nb, 0, none⟩ = some (.pointer (some ⟨rb, 0, none⟩)) ∧ W'.cell? ⟨cb, 0, none⟩ = some (.int .i64 z) from fun W' he => ⟨(he.cell (p := ⟨W.heap.size, 0, none⟩) (block_lt_of_cell a0)).trans a0, (he.cell (p := ⟨nb, 0, none⟩) Lx.lts.1).trans Lx.c0, (he.cell (p := ⟨cb, 0, none⟩) (block_lt_of_cell cc)).trans cc⟩)
          have HG := Lib.hid (And.intro Lx (And.intro Rx (And.intro (And.intro cw (And.intro ck (And.intro co (And.intro fk fo)))) (And.intro cc fc))))
          clear Lw Fw k2' a0 Lx Rx cw ck co fk fo cc fc cz fz b0 b1 b2 b3
          have HCall := Lib.hid (show ∀ w3 : World, Ext wx w3 → w3.cell? ⟨wx.heap.size, 0, none⟩ = some (.pointer (some ⟨rb, 0, none⟩)) → w3.cell? ⟨wx.heap.size + 1, 0, none⟩ = some (.int .i64 z) →
              Calls Try.prog 33 #[.func (.func 43) #[] #[.pointer (some ⟨wo.heap.size + 1 + 1, 0, none⟩), .pointer (some ⟨wo.heap.size + 1, 0, none⟩), .pointer (some ⟨wo.heap.size, 0, none⟩), .pointer (some ⟨W.heap.size, 0, none⟩), .pointer (some ⟨cb, 0, none⟩)], .pointer (some ⟨wx.heap.size, 0, none⟩), .pointer (some ⟨wx.heap.size + 1, 0, none⟩)] w3 fun e V => (∃ v, e = .returned v) ∧
                (Ls V B nb tg rb lb mb N M rows T ∧ RowL V (fun y => P y ∧ y < wo.heap.size) none 0 0 T row ∧ (V.cell? ⟨wo.heap.size, 0, none⟩ = some (.slice none 0 0) ∧ V.cell? ⟨wo.heap.size + 1, 0, none⟩ = some (.int .i64 (0 : Nat)) ∧ V.cell? ⟨wo.heap.size + 1 + 1, 0, none⟩ = some (.bool true)) ∧ (V.cell? ⟨cb, 0, none⟩ = some (.int .i64 z) ∧ V.frozen? ⟨cb, 0, none⟩ = false) ∧ Ext W1 V) ∧
                (V.cell? ⟨W.heap.size, 0, none⟩ = some (.pointer (some ⟨nb, 0, none⟩)) ∧ V.cell? ⟨nb, 0, none⟩ = some (.pointer (some ⟨rb, 0, none⟩)) ∧ V.cell? ⟨cb, 0, none⟩ = some (.int .i64 z)) from fun w3 he d3 d4 => by
            obtain ⟨Lx, Rx, ⟨cw, ck, co, fk, fo⟩, cc, fc⟩ := HG.out
            have e2 := (HB.out w3 he)
            have n1 := Lx.lts.1
            have hes := he.sz
            have c0 := (he.cell (p := ⟨wo.heap.size, 0, none⟩) (block_lt_of_cell cw)).trans cw
            refine (nodes_is (T := T) z (wo.heap.size + 1 + 1) (wo.heap.size + 1) wo.heap.size wx.heap.size (wx.heap.size + 1) W.heap.size cb (fun y => P y ∧ y < wo.heap.size) none 0 0 w3 row HRW.out hM1 hN1 (Lx.kept he) (Rx.ext he) (fun h => by have := h.2; omega) (fun h => by have := h.2; omega)
              ((he.cell (p := ⟨wo.heap.size + 1 + 1, 0, none⟩) (block_lt_of_cell co)).trans co) ((he.cell (p := ⟨wo.heap.size + 1, 0, none⟩) (block_lt_of_cell ck)).trans ck) c0 e2.1 e2.2.2 ((he.cells.2 _ _ (block_lt_of_cell co)).trans fo) ((he.cells.2 _ _ (block_lt_of_cell ck)).trans fk) d3 d4
              (by omega) ⟨by omega, by omega⟩ ⟨by omega, by omega⟩ ⟨by omega, by omega⟩ ⟨by omega, by omega⟩ ⟨by omega, by omega⟩ ⟨by omega, by omega⟩ ⟨by omega, by omega⟩ ⟨by omega, by omega⟩ ⟨by omega, by omega⟩).mono ?_
            rintro e V ⟨hv, o9, k9, C9⟩
            have hb9 : ∀ k, k < wo.heap.size + 1 → V.heap[k]? = w3.heap[k]? := fun k hk => C9.blk k (by omega) (by omega) (by omega)
            have hbx : ∀ k, k < wo.heap.size + 1 → V.heap[k]? = wx.heap[k]? := fun k hk => (hb9 k hk).trans (he.blk (by omega))
            have EV : Ext W1 V := (ex.trans he).step (C9.below (B := W1.heap.size) (ex.trans he).sz (by omega) (by omega)) (Nat.le_refl _)
            have cv : ∀ {b o : Nat} {u : Value}, b < wo.heap.size + 1 → wx.cell? ⟨b, o, none⟩ = some u → V.cell? ⟨b, o, none⟩ = some u := fun {b o u} h hc => (World.cell?_of_block (a := ⟨b, o, none⟩) (hbx b h)).trans hc
            have LV : Ls V B nb tg rb lb mb N M rows T := ⟨Lx.rr.blk (Nat.le_trans he.sz C9.size) (hbx rb (by omega)) (hbx lb (by omega)) (hbx mb (by omega)), cv (by omega) Lx.c0, cv (by omega) Lx.c1, fun i hi => cv (by omega) (Lx.t i hi), fun o => (World.frozen?_of_block (a := ⟨tg, o, none⟩) (hbx tg (by omega))).trans (Lx.ft o), Lx.d1, Lx.d2, Lx.ge, ⟨Nat.lt_of_lt_of_le Lx.lt.1 (Nat.le_trans he.sz C9.size), Nat.lt_of_lt_of_le Lx.lt.2 (Nat.le_trans he.sz C9.size)⟩⟩
            have ccV := cv (show cb < wo.heap.size + 1 by omega) cc
            exact ⟨hv, ⟨LV, Rx.kept (fun k hk _ => hbx k (by omega)), ⟨cv (by omega) cw, k9, o9⟩, ⟨ccV, (World.frozen?_of_block (a := ⟨cb, 0, none⟩) (hbx cb (by omega))).trans fc⟩, EV⟩, cv (by omega) (HB.out wx (Ext.refl _)).1, cv (by omega) Lx.c0, ccV⟩)
          refine (fun (key : RowKit.Hid ?KKC) => ?restC) (Lib.hid ?keyproofC)
          case' restC => go_region_held3 (fun W' => W'.cell? ⟨W.heap.size, 0, none⟩ = some (.pointer (some ⟨nb, 0, none⟩)) ∧ W'.cell? ⟨nb, 0, none⟩ = some (.pointer (some ⟨rb, 0, none⟩)) ∧ W'.cell? ⟨cb, 0, none⟩ = some (.int .i64 z))
            (first | exact HE | exact HB.out _ (by (repeat (first | with_reducible exact Ext.refl _ | with_reducible assumption | with_reducible apply Ext.drew | with_reducible apply Ext.drewN | with_reducible apply Ext.alloc | (with_reducible refine Ext.setCell ?_ (by simp <;> omega) _) | (with_reducible refine Ext.trans ?_ (by with_reducible assumption))))))
            (first
              | (go_at_call 10; (with_reducible refine (nodes_fn rb z wx.drew).mono ?_); rintro e w3 ⟨rfl, hw3⟩; have e3 : Ext wx w3 := (by rw [hw3]; exact (((Ext.refl wx).drew).alloc _).alloc _); have d3 : w3.cell? ⟨wx.heap.size, 0, none⟩ = some (.pointer (some ⟨rb, 0, none⟩)) := (by rw [hw3]; exact (two1 ..).trans rfl); have d4 : w3.cell? ⟨wx.heap.size + 1, 0, none⟩ = some (.int .i64 z) := (by rw [hw3]; exact (two2 ..).trans rfl); clear hw3)
              | (go_at_call 33; (with_reducible refine (HCall.out w3 e3 d3 d4).mono ?_); rintro e V ⟨⟨rv, rfl⟩, FV, HE⟩))
          case' keyproofC => skip
          all_goals
            first
              | (rename_i hH
                 clear hH HE
                 revert FV
                 revert V
                 revert rv
                 exact key.out)
              | skip
          all_goals
            intro rv V FV
            obtain ⟨LV, RV, ⟨vw, vk, vo⟩, ⟨vc, vf⟩, EV⟩ := FV
            have vwl := block_lt_of_cell vw
            have vkl := block_lt_of_cell vk
            have vol := block_lt_of_cell vo
            have vcl := block_lt_of_cell vc
            have hgn := RV.1
            have hgn64 : 0 ≤ 64 := by
              rw [← hgn, HRW.out]
              by_cases hz : 0 ≤ (z)
              · obtain ⟨k, hk⟩ := Int.eq_ofNat_of_zero_le hz
                rw [hk, rowI_in]
                exact hR64 k
              · rw [rowI_out (by omega)]; simp
            have HV := Lib.hid (And.intro LV (And.intro RV (And.intro (And.intro vw (And.intro vk vo)) (And.intro vc vf))))
            clear HCall HB HG LV RV vk vo vc vf
            go_wp2_with fail
            clear vw
            go_loopw [14, 15, 53] (fun fi ma ix wq => ∃ i : Nat, i ≤ 0 ∧ ix = .int .i64 (i : Int) ∧ fi = .int .i64 (firstI (fitRow T tag (divs by_) (row.take i))) ∧ ma = .int .i64 ((fitRow T tag (divs by_) (row.take i)).length : Int) ∧ Ext V wq) (fun _ _ ix _ => 0 - (intOf ix).toNat)
            case atStart => exact ⟨0, by omega, rfl, rfl, rfl, Ext.refl _⟩
            case round =>
              obtain ⟨i, hi, rfl, rfl, rfl, eq_⟩ := hrel
              obtain ⟨a0, a1, a2, a3⟩ := HT.out wr (EV.trans eq_)
              by_cases hig : i < 0
              · try exact absurd hig (Nat.not_lt_zero _)
                all_goals
                  obtain ⟨yy, hGA, hy, hyc⟩ := HV.out.2.1.2.2.2.2 (by omega)
                  obtain ⟨y0, y1⟩ := hyc i hig
                  have hrl := HV.out.2.1.1
                  obtain ⟨xi, hxi⟩ : ∃ xi, xi = row.getD i 0 := ⟨_, rfl⟩
                  rw [← hxi] at y0 y1
                  have hxr : xi ∈ row := by rw [hxi]; exact getD_memN (by omega)
                  have y0' := (eq_.cell (p := ⟨yy, i * 2, none⟩) (block_lt_of_cell y0)).trans y0
                  have y1' := (eq_.cell (p := ⟨yy, i * 2 + 1, none⟩) (block_lt_of_cell y1)).trans y1
                  have hxN : xi < 1000 := by
                    have h1 := HV.out.1.rr.nodup.2 xi (by
                      rw [HRW.out] at hxr
                      by_cases hz : 0 ≤ (z)
                      · obtain ⟨k, hk⟩ := Int.eq_ofNat_of_zero_le hz
                        rw [hk, rowI_in] at hxr
                        by_cases hkk : k < rows.length
                        · exact rowAt_mem hkk hxr
                        · rw [rowAt_out (by omega)] at hxr; simp at hxr
                      · rw [rowI_out (by omega)] at hxr; simp at hxr)
                    omega
                  have htk : row.take (i + 1) = row.take i ++ [xi] := by rw [List.take_succ_eq_append_getElem (by omega), hxi]; simp [List.getD, show i < row.length by omega]
                  obtain ⟨F, hF⟩ : ∃ F, F = fitRow T tag (divs by_) (row.take i) := ⟨_, rfl⟩
                  have hFl : F.length ≤ 64 := by rw [hF]; refine Nat.le_trans (List.length_filter_le _ _) ?_; rw [List.length_take]; omega
                  have hst : fitRow T tag (divs by_) (row.take (i + 1)) = if (T xi == tag && divs by_ xi) = true then F ++ [xi] else F := by
                    rw [htk, hF]
                    unfold fitRow
                    rw [List.filter_append, List.filter_cons, List.filter_nil]
                    by_cases h : (T xi == tag && divs by_ xi) = true
                    · rw [if_pos h, if_pos h]
                    · rw [if_neg h, if_neg h, List.append_nil]
                  rw [← hF]
                  have HS := Lib.hid hst
                  have q3 : (i : Int) < (0 : Nat) := by omega
                  have hbn : ¬ by_ = 0 := by omega
                  have hd1 : (T xi == tag) = decide (T xi = tag) := by by_cases h : T xi = tag <;> simp [h]
                  clear hst htk hF hxr hxi hyc y0 y1 hrl
                  subst hGA
                  by_cases hT : T xi = tag
                  · have hT1 : (T xi == tag) = true := by simp [hT]
                    have hT2 : T xi = tag := hT
                    by_cases hp : divs by_ xi = true
                    · have HE := Lib.hid (HS.out.trans (if_pos (by rw [hT1, hp]; rfl)))
                      cases F with
                      | nil =>
                        go_wp2_with fail
                        refine (is1_any by_ hbn hby xi (W.heap.size + 1 + 1) _ hxN ((((Ext.refl _).alloc _).cell (p := ⟨W.heap.size + 1 + 1, 0, none⟩) (block_lt_of_cell a3)).trans a3)).mono ?_
                        rintro e w9 ⟨rfl, rfl⟩
                        rw [hp]
                        go_wp2_with fail
                        go_roundw
                        case rel => exact ⟨i + 1, by omega, by go_num, by rw [HE.out]; rfl, by rw [HE.out]; rfl, eq_.alloc _⟩
                        case measure => simp [intOf]; omega
                      | cons yF FF =>
                        obtain ⟨ln, hln⟩ : ∃ ln, ln = (yF :: FF).length := ⟨_, rfl⟩
                        rw [← hln] at hFl ⊢
                        have HLn := Lib.hid hln
                        clear hln
                        have hy0 : ¬ (yF : Int) < 0 := by omega
                        have hfi : firstI (yF :: FF) = (yF : Int) := rfl
                        rw [hfi]
                        go_wp2_with fail
                        refine (is1_any by_ hbn hby xi (W.heap.size + 1 + 1) _ hxN ((((Ext.refl _).alloc _).cell (p := ⟨W.heap.size + 1 + 1, 0, none⟩) (block_lt_of_cell a3)).trans a3)).mono ?_
                        rintro e w9 ⟨rfl, rfl⟩
                        rw [hp]
                        go_wp2_with fail
                        go_roundw
                        case rel => exact ⟨i + 1, by omega, by go_num, by rw [HE.out]; rfl, by rw [HE.out, List.length_append, ← HLn.out]; first | rfl | go_num, eq_.alloc _⟩
                        case measure => simp [intOf]; omega
                    · have hp' : divs by_ xi = false := by simpa using hp
                      have HE := Lib.hid (HS.out.trans (if_neg (by rw [hp']; simp)))
                      go_wp2_with fail
                      refine (is1_any by_ hbn hby xi (W.heap.size + 1 + 1) _ hxN ((((Ext.refl _).alloc _).cell (p := ⟨W.heap.size + 1 + 1, 0, none⟩) (block_lt_of_cell a3)).trans a3)).mono ?_
                      rintro e w9 ⟨rfl, rfl⟩
                      rw [hp']
                      go_wp2_with fail
                      go_roundw
                      case rel => exact ⟨i + 1, by omega, by go_num, by rw [HE.out], by rw [HE.out], eq_.alloc _⟩
                      case measure => simp [intOf]; omega
                  · have hT1 : (T xi == tag) = false := by simp [hT]
                    have HE := Lib.hid (HS.out.trans (if_neg (by rw [hT1]; simp)))
                    go_wp2_with fail
                    go_roundw
                    case rel => exact ⟨i + 1, by omega, by go_num, by rw [HE.out], by rw [HE.out], eq_.alloc _⟩
                    case measure => simp [intOf]; omega
              · have hie : i = 0 := by omega
                have htk : row.take i = row := List.take_of_length_le (by have := HV.out.2.1.1; omega)
                rw [htk, hie]
                clear htk hig hi
                obtain ⟨fi, hfi⟩ : ∃ fi, fi = firstI (fitRow T tag (divs by_) row) := ⟨_, rfl⟩
                obtain ⟨cn, hcn⟩ : ∃ cn, cn = (fitRow T tag (divs by_) row).length := ⟨_, rfl⟩
                rw [← hfi, ← hcn]
                have qA : ∀ u : ExtW wr, u.w.cell? ⟨wo.heap.size, 0, none⟩ = some (.slice none 0 0) := fun u => ((eq_.trans u.ext).cell (p := ⟨wo.heap.size, 0, none⟩) vwl).trans HV.out.2.2.1.1
                have qB : ∀ u : ExtW wr, u.w.cell? ⟨wo.heap.size + 1, 0, none⟩ = some (.int .i64 (0 : Nat)) := fun u => ((eq_.trans u.ext).cell (p := ⟨wo.heap.size + 1, 0, none⟩) vkl).trans HV.out.2.2.1.2.1
                have qC : ∀ u : ExtW wr, u.w.cell? ⟨wo.heap.size + 1 + 1, 0, none⟩ = some (.bool true) := fun u => ((eq_.trans u.ext).cell (p := ⟨wo.heap.size + 1 + 1, 0, none⟩) vol).trans HV.out.2.2.1.2.2
                have qD : ∀ u : ExtW wr, u.w.cell? ⟨cb, 0, none⟩ = some (.int .i64 z) := fun u => ((eq_.trans u.ext).cell (p := ⟨cb, 0, none⟩) vcl).trans HV.out.2.2.2.1
                have qE : ∀ u : ExtW wr, u.w.cell? ⟨W.heap.size, 0, none⟩ = some (.pointer (some ⟨nb, 0, none⟩)) := fun u => (HT.out u.w (EV.trans (eq_.trans u.ext))).1
                have q3 : ∀ u : ExtW wr, u.w.cell? ⟨W.heap.size + 1 + 1, 0, none⟩ = some (.int .i64 by_) := fun u => (HT.out u.w (EV.trans (eq_.trans u.ext))).2.2.2
                have LR : Ls wr B nb tg rb lb mb N M rows T := HV.out.1.kept eq_
                have qF : ∀ u : ExtW wr, u.w.cell? ⟨nb, 0, none⟩ = some (.pointer (some ⟨rb, 0, none⟩)) := fun u => (LR.kept u.ext).c0
                have hby3' : W.heap.size + 1 + 1 < wr.heap.size := block_lt_of_cell a3
                have fok : ∀ u : ExtW wr, FitOk N 42 #[.pointer (some ⟨W.heap.size + 1 + 1, 0, none⟩)] (divs by_) u.w.heap.size u.w := fun u => fit_divs (enters_of Try.func42 (by kernel_rfl) rfl) hN2 (fun x W' hx hc => is1_any by_ (by omega) hby x (W.heap.size + 1 + 1) W' hx hc) (q3 u) (by have := u.ext.sz; omega)
                have lsay : ∀ u : ExtW wr, CallsIn Fence.wide 4 Try.prog 18 #[.pointer (some ⟨rb, 0, none⟩), .int .i64 z] u.w fun e w'' => e = .returned (.int .i64 (0 : Nat)) ∧ ∃ u' : ExtW wr, w'' = u'.w := fun u =>
                  (callsIn_wide.2 (Len_any z u.w (LR.kept u.ext).rr)).mono (fun e w'' h => ⟨by rw [h.1, ← HRW.out, hgn], u, h.2⟩)
                have fsay : ∀ u : ExtW wr, CallsIn Fence.wide 4 Try.prog 15 #[.pointer (some ⟨nb, 0, none⟩), .int .i64 z, .int .i64 tag, .func (.func 42) #[] #[.pointer (some ⟨W.heap.size + 1 + 1, 0, none⟩)]] u.w fun e w'' => e = .returned (.int .i64 fi) ∧ ∃ u' : ExtW wr, w'' = u'.w := fun u =>
                  (callsIn_wide.2 (LFirst_any z tag _ _ (divs by_) u.w _ (by rw [← HRW.out]) (by omega) (by omega) (LR.kept u.ext) (fok u))).mono (fun e w'' h => ⟨by rw [hfi]; exact h.1, ⟨w'', u.ext.trans h.2⟩, rfl⟩)
                have csay : ∀ u : ExtW wr, CallsIn Fence.wide 4 Try.prog 16 #[.pointer (some ⟨nb, 0, none⟩), .int .i64 z, .int .i64 tag, .func (.func 42) #[] #[.pointer (some ⟨W.heap.size + 1 + 1, 0, none⟩)]] u.w fun e w'' => e = .returned (.int .i64 (cn : Int)) ∧ ∃ u' : ExtW wr, w'' = u'.w := fun u =>
                  (callsIn_wide.2 (LCount_any z tag _ _ (divs by_) u.w _ (by rw [← HRW.out]) (by omega) (by omega) (LR.kept u.ext) (fok u))).mono (fun e w'' h => ⟨by rw [hcn]; exact h.1, ⟨w'', u.ext.trans h.2⟩, rfl⟩)
                have hfa : ∀ k, Fence.wide.fn k := fun _ => trivial
                have ER := EV.trans eq_
                have hW1s := EV.sz
                have hcbs : wr.heap.size ≥ W1.heap.size := ER.sz
                clear HV LR fok hby3' a0 a1 a2 a3 HRW hgn hfi hcn EV eq_
                go_wp2_with fail
                refine region_quiet_ext (n := 5) (by kernel_rfl) (by kernel_rfl) ?_
                repeat (gi_big_quiet_step (first | exact lsay _ | exact fsay _ | exact csay _))
                refine wpQuietIn_nil ?_
                rintro w' ⟨u, rfl⟩
                simp only [Exit.then]
                have y1 := qD u
                have EY := ER.trans u.ext
                have y2 := EY.sz
                have y3 : cb < u.w.heap.size := block_lt_of_cell y1
                obtain ⟨Y, hY⟩ : ∃ Y, Y = u.w := ⟨_, rfl⟩
                rw [← hY] at y1 y2 y3 EY ⊢
                clear hY qA qB qC qD qE qF q3 lsay fsay csay
                go_wp2_with fail
                go_roundw
                case rel => exact ⟨_, z + 1, rfl, by omega, by omega, by omega, World.cell?_alloc_new _ _ _ 0, World.frozen?_alloc_new _ _ _ 0, EY.alloc _⟩
                case measure =>
                  have hzn : zOf (Y.alloc (.cells #[.int .i64 (z + 1)] 3)) (.pointer (some ⟨Y.heap.size, 0, none⟩)) = z + 1 := by
                    simp only [zOf]
                    rw [World.cell?_alloc_new _ _ _ 0]
                    rfl
                  rw [hzn, hzo]
                  omega
    · have hzE : z = (M : Int) + 1 := by omega
      rw [hzE] at cz
      have hq8 : ¬ (M : Int) + 1 ≤ (M : Int) := by omega
      have HK := Lib.hid (And.intro L1 F1)
      clear hzE hz1 hz2 hzM L1 F1
      go_wp2_with fail
      go_loopw [18] (fun n wr => ∃ zz : Int, -1 ≤ zz ∧ zz ≤ (N : Int) + 1 ∧ n = .int .i64 zz ∧ Ext wo wr) (fun n _ => ((N : Int) + 1 - intOf n).toNat)
      case atStart => exact ⟨-1, by omega, by omega, rfl, Ext.refl _⟩
      case round =>
        obtain ⟨zz, hn1, hn2, rfl, ex⟩ := hrel
        have ew := er.trans ex
        obtain ⟨a0, a1, a2, a3⟩ := HT.out wr ew
        by_cases hzN : zz ≤ (N : Int)
        · have Fx := HK.out.2.ext ew
          have HP := Lib.hid (show (findS rows zz).1 < 0 → listS rows zz = -1 ∧ tagS rows T zz = 0 from fun h => by
            have e : listS rows zz = -1 := by
              unfold findS at h
              unfold listS
              by_cases hh : 0 ≤ zz ∧ zz.toNat ∈ rows.flatten
              · rw [if_pos hh] at h
                have h' : ((listOf rows zz.toNat : Nat) : Int) < 0 := h
                omega
              · rw [if_neg hh]
            exact ⟨e, by unfold tagS; rw [e, if_pos (by omega)]⟩)
          go_wp2_with fail
          refine (Find_any (rows := rows) _ zz wr Fx).mono ?_
          rintro e w4 ⟨rfl, y4⟩
          have Ly := HK.out.1.kept (ew.trans y4)
          obtain ⟨c0, -, -, -⟩ := HT.out w4 (ew.trans y4)
          obtain ⟨fc, hfc⟩ : ∃ fc, fc = (findS rows zz).1 := ⟨_, rfl⟩
          rw [← hfc] at HP ⊢
          clear hfc Fx a0 a1 a2 a3
          by_cases hf0 : fc < 0
          · go_wp2_with fail
            refine (Core_any zz w4 Ly).mono ?_
            rintro e z1 ⟨he, hz1⟩
            have hz2 := hz1.symm; clear hz1; subst hz2
            rw [(HP.out hf0).1] at he
            subst he
            go_wp2_with fail
            refine (Tag_any zz w4 Ly).mono ?_
            rintro e z1 ⟨he, hz1⟩
            have hz2 := hz1.symm; clear hz1; subst hz2
            rw [(HP.out hf0).2] at he
            subst he
            go_wp2_with fail
            go_roundw
            case rel => exact ⟨zz + 1, by omega, by omega, rfl, ex.trans y4⟩
            case measure => simp [intOf]; omega
          · go_wp2_with fail
            go_roundw
            case rel => exact ⟨zz + 1, by omega, by omega, rfl, ex.trans y4⟩
            case measure => simp [intOf]; omega
        · obtain rfl : zz = (N : Int) + 1 := by omega
          have q8 : ¬ (N : Int) + 1 ≤ (N : Int) := by omega
          clear hzN
          go_wp2_with fail
          go_ret
          exact ⟨rfl, (E0.trans er).trans ex⟩
end Go.Proofs.Ytnlcbilmalfjaaa
