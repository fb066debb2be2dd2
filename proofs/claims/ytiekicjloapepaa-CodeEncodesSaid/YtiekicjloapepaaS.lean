/- A part of the proof of a law of roundel: contracts of functions and lemmas, each true as it stands; no condition beyond those that its theorems state. -/
import Derived.Test.YtiekicjloapepaaR
namespace Go.Proofs.Ytiekicjloapepaa
set_option linter.unusedSimpArgs false
set_option linter.unusedVariables false
open Go.RowKit

set_option maxHeartbeats 2000000 in
theorem decodes_ok (A : Option Addr) (n c : Nat) (l : List Int) (hAc : A = none → c = 0) (hn : n ≤ 300) (hnc : n ≤ c) (hc63 : c ≤ 9223372036854775807) (w : World) (hr : Rd w A n l) (op : Nat) (hop : l.getD 0 0 = (op : Int)) (hn0 : 0 < n) (hgood : isOp op = true) (hs : 1 + wa op + wb op + wm op ≤ n) :
    Calls Try.prog 5 #[.slice A n c] w fun e w' => e = .returned (.bool true) ∧ Ext w w' := by
  have hn' : (n : Int) ≤ 300 := by omega
  have hlen := Lib.hid hr.1
  go_enter Try.func5, Try.ntmps5
  go_wp2_with (first
    | (go_at_call 8; refine (awake_any _).mono ?_; rintro e w1 ⟨rfl, he1⟩; obtain ⟨he1c, he1f⟩ := Ext.cells he1; have he1z := Ext.sz he1; (try simp only [World.size_alloc, World.size_drew, World.heap_drewN, World.size_setCell] at he1z))
    | (at_builtin; refine wpList_append_rd rfl (.tmp 20) (.tmp 21) rfl w1.heap.size _ [] rfl (OwnB.nil_lit w1 5 rfl) A n c l rfl hAc ((hr.ext he1).ext ((Ext.refl _).alloc _)) ?_ (by simp) ?_; (simp; omega); intro v2 w2 o2 b2))
  rw [List.nil_append] at o2
  obtain ⟨A2, c2, hv2, hnc2, hc2, hr2⟩ := own_rd o2 hr.2.1
  rw [hlen.out] at hv2 hnc2 hr2
  rw [hv2]
  clear hv2 o2
  have ew2 : Ext w w2 := Ext.step (he1.alloc _) b2 he1.sz
  refine calls_abs (fun W => Rd W A n l ∧ Rd W A2 n l ∧ Ext w W) ⟨hr.ext ew2, hr2, ew2⟩ ?_
  clear b2 he1c he1f hr2 hr ew2
  rintro w3 ⟨hr, hr2, ew3⟩
  refine (dec_ok A2 n c2 l hn0 (by omega) hnc2 hc2 w3 hr2 op hop hgood hs).mono ?_
  rintro e w4 ⟨rfl, he4⟩
  have hr4 := hr.ext he4
  have e4 := ew3.trans he4
  clear hr hr2
  go_wp2_with fail
  refine (rdec_ok A n c l hn0 (by omega) hnc hc63 _ (hr4.ext ((Ext.refl _).alloc _)) op hop hgood hs).mono ?_
  rintro e w5 ⟨rfl, he5⟩
  obtain ⟨he5c, he5f⟩ := Ext.cells he5; have he5z := Ext.sz he5; (try simp only [World.size_alloc, World.size_drew, World.heap_drewN, World.size_setCell] at he5z); have he5x0 : w4.heap.size < w5.heap.size := (by omega); have he5y0 : w4.heap.size < w5.heap.size + 1 := (by omega); have he5p0 := fun o => he5c (w4.heap.size) o (by first | omega | (simp only [World.size_alloc, World.size_drew, World.heap_drewN, World.size_setCell] <;> omega)); have he5q0 := fun o => he5f (w4.heap.size) o (by first | omega | (simp only [World.size_alloc, World.size_drew, World.heap_drewN, World.size_setCell] <;> omega))
  have hr5 := hr4.ext ((Ext.refl _).alloc _ |>.trans he5)
  obtain ⟨gd1, gd2, gd3, gd4⟩ := dec_good hgood hlen.out hr5.2.1 hs hop
  have hop1 : 1 ≤ op ∧ op ≤ 19 := by simpa [isOp] using hgood
  have i1 : (0 : Int) ≤ (op : Int) := by omega
  have i2 : (op : Int) ≤ 255 := by omega
  have i3 : op ≤ 255 := by omega
  have HG := Lib.hid gd1
  have HE := Lib.hid gd2
  have HO := Lib.hid hop
  clear gd1 gd2 hop
  have c40 : ∀ o, w5.cell? ⟨w4.heap.size, o, none⟩ = (#[.int .u8 (op : Int), .int .i64 (fA op l), .int .i64 (fB op l), .int .u64 (fM op l)] : Array Value)[o]? := fun o => (he5p0 o).trans (World.cell?_alloc_new _ _ _ _)
  have C4 := Lib.hid c40
  have c41 := c40 0
  have c42 := c40 1
  have c43 := c40 2
  have c44 := c40 3
  simp at c41 c42 c43 c44
  clear he5c he5f he5p0 he5q0 c40
  have e5 : Ext w w5 := (e4.alloc _).trans he5
  go_wp2_with fail
  refine calls_abs (fun W => Rd W A n l ∧ Ext w W ∧ W.cell? ⟨w4.heap.size, 0, none⟩ = some (.int .u8 op) ∧ W.cell? ⟨w4.heap.size, 1, none⟩ = some (.int .i64 (fA op l)) ∧ W.cell? ⟨w4.heap.size, 2, none⟩ = some (.int .i64 (fB op l)) ∧ W.cell? ⟨w4.heap.size, 3, none⟩ = some (.int .u64 (fM op l)) ∧
      W.cell? ⟨w5.heap.size, 0, none⟩ = some (.int .i64 op) ∧ W.cell? ⟨w5.heap.size, 1, none⟩ = some (.int .i64 (fA op l)) ∧ W.cell? ⟨w5.heap.size, 2, none⟩ = some (.int .i64 (fB op l)) ∧ W.cell? ⟨w5.heap.size, 3, none⟩ = some (.int .u64 (fM op l)) ∧ w4.heap.size < W.heap.size ∧ w5.heap.size < W.heap.size)
    ?_ ?_
  · have z := fun o => World.cell?_alloc_past (w := w5) (.cells #[.int .i64 (op : Int), .int .i64 (fA op l), .int .i64 (fB op l), .int .u64 (fM op l)] 24) w4.heap.size o he5x0
    exact ⟨hr5.ext ((Ext.refl _).alloc _), e5.alloc _, by rw [z, C4.out]; rfl, by rw [z, C4.out]; rfl, by rw [z, C4.out]; rfl, by rw [z, C4.out]; rfl, by simp, by simp, by simp, by simp, by simp; omega, by simp⟩
  rintro w6 ⟨hr6, e6, a0, a1, a2, a3, b0, b1, b2, b3, s4, s5⟩
  refine (enc_int op i1 i2 (fA op l) (fB op l) (fM op l) gd3 gd4 (by simpa using HG.out) w6).mono ?_
  rintro e w7 ⟨A7, n7, c7, l7, rfl, hl7, hnc7, hc7, hn7, hm7, r7, o7, he7⟩
  have hs7 : ∀ W, Ext w7 W → W.cell? ⟨w4.heap.size, 0, none⟩ = some (.int .u8 op) ∧ W.cell? ⟨w4.heap.size, 1, none⟩ = some (.int .i64 (fA op l)) ∧ W.cell? ⟨w4.heap.size, 2, none⟩ = some (.int .i64 (fB op l)) ∧ W.cell? ⟨w4.heap.size, 3, none⟩ = some (.int .u64 (fM op l)) ∧
      W.cell? ⟨w5.heap.size, 0, none⟩ = some (.int .i64 op) ∧ W.cell? ⟨w5.heap.size, 1, none⟩ = some (.int .i64 (fA op l)) ∧ W.cell? ⟨w5.heap.size, 2, none⟩ = some (.int .i64 (fB op l)) ∧ W.cell? ⟨w5.heap.size, 3, none⟩ = some (.int .u64 (fM op l)) ∧
      (convert 27 9 (.slice A7 n7 c7)).run Try.prog W = .ok (.string (strOf l7)) W ∧ (convert 27 9 (.slice A (1 + wa op + wb op + wm op).toNat c)).run Try.prog W = .ok (.string (strOf l7)) W := by
    intro W hW
    have hx := he7.trans hW
    refine ⟨(hx.cell (p := ⟨w4.heap.size, 0, none⟩) s4).trans a0, (hx.cell (p := ⟨w4.heap.size, 1, none⟩) s4).trans a1, (hx.cell (p := ⟨w4.heap.size, 2, none⟩) s4).trans a2, (hx.cell (p := ⟨w4.heap.size, 3, none⟩) s4).trans a3, (hx.cell (p := ⟨w5.heap.size, 0, none⟩) s5).trans b0, (hx.cell (p := ⟨w5.heap.size, 1, none⟩) s5).trans b1,
      (hx.cell (p := ⟨w5.heap.size, 2, none⟩) s5).trans b2, (hx.cell (p := ⟨w5.heap.size, 3, none⟩) s5).trans b3, conv_rd A7 n7 c7 l7 W (r7.ext hW), ?_⟩
    have hp := (hr6.ext hx).pre (1 + wa op + wb op + wm op).toNat (by omega)
    rw [← HE.out] at hp
    have h7 := hl7.out
    rw [Int.toNat_natCast] at h7
    rw [← h7] at hp
    exact conv_rd A _ c l7 W hp
  have e7 := e6.trans he7
  obtain ⟨a0', a1', a2', a3', b0', b1', b2', b3', k1, k2⟩ := hs7 w7 (Ext.refl _)
  have HS := Lib.hid hs7
  have ha := wa_in op
  have hb' := wb_in op
  have hm := wm_in op
  have q1 : (0 : Int) ≤ 1 + wa op + wb op + wm op := by omega
  have q2 : 1 + wa op + wb op + wm op ≤ (c : Int) := by omega
  have gg : goodB op (fA op l) (fB op l) (fM op l) = true := HG.out
  have se : ((strOf l7).toList == (strOf l7).toList) = true := by simp
  clear hs7 hr6 hr5 hr4 a0 a1 a2 a3 b0 b1 b2 b3 o7 r7 ha hb' hm k1 k2
  go_wp2_with fail
  go_region_held3 (fun W => W.cell? ⟨w4.heap.size, 0, none⟩ = some (.int .u8 op) ∧ W.cell? ⟨w4.heap.size, 1, none⟩ = some (.int .i64 (fA op l)) ∧ W.cell? ⟨w4.heap.size, 2, none⟩ = some (.int .i64 (fB op l)) ∧ W.cell? ⟨w4.heap.size, 3, none⟩ = some (.int .u64 (fM op l)) ∧
      W.cell? ⟨w5.heap.size, 0, none⟩ = some (.int .i64 op) ∧ W.cell? ⟨w5.heap.size, 1, none⟩ = some (.int .i64 (fA op l)) ∧ W.cell? ⟨w5.heap.size, 2, none⟩ = some (.int .i64 (fB op l)) ∧ W.cell? ⟨w5.heap.size, 3, none⟩ = some (.int .u64 (fM op l)) ∧
      (convert 27 9 (.slice A7 n7 c7)).run Try.prog W = .ok (.string (strOf l7)) W ∧ (convert 27 9 (.slice A (1 + wa op + wb op + wm op).toNat c)).run Try.prog W = .ok (.string (strOf l7)) W)
    (exact HS.out _ (by (repeat (first | with_reducible exact Ext.refl _ | with_reducible assumption | with_reducible apply Ext.drew | with_reducible apply Ext.drewN | with_reducible apply Ext.alloc | (with_reducible refine Ext.setCell ?_ (by simp <;> omega) _) | (with_reducible refine Ext.trans ?_ (by with_reducible assumption))))))
    (first
      | (go_at_call 19; (with_reducible refine (is_any op _ _ _ 0 0 0 0 _ i3).mono ?_); rintro e w8 ⟨rfl, he8⟩)
      | (go_at_call 20; (with_reducible refine (good_any op _ _ _ _).mono ?_); rintro e w9 ⟨rfl, he9⟩))
  all_goals (try go_wp2_with fail)
  all_goals (try go_ret)
  trace_state
  all_goals exact ⟨by simp, by (repeat (first | with_reducible exact Ext.refl _ | with_reducible assumption | with_reducible apply Ext.drew | with_reducible apply Ext.drewN | with_reducible apply Ext.alloc | (with_reducible refine Ext.setCell ?_ (by simp <;> omega) _) | (with_reducible refine Ext.trans ?_ (by with_reducible assumption))))⟩
end Go.Proofs.Ytiekicjloapepaa
