/- A part of the proof of a law of roundel: contracts of functions and lemmas, each true as it stands; no condition beyond those that its theorems state. -/
import Derived.Test.YtiekicjloapepaaH
namespace Go.Proofs.Ytiekicjloapepaa
set_option linter.unusedSimpArgs false
set_option linter.unusedVariables false
open Go.RowKit

abbrev c0 : Value := .agg #[.int .i64 0, .int .i64 0, .int .i64 0, .int .u64 0]

theorem rdec_0 (A : Option Addr) (c : Nat) (w : World) :
    Calls Try.prog 18 #[.slice A 0 c] w fun e w' => e = .returned (.tuple #[c0, .int .i64 0, .bool false]) ∧ Ext w w' := by
  go_enter Try.func18, Try.ntmps18
  go_wp2
  refine bodyPost_ret (v := .tuple #[c0, .int .i64 0, .bool false]) (by simp [results, Try.results18, go_sem]) rfl ⟨rfl, ?_⟩
  (repeat (first | with_reducible exact Ext.refl _ | with_reducible assumption | with_reducible apply Ext.drew | with_reducible apply Ext.drewN | with_reducible apply Ext.alloc | (with_reducible refine Ext.setCell ?_ (by simp <;> omega) _) | (with_reducible refine Ext.trans ?_ (by with_reducible assumption))))

theorem rdec_bad (A : Option Addr) (n c : Nat) (l : List Int) (hn0 : 0 < n) (hn : n ≤ 1000) (w : World) (hr : Rd w A n l) (op : Nat) (hop : l.getD 0 0 = (op : Int)) (hbad : isOp op = false) :
    Calls Try.prog 18 #[.slice A n c] w fun e w' => e = .returned (.tuple #[c0, .int .i64 1, .bool false]) ∧ Ext w w' := by
  obtain ⟨b, o, rfl, hbw, hcell⟩ := hr.2.2 hn0
  have h0 := hcell 0 hn0
  rw [hop] at h0
  simp only [Nat.add_zero] at h0
  have hop255 : op ≤ 255 := by
    have := hr.2.1 (l.getD 0 0) (by simp [List.getD, List.getElem?_eq_getElem (show 0 < l.length by rw [hr.1]; omega)])
    omega
  clear hcell hop hr
  have hn0' : ((n : Int) == 0) = false := by simp; omega
  have hb2 : ¬ (1 ≤ op ∧ op ≤ 19) := by simpa [isOp] using hbad
  by_cases h1 : op = 0
  · subst h1
    go_enter Try.func18, Try.ntmps18
    go_wp2
    refine bodyPost_ret (v := .tuple #[c0, .int .i64 1, .bool false]) (by simp [results, Try.results18, go_sem, *]) rfl ⟨rfl, ?_⟩
    (repeat (first | with_reducible exact Ext.refl _ | with_reducible assumption | with_reducible apply Ext.drew | with_reducible apply Ext.drewN | with_reducible apply Ext.alloc | (with_reducible refine Ext.setCell ?_ (by simp <;> omega) _) | (with_reducible refine Ext.trans ?_ (by with_reducible assumption))))
  · have h2 : 20 ≤ op := by omega
    clear hb2 h1
    go_enter Try.func18, Try.ntmps18
    go_wp2
    refine bodyPost_ret (v := .tuple #[c0, .int .i64 1, .bool false]) (by simp [results, Try.results18, go_sem, *]) rfl ⟨rfl, ?_⟩
    (repeat (first | with_reducible exact Ext.refl _ | with_reducible assumption | with_reducible apply Ext.drew | with_reducible apply Ext.drewN | with_reducible apply Ext.alloc | (with_reducible refine Ext.setCell ?_ (by simp <;> omega) _) | (with_reducible refine Ext.trans ?_ (by with_reducible assumption))))

theorem rdec_short (A : Option Addr) (n c : Nat) (l : List Int) (hn0 : 0 < n) (hn : n ≤ 1000) (w : World) (hr : Rd w A n l) (op : Nat) (hop : l.getD 0 0 = (op : Int)) (hgood : isOp op = true) (hs : (n : Int) < 1 + wa op + wb op + wm op) :
    Calls Try.prog 18 #[.slice A n c] w fun e w' => e = .returned (.tuple #[c0, .int .i64 n, .bool false]) ∧ Ext w w' := by
  obtain ⟨b, o, rfl, hbw, hcell⟩ := hr.2.2 hn0
  have h0 := hcell 0 hn0
  rw [hop] at h0
  simp only [Nat.add_zero] at h0
  clear hcell hop hr
  have hn0' : ((n : Int) == 0) = false := by simp; omega
  have hg : 1 ≤ op ∧ op ≤ 19 := by simpa [isOp] using hgood
  have hg1 := hg.1
  have hg2 := hg.2
  clear hg
  have ha := wa_in op
  have hb' := wb_in op
  have hm := wm_in op
  go_enter Try.func18, Try.ntmps18
  go_wp2_with (first | (go_at_call 13; refine (widths_any _ hgood _).mono ?_; rintro e w2 ⟨rfl, rfl⟩))
  refine bodyPost_ret (v := .tuple #[c0, .int .i64 n, .bool false]) (by simp [results, Try.results18, go_sem, *]) rfl ⟨rfl, ?_⟩
  (repeat (first | with_reducible exact Ext.refl _ | with_reducible assumption | with_reducible apply Ext.drew | with_reducible apply Ext.drewN | with_reducible apply Ext.alloc | (with_reducible refine Ext.setCell ?_ (by simp <;> omega) _) | (with_reducible refine Ext.trans ?_ (by with_reducible assumption))))

theorem slice_u8 (A : Option Addr) (n c : Nat) (l : List Int) (lo hi : Int) (h0 : 0 ≤ lo) (h1 : lo ≤ hi) (h2 : hi ≤ n) (hnc : n ≤ c) (w : World) (hr : Rd w A n l) :
    ∃ A' c', (∀ w, (Instr.slice 27 (.slice A n c) (some (.int .i64 lo)) (some (.int .i64 hi)) none).run Try.prog w = .ok (.slice A' (hi.toNat - lo.toNat) c') w) ∧
      Rd w A' (hi.toNat - lo.toNat) ((l.drop lo.toNat).take (hi.toNat - lo.toNat)) := by
  refine ⟨if c = lo.toNat then A else A.map (·.add lo.toNat), c - lo.toNat, fun w => ?_, ?_⟩
  · rw [run_slice_lh (P := Try.prog) (w := w) 27 A n c Try.underlying27 .i64 .i64 lo hi h0 h1 (by omega)]
    have hz : (sizeOf (Try.prog.elem 27)).run Try.prog w = .ok 1 w := by kernel_rfl
    rw [hz]
    simp [Result.andThen, sliced]
  · exact (hr.cut lo.toNat (by omega) hnc).pre _ (by omega)

set_option maxHeartbeats 1000000 in
theorem rdec_ok (A : Option Addr) (n c : Nat) (l : List Int) (hn0 : 0 < n) (hn : n ≤ 1000) (hnc : n ≤ c) (hc63 : c ≤ 9223372036854775807) (w : World) (hr : Rd w A n l) (op : Nat) (hop : l.getD 0 0 = (op : Int)) (hgood : isOp op = true) (hs : 1 + wa op + wb op + wm op ≤ n) :
    Calls Try.prog 18 #[.slice A n c] w fun e w' => e = .returned (.tuple #[.agg #[.int .i64 op, .int .i64 (fA op l), .int .i64 (fB op l), .int .u64 (fM op l)], .int .i64 (1 + wa op + wb op + wm op), .bool true]) ∧ Ext w w' := by
  have ha := wa_in op
  have hb' := wb_in op
  have hm := wm_in op
  obtain ⟨A1, c1, s1, r1⟩ := slice_u8 A n c l 1 (1 + wa op) (by omega) (by omega) (by omega) hnc w hr
  obtain ⟨A2, c2, s2, r2⟩ := slice_u8 A n c l (1 + wa op) (1 + wa op + wb op) (by omega) (by omega) (by omega) hnc w hr
  obtain ⟨A3, c3, s3, r3⟩ := slice_u8 A n c l (1 + wa op + wb op) (1 + wa op + wb op + wm op) (by omega) (by omega) (by omega) hnc w hr
  obtain ⟨m1, d1⟩ : ∃ m1, m1 = (1 + wa op).toNat - (1 : Int).toNat := ⟨_, rfl⟩
  obtain ⟨m2, d2⟩ : ∃ m2, m2 = (1 + wa op + wb op).toNat - (1 + wa op).toNat := ⟨_, rfl⟩
  obtain ⟨m3, d3⟩ : ∃ m3, m3 = (1 + wa op + wb op + wm op).toNat - (1 + wa op + wb op).toNat := ⟨_, rfl⟩
  rw [← d1] at s1 r1
  rw [← d2] at s2 r2
  rw [← d3] at s3 r3
  have e1 : m1 = (wa op).toNat := by omega
  have e2 : m2 = (wb op).toNat := by omega
  have e3 : m3 = (wm op).toNat := by omega
  obtain ⟨x1, hx1⟩ : ∃ x, x = (l.drop (1 : Int).toNat).take m1 := ⟨_, rfl⟩
  obtain ⟨x2, hx2⟩ : ∃ x, x = (l.drop (1 + wa op).toNat).take m2 := ⟨_, rfl⟩
  obtain ⟨x3, hx3⟩ : ∃ x, x = (l.drop (1 + wa op + wb op).toNat).take m3 := ⟨_, rfl⟩
  rw [← hx1] at r1
  rw [← hx2] at r2
  rw [← hx3] at r3
  have f1 : beNum x1 = fA op l := by rw [hx1, e1]; rfl
  have f2 : beNum x2 = fB op l := by
    rw [hx2, e2, show (1 + wa op).toNat = 1 + (wa op).toNat by omega]
    unfold fB
    rw [List.drop_drop]
  have f3 : beNum x3 = fM op l := by
    rw [hx3, e3, show (1 + wa op + wb op).toNat = 1 + (wa op).toNat + (wb op).toNat by omega]
    unfold fM
    rw [List.drop_drop, List.drop_drop, Nat.add_assoc]
  have b1 := beNum_bound m1 x1 r1.1 r1.2.1
  have b2 := beNum_bound m2 x2 r2.1 r2.2.1
  have p1 := pow_le (k := m1) (by omega)
  have p2 := pow_le (k := m2) (by omega)
  rw [← f1, ← f2, ← f3]
  obtain ⟨y1, hy1⟩ : ∃ y, y = beNum x1 := ⟨_, rfl⟩
  obtain ⟨y2, hy2⟩ : ∃ y, y = beNum x2 := ⟨_, rfl⟩
  have hrk := Lib.hid hr
  obtain ⟨b, o, rfl, hbw, hcell⟩ := hr.2.2 hn0
  have h0 := hcell 0 hn0
  rw [hop] at h0
  simp only [Nat.add_zero] at h0
  have hn0' : ((n : Int) == 0) = false := by simp; omega
  have hg : 1 ≤ op ∧ op ≤ 19 := by simpa [isOp] using hgood
  have hg1 := hg.1
  have hg2 := hg.2
  have w1 : IntKind.i64.wrap (beNum x1) = beNum x1 := IntWalk.i64_in _ (by omega)
  have w2 : IntKind.i64.wrap (beNum x2) = beNum x2 := IntWalk.i64_in _ (by omega)
  have l1 : m1 ≤ 8 := by omega
  have l2 : m2 ≤ 8 := by omega
  have l3 : m3 ≤ 8 := by omega
  have ha0 : 0 ≤ wa op := by omega
  have ha4 : wa op ≤ 4 := by omega
  have hb0 : 0 ≤ wb op := by omega
  have hb4 : wb op ≤ 4 := by omega
  have hm0 : 0 ≤ wm op := by omega
  have hm8 : wm op ≤ 8 := by omega
  have v1 : IntKind.i64.wrap (1 + wa op) = 1 + wa op := IntWalk.i64_in _ (by omega)
  have v2 : IntKind.i64.wrap (1 + wa op + wb op) = 1 + wa op + wb op := IntWalk.i64_in _ (by omega)
  have v3 : IntKind.i64.wrap (1 + wa op + wb op + wm op) = 1 + wa op + wb op + wm op := IntWalk.i64_in _ (by omega)
  have R1 : ∀ W, Ext w W → Rd W A1 m1 x1 := fun W h => r1.ext h
  have R2 : ∀ W, Ext w W → Rd W A2 m2 x2 := fun W h => r2.ext h
  have R3 : ∀ W, Ext w W → Rd W A3 m3 x3 := fun W h => r3.ext h
  clear r1 r2 r3
  clear hcell hop hr hg hx1 hx2 hx3 f1 f2 f3 b1 b2 p1 p2 d1 d2 d3 e1 e2 e3 hy1 hy2 ha hb' hm
  go_enter Try.func18, Try.ntmps18
  go_wp2_with (first | (go_at_call 13; refine (widths_any _ hgood _).mono ?_; rintro e w2 ⟨rfl, rfl⟩))
  go_region_held3 (fun _ => True) (exact trivial)
    (first
      | (go_at_call 27; (with_reducible refine (read_any A1 m1 c1 x1 l1 _ (R1 _ ?_)).mono ?_); (repeat (first | with_reducible exact Ext.refl _ | with_reducible assumption | with_reducible apply Ext.drew | with_reducible apply Ext.drewN | with_reducible apply Ext.alloc | (with_reducible refine Ext.setCell ?_ (by simp <;> omega) _) | (with_reducible refine Ext.trans ?_ (by with_reducible assumption)))); rintro e w2 ⟨rfl, rfl⟩)
      | (go_at_call 27; (with_reducible refine (read_any A2 m2 c2 x2 l2 _ (R2 _ ?_)).mono ?_); (repeat (first | with_reducible exact Ext.refl _ | with_reducible assumption | with_reducible apply Ext.drew | with_reducible apply Ext.drewN | with_reducible apply Ext.alloc | (with_reducible refine Ext.setCell ?_ (by simp <;> omega) _) | (with_reducible refine Ext.trans ?_ (by with_reducible assumption)))); rintro e w2 ⟨rfl, rfl⟩)
      | (go_at_call 27; (with_reducible refine (read_any A3 m3 c3 x3 l3 _ (R3 _ ?_)).mono ?_); (repeat (first | with_reducible exact Ext.refl _ | with_reducible assumption | with_reducible apply Ext.drew | with_reducible apply Ext.drewN | with_reducible apply Ext.alloc | (with_reducible refine Ext.setCell ?_ (by simp <;> omega) _) | (with_reducible refine Ext.trans ?_ (by with_reducible assumption)))); rintro e w2 ⟨rfl, rfl⟩))
  go_wp2
  refine bodyPost_ret (v := .tuple #[.agg #[.int .i64 op, .int .i64 (beNum x1), .int .i64 (beNum x2), .int .u64 (beNum x3)], .int .i64 (1 + wa op + wb op + wm op), .bool true]) (by simp [results, Try.results18, go_sem]) rfl ⟨rfl, ?_⟩
  (repeat (first | with_reducible exact Ext.refl _ | with_reducible assumption | with_reducible apply Ext.drew | with_reducible apply Ext.drewN | with_reducible apply Ext.alloc | (with_reducible refine Ext.setCell ?_ (by simp <;> omega) _) | (with_reducible refine Ext.trans ?_ (by with_reducible assumption))))
end Go.Proofs.Ytiekicjloapepaa
