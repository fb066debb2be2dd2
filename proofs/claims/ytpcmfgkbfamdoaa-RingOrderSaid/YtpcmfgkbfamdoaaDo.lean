/- A part of the proof of a law of roundel: contracts of functions and lemmas, each true as it stands; no condition beyond those that its theorems state. -/
import Derived.Test.YtpcmfgkbfamdoaaRBehind
import Derived.Test.YtpcmfgkbfamdoaaN
namespace Go.Proofs.Ytpcmfgkbfamdoaa
set_option linter.unusedSimpArgs false
set_option linter.unusedVariables false
open Go.RowKit

section
variable {B rb lb mb N M : Nat} {rows : List (List Nat)}
theorem Rr.ge {W : World} (h : Rr W B rb lb mb N M rows) : B ≤ lb ∧ B ≤ mb ∧ lb < W.heap.size ∧ mb < W.heap.size := h.elim fun _ h => ⟨h.1.ge.2.1, h.1.ge.2.2, h.1.lt.2.1, h.1.lt.2.2⟩
theorem Rr.small {W : World} (h : Rr W B rb lb mb N M rows) : rows.length = M ∧ rows.length ≤ 64 ∧ ∀ l, (rowAt rows l).length ≤ 64 := by
  obtain ⟨g, Hg, L⟩ := h
  refine ⟨L.len, by rw [L.len]; exact Hg.sm.2, fun l => ?_⟩
  by_cases hl : l < M
  · exact Nat.le_trans (L.len_le hl) Hg.sm.1
  · rw [rowAt_out (by rw [L.len]; omega)]
    simp
theorem Rr.nodup {W : World} (h : Rr W B rb lb mb N M rows) : rows.flatten.Nodup ∧ ∀ x ∈ rows.flatten, x < N := h.elim fun _ h => ⟨h.2.nodup, h.2.lt⟩
/-- What a call on rings leaves, beside the caller's world. -/
theorem Rc.ext {w W W' : World} (e : Ext w W) (k : Rc lb mb W W') (h1 : w.heap.size ≤ lb) (h2 : w.heap.size ≤ mb) : Ext w W' :=
  e.step (k.below e.sz h1 h2) (Nat.le_refl _)
end

set_option maxRecDepth 100000 in
set_option maxHeartbeats 1600000 in
theorem awake_any (w : World) : Calls Try.prog 7 #[] w fun e w' => e = .returned (.bool true) ∧ Ext w w' := by
  go_enter Try.func7, Try.ntmps7
  go_wp2_with fail
  refine (New_ok 9 2 (by omega) (by omega) (by omega) (by omega) w).mono ?_
  rintro e w1 ⟨rb, lb, mb, rfl, R1, e1⟩
  obtain ⟨g1, g2, -, -⟩ := R1.ge
  go_wp2_with fail
  refine (Push_any 0 5 w1 R1).mono ?_
  rintro e w2 ⟨he, R2, C2⟩
  rw [show pushS 9 (List.replicate 2 []) 0 5 false = ([[5], []], 0) by decide] at he R2
  dsimp only at he
  subst he
  have e2 := Rc.ext e1 C2 g1 g2
  go_wp2_with fail
  refine (Lead_any 0 2 w2 R2).mono ?_
  rintro e w3 ⟨he, R3, C3⟩
  rw [show pushS 9 [[5], []] 0 2 true = ([[2, 5], []], 0) by decide] at he R3
  dsimp only at he
  subst he
  have e3 := Rc.ext e2 C3 g1 g2
  go_wp2_with fail
  refine (Behind_any 2 7 w3 R3).mono ?_
  rintro e w4 ⟨he, R4, C4⟩
  rw [show behindS 9 [[2, 5], []] 2 7 = ([[2, 7, 5], []], 0) by decide] at he R4
  dsimp only at he
  subst he
  have e4 := Rc.ext e3 C4 g1 g2
  go_wp2_with fail
  refine (Next_any 2 w4 R4).mono ?_
  rintro e z1 ⟨he, hz1⟩
  have hz2 := hz1.symm; clear hz1; subst hz2
  rw [show nextS [[2, 7, 5], []] 2 = 7 by decide] at he
  subst he
  go_wp2_with fail
  refine (Next_any 7 w4 R4).mono ?_
  rintro e z1 ⟨he, hz1⟩
  have hz2 := hz1.symm; clear hz1; subst hz2
  rw [show nextS [[2, 7, 5], []] 7 = 5 by decide] at he
  subst he
  go_wp2_with fail
  refine (Next_any 5 w4 R4).mono ?_
  rintro e z1 ⟨he, hz1⟩
  have hz2 := hz1.symm; clear hz1; subst hz2
  rw [show nextS [[2, 7, 5], []] 5 = -1 by decide] at he
  subst he
  go_wp2_with fail
  go_ret
  exact ⟨rfl, e4⟩

section
variable (W : World) (a b c d : Array Value) (ta tb tc td : TypeId) (i : Nat)
theorem four1 : ((((W.alloc (.cells a ta)).alloc (.cells b tb)).alloc (.cells c tc)).alloc (.cells d td)).cell? ⟨W.heap.size, i, none⟩ = a[i]? := by
  rw [World.cell?_alloc_past _ _ _ (by simp <;> omega), three1]
theorem four2 : ((((W.alloc (.cells a ta)).alloc (.cells b tb)).alloc (.cells c tc)).alloc (.cells d td)).cell? ⟨W.heap.size + 1, i, none⟩ = b[i]? := by
  rw [World.cell?_alloc_past _ _ _ (by simp <;> omega), three2]
theorem four3 : ((((W.alloc (.cells a ta)).alloc (.cells b tb)).alloc (.cells c tc)).alloc (.cells d td)).cell? ⟨W.heap.size + 1 + 1, i, none⟩ = c[i]? := by
  rw [World.cell?_alloc_past _ _ _ (by simp <;> omega), al3]
theorem four4 : ((((W.alloc (.cells a ta)).alloc (.cells b tb)).alloc (.cells c tc)).alloc (.cells d td)).cell? ⟨W.heap.size + 1 + 1 + 1, i, none⟩ = d[i]? := by
  have z := World.cell?_alloc_new (((W.alloc (.cells a ta)).alloc (.cells b tb)).alloc (.cells c tc)) d td i
  rwa [show (((W.alloc (.cells a ta)).alloc (.cells b tb)).alloc (.cells c tc)).heap.size = W.heap.size + 1 + 1 + 1 by simp] at z
theorem four3z : ((((W.alloc (.cells a ta)).alloc (.cells b tb)).alloc (.cells c tc)).alloc (.cells d td)).frozen? ⟨W.heap.size + 1 + 1, i, none⟩ = false := by
  rw [World.frozen?_alloc_past _ _ _ (by simp <;> omega)]
  have z := World.frozen?_alloc_new ((W.alloc (.cells a ta)).alloc (.cells b tb)) c tc i
  rwa [show ((W.alloc (.cells a ta)).alloc (.cells b tb)).heap.size = W.heap.size + 1 + 1 by simp] at z
theorem four4z : ((((W.alloc (.cells a ta)).alloc (.cells b tb)).alloc (.cells c tc)).alloc (.cells d td)).frozen? ⟨W.heap.size + 1 + 1 + 1, i, none⟩ = false := by
  have z := World.frozen?_alloc_new (((W.alloc (.cells a ta)).alloc (.cells b tb)).alloc (.cells c tc)) d td i
  rwa [show (((W.alloc (.cells a ta)).alloc (.cells b tb)).alloc (.cells c tc)).heap.size = W.heap.size + 1 + 1 + 1 by simp] at z
end
theorem Rr.put {W : World} {B rb lb mb N M : Nat} {rows : List (List Nat)} (h : Rr W B rb lb mb N M rows) {x o : Nat} {v : Value} (h1 : x ≠ lb) (h2 : x ≠ mb) (h3 : x ≠ rb) : Rr (W.setCell ⟨x, o, none⟩ v) B rb lb mb N M rows :=
  h.elim fun g h => ⟨g, h.1.kept (by simp) (Below.heap_setCell _ _ _ _ (Ne.symm h3)) (Below.heap_setCell _ _ _ _ (Ne.symm h1)) (Below.heap_setCell _ _ _ _ (Ne.symm h2)), h.2⟩
theorem Rc.putNew {lb mb : Nat} {W W' : World} (h : Rc lb mb W W') {p : Addr} (hp : W.heap.size ≤ p.block) (v : Value) : Rc lb mb W (W'.setCell p v) :=
  ⟨h.os, h.tape, h.output, by have := h.size; simpa using this, fun x hx h1 h2 => (Below.heap_setCell W' p v x (by omega)).trans (h.blk x hx h1 h2)⟩

/-- An act of the law's. -/
def actS (N : Nat) (rows : List (List Nat)) (k a n : Int) : List (List Nat) × Int :=
  if k.tmod 4 = 0 then pushS N rows a n false else if k.tmod 4 = 1 then pushS N rows a n true else if k.tmod 4 = 2 then behindS N rows a n else dropS N rows n

set_option maxRecDepth 100000 in
set_option maxHeartbeats 1600000 in
theorem do_any {B rb lb mb N M : Nat} {rows : List (List Nat)} (P : Nat → Prop) (v : Value) (k a n : Int) (hk0 : 0 ≤ k) (hk1 : k ≤ 255) (W : World) (h1 : ¬ P lb) (h2 : ¬ P mb) (hL : ∀ x, W.heap.size ≤ x → P x) (HR : Rr W B rb lb mb N M rows) (H : RefAt W P v N rows) :
    Calls Try.prog 10 #[.pointer (some ⟨rb, 0, none⟩), v, .agg #[.int .u8 k, .int .i64 a, .int .i64 n]] W fun e W' => ∃ v', e = .returned (.tuple #[v', .bool true]) ∧ Rr W' B rb lb mb N M (actS N rows k a n).1 ∧ RefAt W' P v' N (actS N rows k a n).1 ∧ Rc lb mb W W' := by
  have HR0 := Lib.hid HR
  have H0 := Lib.hid H
  have HW := Lib.hid (And.intro h1 (And.intro h2 hL))
  obtain ⟨A, m, c, rfl, -⟩ := H
  have hk : k.tmod 4 = 0 ∨ k.tmod 4 = 1 ∨ k.tmod 4 = 2 ∨ k.tmod 4 = 3 := by
    obtain ⟨q, rfl⟩ := Int.eq_ofNat_of_zero_le hk0
    have : (q : Int).tmod 4 = ((q % 4 : Nat) : Int) := rfl
    rw [this]
    omega
  have E1 : Ext W ((((W.alloc (.cells #[.int .i64 (N : Int), .slice A m c] 30)).alloc (.cells #[.int .u8 k, .int .i64 a, .int .i64 n] 34)).alloc (.cells #[.int .i64 0, .slice none 0 0] 30)).alloc (.cells #[.int .i64 (N : Int), .slice A m c] 30)) := ((((Ext.refl W).alloc _).alloc _).alloc _).alloc _
  rcases hk with hk | hk | hk | hk
  · have es : actS N rows k a n = pushS N rows a n false := by unfold actS; rw [if_pos hk]
    rw [es]
    clear es
    go_enter Try.func10, Try.ntmps10
    go_wp2_with fail
    refine calls_abs (fun Wx => Ext W Wx ∧ W.heap.size + 1 + 1 + 1 < Wx.heap.size ∧ (∀ i, Wx.cell? ⟨W.heap.size, i, none⟩ = (#[.int .i64 (N : Int), .slice A m c] : Array Value)[i]?) ∧ (∀ i, Wx.cell? ⟨W.heap.size + 1, i, none⟩ = (#[.int .u8 k, .int .i64 a, .int .i64 n] : Array Value)[i]?) ∧ (∀ i, Wx.cell? ⟨W.heap.size + 1 + 1, i, none⟩ = (#[.int .i64 0, .slice none 0 0] : Array Value)[i]?) ∧ (∀ i, Wx.cell? ⟨W.heap.size + 1 + 1 + 1, i, none⟩ = (#[.int .i64 (N : Int), .slice A m c] : Array Value)[i]?) ∧ (∀ i, Wx.frozen? ⟨W.heap.size + 1 + 1, i, none⟩ = false) ∧ ∀ i, Wx.frozen? ⟨W.heap.size + 1 + 1 + 1, i, none⟩ = false)
      ⟨E1, by simp, fun i => four1 .., fun i => four2 .., fun i => four3 .., fun i => four4 .., fun i => four3z .., fun i => four4z ..⟩ ?_
    rintro wx ⟨ex, xs, c1, c2, c3, c4, f3, f4⟩
    obtain ⟨p1, p2, p3⟩ := HW.out
    have o1 := HR0.out.ge.2.2.1
    have o2 := HR0.out.ge.2.2.2
    refine (Push_any a n wx (HR0.out.kept ex)).mono ?_
    rintro e w1 ⟨rfl, R1, C1⟩
    have K0 : ∀ x, W.heap.size ≤ x → x < wx.heap.size → w1.heap[x]? = wx.heap[x]? := fun x hx hlt => C1.blk x hlt (by omega) (by omega)
    have xs1 := Nat.lt_of_lt_of_le xs C1.size
    have g10 : w1.cell? ⟨W.heap.size, 0, none⟩ = some (.int .i64 (N : Int)) := (World.cell?_of_block (a := ⟨W.heap.size, 0, none⟩) (K0 W.heap.size (by omega) (by omega))).trans (c1 0)
    have g11 : w1.cell? ⟨W.heap.size, 1, none⟩ = some (.slice A m c) := (World.cell?_of_block (a := ⟨W.heap.size, 1, none⟩) (K0 W.heap.size (by omega) (by omega))).trans (c1 1)
    have g21 : w1.cell? ⟨W.heap.size + 1, 1, none⟩ = some (.int .i64 a) := (World.cell?_of_block (a := ⟨W.heap.size + 1, 1, none⟩) (K0 (W.heap.size + 1) (by omega) (by omega))).trans (c2 1)
    have g22 : w1.cell? ⟨W.heap.size + 1, 2, none⟩ = some (.int .i64 n) := (World.cell?_of_block (a := ⟨W.heap.size + 1, 2, none⟩) (K0 (W.heap.size + 1) (by omega) (by omega))).trans (c2 2)
    have g30 : w1.cell? ⟨W.heap.size + 1 + 1, 0, none⟩ = some (.int .i64 0) := (World.cell?_of_block (a := ⟨W.heap.size + 1 + 1, 0, none⟩) (K0 (W.heap.size + 1 + 1) (by omega) (by omega))).trans (c3 0)
    have g31 : w1.cell? ⟨W.heap.size + 1 + 1, 1, none⟩ = some (.slice none 0 0) := (World.cell?_of_block (a := ⟨W.heap.size + 1 + 1, 1, none⟩) (K0 (W.heap.size + 1 + 1) (by omega) (by omega))).trans (c3 1)
    have g40 : w1.cell? ⟨W.heap.size + 1 + 1 + 1, 0, none⟩ = some (.int .i64 (N : Int)) := (World.cell?_of_block (a := ⟨W.heap.size + 1 + 1 + 1, 0, none⟩) (K0 (W.heap.size + 1 + 1 + 1) (by omega) xs)).trans (c4 0)
    have g41 : w1.cell? ⟨W.heap.size + 1 + 1 + 1, 1, none⟩ = some (.slice A m c) := (World.cell?_of_block (a := ⟨W.heap.size + 1 + 1 + 1, 1, none⟩) (K0 (W.heap.size + 1 + 1 + 1) (by omega) xs)).trans (c4 1)
    have h3 : ∀ i, w1.frozen? ⟨W.heap.size + 1 + 1, i, none⟩ = false := fun i => (World.frozen?_of_block (a := ⟨W.heap.size + 1 + 1, i, none⟩) (K0 (W.heap.size + 1 + 1) (by omega) (by omega))).trans (f3 i)
    have h4 : ∀ i, w1.frozen? ⟨W.heap.size + 1 + 1 + 1, i, none⟩ = false := fun i => (World.frozen?_of_block (a := ⟨W.heap.size + 1 + 1 + 1, i, none⟩) (K0 (W.heap.size + 1 + 1 + 1) (by omega) xs)).trans (f4 i)
    have F1 : RefAt w1 (fun x => P x ∧ x ≠ W.heap.size + 1 + 1 ∧ x ≠ W.heap.size + 1 + 1 + 1) (.agg #[.int .i64 (N : Int), .slice A m c]) N rows := ((H0.out.mono (fun y hy hlt => ⟨hy, by omega, by omega⟩)).ext ex).rc C1 (fun h => p1 h.1) (fun h => p2 h.1)
    obtain ⟨sm1, sm2, sm3⟩ := HR0.out.small
    have rbne : rb < W.heap.size := HR0.out.elim fun g h => h.1.lt.1
    clear c1 c2 c3 c4 f3 f4 K0
    go_wp2_with fail
    refine (RPush_any _ N rows _ a n false sm2 sm3 w1 (fun y hy => ⟨p3 y (by omega), by omega, by omega⟩) F1).mono ?_
    rintro e w2 ⟨v2, rfl, F2, e2⟩
    obtain ⟨A4, n4, c5, rfl, -⟩ := id F2
    have j30 := (e2.cell (p := ⟨W.heap.size + 1 + 1, 0, none⟩) (show W.heap.size + 1 + 1 < _ by omega)).trans g30
    have j31 := (e2.cell (p := ⟨W.heap.size + 1 + 1, 1, none⟩) (show W.heap.size + 1 + 1 < _ by omega)).trans g31
    have j40 := (e2.cell (p := ⟨W.heap.size + 1 + 1 + 1, 0, none⟩) xs1).trans g40
    have j41 := (e2.cell (p := ⟨W.heap.size + 1 + 1 + 1, 1, none⟩) xs1).trans g41
    have h3' := fun i => (Below.frozen (p := ⟨W.heap.size + 1 + 1, i, none⟩) e2 (show W.heap.size + 1 + 1 < _ by omega)).trans (h3 i)
    have h4' := fun i => (Below.frozen (p := ⟨W.heap.size + 1 + 1 + 1, i, none⟩) e2 xs1).trans (h4 i)
    have CC := ((Rc.of_ext lb mb ex).trans C1).trans (Rc.of_ext lb mb e2)
    have RR := R1.kept e2
    clear g10 g11 g21 g22 g30 g31 g40 g41 h3 h4
    go_wp2_with fail
    (try simp only [Exit.inBlock, Exit.then])
    refine bodyPost_ret (v := .tuple #[.agg #[.int .i64 (N : Int), .slice A4 n4 c5], .bool true]) (by rw [results_cell_tmp rfl]; go_simp) rfl ?_
    have tl : W.heap.size + 1 + 1 ≠ lb ∧ W.heap.size + 1 + 1 ≠ mb ∧ W.heap.size + 1 + 1 ≠ rb := ⟨by omega, by omega, by omega⟩
    have tm : W.heap.size + 1 + 1 + 1 ≠ lb ∧ W.heap.size + 1 + 1 + 1 ≠ mb ∧ W.heap.size + 1 + 1 + 1 ≠ rb := ⟨by omega, by omega, by omega⟩
    refine ⟨_, rfl, (((RR.put tm.1 tm.2.1 tm.2.2).put tm.1 tm.2.1 tm.2.2).put tl.1 tl.2.1 tl.2.2).put tl.1 tl.2.1 tl.2.2, ?_, (((CC.putNew (by simp <;> omega) _).putNew (by simp <;> omega) _).putNew (by simp <;> omega) _).putNew (by simp <;> omega) _⟩
    refine (F2.kept (fun y hy hlt => ?_)).mono (fun y hy _ => hy.1)
    rw [Below.heap_setCell _ _ _ _ hy.2.1, Below.heap_setCell _ _ _ _ hy.2.1, Below.heap_setCell _ _ _ _ hy.2.2, Below.heap_setCell _ _ _ _ hy.2.2]
  · have es : actS N rows k a n = pushS N rows a n true := by unfold actS; rw [if_neg (by omega), if_pos hk]
    rw [es]
    clear es
    go_enter Try.func10, Try.ntmps10
    go_wp2_with fail
    refine calls_abs (fun Wx => Ext W Wx ∧ W.heap.size + 1 + 1 + 1 < Wx.heap.size ∧ (∀ i, Wx.cell? ⟨W.heap.size, i, none⟩ = (#[.int .i64 (N : Int), .slice A m c] : Array Value)[i]?) ∧ (∀ i, Wx.cell? ⟨W.heap.size + 1, i, none⟩ = (#[.int .u8 k, .int .i64 a, .int .i64 n] : Array Value)[i]?) ∧ (∀ i, Wx.cell? ⟨W.heap.size + 1 + 1, i, none⟩ = (#[.int .i64 0, .slice none 0 0] : Array Value)[i]?) ∧ (∀ i, Wx.cell? ⟨W.heap.size + 1 + 1 + 1, i, none⟩ = (#[.int .i64 (N : Int), .slice A m c] : Array Value)[i]?) ∧ (∀ i, Wx.frozen? ⟨W.heap.size + 1 + 1, i, none⟩ = false) ∧ ∀ i, Wx.frozen? ⟨W.heap.size + 1 + 1 + 1, i, none⟩ = false)
      ⟨E1, by simp, fun i => four1 .., fun i => four2 .., fun i => four3 .., fun i => four4 .., fun i => four3z .., fun i => four4z ..⟩ ?_
    rintro wx ⟨ex, xs, c1, c2, c3, c4, f3, f4⟩
    obtain ⟨p1, p2, p3⟩ := HW.out
    have o1 := HR0.out.ge.2.2.1
    have o2 := HR0.out.ge.2.2.2
    refine (Lead_any a n wx (HR0.out.kept ex)).mono ?_
    rintro e w1 ⟨rfl, R1, C1⟩
    have K0 : ∀ x, W.heap.size ≤ x → x < wx.heap.size → w1.heap[x]? = wx.heap[x]? := fun x hx hlt => C1.blk x hlt (by omega) (by omega)
    have xs1 := Nat.lt_of_lt_of_le xs C1.size
    have g10 : w1.cell? ⟨W.heap.size, 0, none⟩ = some (.int .i64 (N : Int)) := (World.cell?_of_block (a := ⟨W.heap.size, 0, none⟩) (K0 W.heap.size (by omega) (by omega))).trans (c1 0)
    have g11 : w1.cell? ⟨W.heap.size, 1, none⟩ = some (.slice A m c) := (World.cell?_of_block (a := ⟨W.heap.size, 1, none⟩) (K0 W.heap.size (by omega) (by omega))).trans (c1 1)
    have g21 : w1.cell? ⟨W.heap.size + 1, 1, none⟩ = some (.int .i64 a) := (World.cell?_of_block (a := ⟨W.heap.size + 1, 1, none⟩) (K0 (W.heap.size + 1) (by omega) (by omega))).trans (c2 1)
    have g22 : w1.cell? ⟨W.heap.size + 1, 2, none⟩ = some (.int .i64 n) := (World.cell?_of_block (a := ⟨W.heap.size + 1, 2, none⟩) (K0 (W.heap.size + 1) (by omega) (by omega))).trans (c2 2)
    have g30 : w1.cell? ⟨W.heap.size + 1 + 1, 0, none⟩ = some (.int .i64 0) := (World.cell?_of_block (a := ⟨W.heap.size + 1 + 1, 0, none⟩) (K0 (W.heap.size + 1 + 1) (by omega) (by omega))).trans (c3 0)
    have g31 : w1.cell? ⟨W.heap.size + 1 + 1, 1, none⟩ = some (.slice none 0 0) := (World.cell?_of_block (a := ⟨W.heap.size + 1 + 1, 1, none⟩) (K0 (W.heap.size + 1 + 1) (by omega) (by omega))).trans (c3 1)
    have g40 : w1.cell? ⟨W.heap.size + 1 + 1 + 1, 0, none⟩ = some (.int .i64 (N : Int)) := (World.cell?_of_block (a := ⟨W.heap.size + 1 + 1 + 1, 0, none⟩) (K0 (W.heap.size + 1 + 1 + 1) (by omega) xs)).trans (c4 0)
    have g41 : w1.cell? ⟨W.heap.size + 1 + 1 + 1, 1, none⟩ = some (.slice A m c) := (World.cell?_of_block (a := ⟨W.heap.size + 1 + 1 + 1, 1, none⟩) (K0 (W.heap.size + 1 + 1 + 1) (by omega) xs)).trans (c4 1)
    have h3 : ∀ i, w1.frozen? ⟨W.heap.size + 1 + 1, i, none⟩ = false := fun i => (World.frozen?_of_block (a := ⟨W.heap.size + 1 + 1, i, none⟩) (K0 (W.heap.size + 1 + 1) (by omega) (by omega))).trans (f3 i)
    have h4 : ∀ i, w1.frozen? ⟨W.heap.size + 1 + 1 + 1, i, none⟩ = false := fun i => (World.frozen?_of_block (a := ⟨W.heap.size + 1 + 1 + 1, i, none⟩) (K0 (W.heap.size + 1 + 1 + 1) (by omega) xs)).trans (f4 i)
    have F1 : RefAt w1 (fun x => P x ∧ x ≠ W.heap.size + 1 + 1 ∧ x ≠ W.heap.size + 1 + 1 + 1) (.agg #[.int .i64 (N : Int), .slice A m c]) N rows := ((H0.out.mono (fun y hy hlt => ⟨hy, by omega, by omega⟩)).ext ex).rc C1 (fun h => p1 h.1) (fun h => p2 h.1)
    obtain ⟨sm1, sm2, sm3⟩ := HR0.out.small
    have rbne : rb < W.heap.size := HR0.out.elim fun g h => h.1.lt.1
    clear c1 c2 c3 c4 f3 f4 K0
    go_wp2_with fail
    refine (RPush_any _ N rows _ a n true sm2 sm3 w1 (fun y hy => ⟨p3 y (by omega), by omega, by omega⟩) F1).mono ?_
    rintro e w2 ⟨v2, rfl, F2, e2⟩
    obtain ⟨A4, n4, c5, rfl, -⟩ := id F2
    have j30 := (e2.cell (p := ⟨W.heap.size + 1 + 1, 0, none⟩) (show W.heap.size + 1 + 1 < _ by omega)).trans g30
    have j31 := (e2.cell (p := ⟨W.heap.size + 1 + 1, 1, none⟩) (show W.heap.size + 1 + 1 < _ by omega)).trans g31
    have j40 := (e2.cell (p := ⟨W.heap.size + 1 + 1 + 1, 0, none⟩) xs1).trans g40
    have j41 := (e2.cell (p := ⟨W.heap.size + 1 + 1 + 1, 1, none⟩) xs1).trans g41
    have h3' := fun i => (Below.frozen (p := ⟨W.heap.size + 1 + 1, i, none⟩) e2 (show W.heap.size + 1 + 1 < _ by omega)).trans (h3 i)
    have h4' := fun i => (Below.frozen (p := ⟨W.heap.size + 1 + 1 + 1, i, none⟩) e2 xs1).trans (h4 i)
    have CC := ((Rc.of_ext lb mb ex).trans C1).trans (Rc.of_ext lb mb e2)
    have RR := R1.kept e2
    clear g10 g11 g21 g22 g30 g31 g40 g41 h3 h4
    go_wp2_with fail
    (try simp only [Exit.inBlock, Exit.then])
    refine bodyPost_ret (v := .tuple #[.agg #[.int .i64 (N : Int), .slice A4 n4 c5], .bool true]) (by rw [results_cell_tmp rfl]; go_simp) rfl ?_
    have tl : W.heap.size + 1 + 1 ≠ lb ∧ W.heap.size + 1 + 1 ≠ mb ∧ W.heap.size + 1 + 1 ≠ rb := ⟨by omega, by omega, by omega⟩
    have tm : W.heap.size + 1 + 1 + 1 ≠ lb ∧ W.heap.size + 1 + 1 + 1 ≠ mb ∧ W.heap.size + 1 + 1 + 1 ≠ rb := ⟨by omega, by omega, by omega⟩
    refine ⟨_, rfl, (((RR.put tm.1 tm.2.1 tm.2.2).put tm.1 tm.2.1 tm.2.2).put tl.1 tl.2.1 tl.2.2).put tl.1 tl.2.1 tl.2.2, ?_, (((CC.putNew (by simp <;> omega) _).putNew (by simp <;> omega) _).putNew (by simp <;> omega) _).putNew (by simp <;> omega) _⟩
    refine (F2.kept (fun y hy hlt => ?_)).mono (fun y hy _ => hy.1)
    rw [Below.heap_setCell _ _ _ _ hy.2.1, Below.heap_setCell _ _ _ _ hy.2.1, Below.heap_setCell _ _ _ _ hy.2.2, Below.heap_setCell _ _ _ _ hy.2.2]
  · have es : actS N rows k a n = behindS N rows a n := by unfold actS; rw [if_neg (by omega), if_neg (by omega), if_pos hk]
    rw [es]
    clear es
    go_enter Try.func10, Try.ntmps10
    go_wp2_with fail
    refine calls_abs (fun Wx => Ext W Wx ∧ W.heap.size + 1 + 1 + 1 < Wx.heap.size ∧ (∀ i, Wx.cell? ⟨W.heap.size, i, none⟩ = (#[.int .i64 (N : Int), .slice A m c] : Array Value)[i]?) ∧ (∀ i, Wx.cell? ⟨W.heap.size + 1, i, none⟩ = (#[.int .u8 k, .int .i64 a, .int .i64 n] : Array Value)[i]?) ∧ (∀ i, Wx.cell? ⟨W.heap.size + 1 + 1, i, none⟩ = (#[.int .i64 0, .slice none 0 0] : Array Value)[i]?) ∧ (∀ i, Wx.cell? ⟨W.heap.size + 1 + 1 + 1, i, none⟩ = (#[.int .i64 (N : Int), .slice A m c] : Array Value)[i]?) ∧ (∀ i, Wx.frozen? ⟨W.heap.size + 1 + 1, i, none⟩ = false) ∧ ∀ i, Wx.frozen? ⟨W.heap.size + 1 + 1 + 1, i, none⟩ = false)
      ⟨E1, by simp, fun i => four1 .., fun i => four2 .., fun i => four3 .., fun i => four4 .., fun i => four3z .., fun i => four4z ..⟩ ?_
    rintro wx ⟨ex, xs, c1, c2, c3, c4, f3, f4⟩
    obtain ⟨p1, p2, p3⟩ := HW.out
    have o1 := HR0.out.ge.2.2.1
    have o2 := HR0.out.ge.2.2.2
    refine (Behind_any a n wx (HR0.out.kept ex)).mono ?_
    rintro e w1 ⟨rfl, R1, C1⟩
    have K0 : ∀ x, W.heap.size ≤ x → x < wx.heap.size → w1.heap[x]? = wx.heap[x]? := fun x hx hlt => C1.blk x hlt (by omega) (by omega)
    have xs1 := Nat.lt_of_lt_of_le xs C1.size
    have g10 : w1.cell? ⟨W.heap.size, 0, none⟩ = some (.int .i64 (N : Int)) := (World.cell?_of_block (a := ⟨W.heap.size, 0, none⟩) (K0 W.heap.size (by omega) (by omega))).trans (c1 0)
    have g11 : w1.cell? ⟨W.heap.size, 1, none⟩ = some (.slice A m c) := (World.cell?_of_block (a := ⟨W.heap.size, 1, none⟩) (K0 W.heap.size (by omega) (by omega))).trans (c1 1)
    have g21 : w1.cell? ⟨W.heap.size + 1, 1, none⟩ = some (.int .i64 a) := (World.cell?_of_block (a := ⟨W.heap.size + 1, 1, none⟩) (K0 (W.heap.size + 1) (by omega) (by omega))).trans (c2 1)
    have g22 : w1.cell? ⟨W.heap.size + 1, 2, none⟩ = some (.int .i64 n) := (World.cell?_of_block (a := ⟨W.heap.size + 1, 2, none⟩) (K0 (W.heap.size + 1) (by omega) (by omega))).trans (c2 2)
    have g30 : w1.cell? ⟨W.heap.size + 1 + 1, 0, none⟩ = some (.int .i64 0) := (World.cell?_of_block (a := ⟨W.heap.size + 1 + 1, 0, none⟩) (K0 (W.heap.size + 1 + 1) (by omega) (by omega))).trans (c3 0)
    have g31 : w1.cell? ⟨W.heap.size + 1 + 1, 1, none⟩ = some (.slice none 0 0) := (World.cell?_of_block (a := ⟨W.heap.size + 1 + 1, 1, none⟩) (K0 (W.heap.size + 1 + 1) (by omega) (by omega))).trans (c3 1)
    have g40 : w1.cell? ⟨W.heap.size + 1 + 1 + 1, 0, none⟩ = some (.int .i64 (N : Int)) := (World.cell?_of_block (a := ⟨W.heap.size + 1 + 1 + 1, 0, none⟩) (K0 (W.heap.size + 1 + 1 + 1) (by omega) xs)).trans (c4 0)
    have g41 : w1.cell? ⟨W.heap.size + 1 + 1 + 1, 1, none⟩ = some (.slice A m c) := (World.cell?_of_block (a := ⟨W.heap.size + 1 + 1 + 1, 1, none⟩) (K0 (W.heap.size + 1 + 1 + 1) (by omega) xs)).trans (c4 1)
    have h3 : ∀ i, w1.frozen? ⟨W.heap.size + 1 + 1, i, none⟩ = false := fun i => (World.frozen?_of_block (a := ⟨W.heap.size + 1 + 1, i, none⟩) (K0 (W.heap.size + 1 + 1) (by omega) (by omega))).trans (f3 i)
    have h4 : ∀ i, w1.frozen? ⟨W.heap.size + 1 + 1 + 1, i, none⟩ = false := fun i => (World.frozen?_of_block (a := ⟨W.heap.size + 1 + 1 + 1, i, none⟩) (K0 (W.heap.size + 1 + 1 + 1) (by omega) xs)).trans (f4 i)
    have F1 : RefAt w1 (fun x => P x ∧ x ≠ W.heap.size + 1 + 1 ∧ x ≠ W.heap.size + 1 + 1 + 1) (.agg #[.int .i64 (N : Int), .slice A m c]) N rows := ((H0.out.mono (fun y hy hlt => ⟨hy, by omega, by omega⟩)).ext ex).rc C1 (fun h => p1 h.1) (fun h => p2 h.1)
    obtain ⟨sm1, sm2, sm3⟩ := HR0.out.small
    have rbne : rb < W.heap.size := HR0.out.elim fun g h => h.1.lt.1
    clear c1 c2 c3 c4 f3 f4 K0
    go_wp2_with fail
    refine (RBehind_any _ N rows _ a n sm2 sm3 w1 (fun y hy => ⟨p3 y (by omega), by omega, by omega⟩) F1).mono ?_
    rintro e w2 ⟨v2, rfl, F2, e2⟩
    obtain ⟨A4, n4, c5, rfl, -⟩ := id F2
    have j30 := (e2.cell (p := ⟨W.heap.size + 1 + 1, 0, none⟩) (show W.heap.size + 1 + 1 < _ by omega)).trans g30
    have j31 := (e2.cell (p := ⟨W.heap.size + 1 + 1, 1, none⟩) (show W.heap.size + 1 + 1 < _ by omega)).trans g31
    have j40 := (e2.cell (p := ⟨W.heap.size + 1 + 1 + 1, 0, none⟩) xs1).trans g40
    have j41 := (e2.cell (p := ⟨W.heap.size + 1 + 1 + 1, 1, none⟩) xs1).trans g41
    have h3' := fun i => (Below.frozen (p := ⟨W.heap.size + 1 + 1, i, none⟩) e2 (show W.heap.size + 1 + 1 < _ by omega)).trans (h3 i)
    have h4' := fun i => (Below.frozen (p := ⟨W.heap.size + 1 + 1 + 1, i, none⟩) e2 xs1).trans (h4 i)
    have CC := ((Rc.of_ext lb mb ex).trans C1).trans (Rc.of_ext lb mb e2)
    have RR := R1.kept e2
    clear g10 g11 g21 g22 g30 g31 g40 g41 h3 h4
    go_wp2_with fail
    (try simp only [Exit.inBlock, Exit.then])
    refine bodyPost_ret (v := .tuple #[.agg #[.int .i64 (N : Int), .slice A4 n4 c5], .bool true]) (by rw [results_cell_tmp rfl]; go_simp) rfl ?_
    have tl : W.heap.size + 1 + 1 ≠ lb ∧ W.heap.size + 1 + 1 ≠ mb ∧ W.heap.size + 1 + 1 ≠ rb := ⟨by omega, by omega, by omega⟩
    have tm : W.heap.size + 1 + 1 + 1 ≠ lb ∧ W.heap.size + 1 + 1 + 1 ≠ mb ∧ W.heap.size + 1 + 1 + 1 ≠ rb := ⟨by omega, by omega, by omega⟩
    refine ⟨_, rfl, (((RR.put tm.1 tm.2.1 tm.2.2).put tm.1 tm.2.1 tm.2.2).put tl.1 tl.2.1 tl.2.2).put tl.1 tl.2.1 tl.2.2, ?_, (((CC.putNew (by simp <;> omega) _).putNew (by simp <;> omega) _).putNew (by simp <;> omega) _).putNew (by simp <;> omega) _⟩
    refine (F2.kept (fun y hy hlt => ?_)).mono (fun y hy _ => hy.1)
    rw [Below.heap_setCell _ _ _ _ hy.2.1, Below.heap_setCell _ _ _ _ hy.2.1, Below.heap_setCell _ _ _ _ hy.2.2, Below.heap_setCell _ _ _ _ hy.2.2]
  · have es : actS N rows k a n = dropS N rows n := by unfold actS; rw [if_neg (by omega), if_neg (by omega), if_neg (by omega)]
    rw [es]
    clear es
    go_enter Try.func10, Try.ntmps10
    go_wp2_with fail
    refine calls_abs (fun Wx => Ext W Wx ∧ W.heap.size + 1 + 1 + 1 < Wx.heap.size ∧ (∀ i, Wx.cell? ⟨W.heap.size, i, none⟩ = (#[.int .i64 (N : Int), .slice A m c] : Array Value)[i]?) ∧ (∀ i, Wx.cell? ⟨W.heap.size + 1, i, none⟩ = (#[.int .u8 k, .int .i64 a, .int .i64 n] : Array Value)[i]?) ∧ (∀ i, Wx.cell? ⟨W.heap.size + 1 + 1, i, none⟩ = (#[.int .i64 0, .slice none 0 0] : Array Value)[i]?) ∧ (∀ i, Wx.cell? ⟨W.heap.size + 1 + 1 + 1, i, none⟩ = (#[.int .i64 (N : Int), .slice A m c] : Array Value)[i]?) ∧ (∀ i, Wx.frozen? ⟨W.heap.size + 1 + 1, i, none⟩ = false) ∧ ∀ i, Wx.frozen? ⟨W.heap.size + 1 + 1 + 1, i, none⟩ = false)
      ⟨E1, by simp, fun i => four1 .., fun i => four2 .., fun i => four3 .., fun i => four4 .., fun i => four3z .., fun i => four4z ..⟩ ?_
    rintro wx ⟨ex, xs, c1, c2, c3, c4, f3, f4⟩
    obtain ⟨p1, p2, p3⟩ := HW.out
    have o1 := HR0.out.ge.2.2.1
    have o2 := HR0.out.ge.2.2.2
    refine (Drop_any n wx (HR0.out.kept ex)).mono ?_
    rintro e w1 ⟨rfl, R1, C1⟩
    have K0 : ∀ x, W.heap.size ≤ x → x < wx.heap.size → w1.heap[x]? = wx.heap[x]? := fun x hx hlt => C1.blk x hlt (by omega) (by omega)
    have xs1 := Nat.lt_of_lt_of_le xs C1.size
    have g10 : w1.cell? ⟨W.heap.size, 0, none⟩ = some (.int .i64 (N : Int)) := (World.cell?_of_block (a := ⟨W.heap.size, 0, none⟩) (K0 W.heap.size (by omega) (by omega))).trans (c1 0)
    have g11 : w1.cell? ⟨W.heap.size, 1, none⟩ = some (.slice A m c) := (World.cell?_of_block (a := ⟨W.heap.size, 1, none⟩) (K0 W.heap.size (by omega) (by omega))).trans (c1 1)
    have g21 : w1.cell? ⟨W.heap.size + 1, 1, none⟩ = some (.int .i64 a) := (World.cell?_of_block (a := ⟨W.heap.size + 1, 1, none⟩) (K0 (W.heap.size + 1) (by omega) (by omega))).trans (c2 1)
    have g22 : w1.cell? ⟨W.heap.size + 1, 2, none⟩ = some (.int .i64 n) := (World.cell?_of_block (a := ⟨W.heap.size + 1, 2, none⟩) (K0 (W.heap.size + 1) (by omega) (by omega))).trans (c2 2)
    have g30 : w1.cell? ⟨W.heap.size + 1 + 1, 0, none⟩ = some (.int .i64 0) := (World.cell?_of_block (a := ⟨W.heap.size + 1 + 1, 0, none⟩) (K0 (W.heap.size + 1 + 1) (by omega) (by omega))).trans (c3 0)
    have g31 : w1.cell? ⟨W.heap.size + 1 + 1, 1, none⟩ = some (.slice none 0 0) := (World.cell?_of_block (a := ⟨W.heap.size + 1 + 1, 1, none⟩) (K0 (W.heap.size + 1 + 1) (by omega) (by omega))).trans (c3 1)
    have g40 : w1.cell? ⟨W.heap.size + 1 + 1 + 1, 0, none⟩ = some (.int .i64 (N : Int)) := (World.cell?_of_block (a := ⟨W.heap.size + 1 + 1 + 1, 0, none⟩) (K0 (W.heap.size + 1 + 1 + 1) (by omega) xs)).trans (c4 0)
    have g41 : w1.cell? ⟨W.heap.size + 1 + 1 + 1, 1, none⟩ = some (.slice A m c) := (World.cell?_of_block (a := ⟨W.heap.size + 1 + 1 + 1, 1, none⟩) (K0 (W.heap.size + 1 + 1 + 1) (by omega) xs)).trans (c4 1)
    have h3 : ∀ i, w1.frozen? ⟨W.heap.size + 1 + 1, i, none⟩ = false := fun i => (World.frozen?_of_block (a := ⟨W.heap.size + 1 + 1, i, none⟩) (K0 (W.heap.size + 1 + 1) (by omega) (by omega))).trans (f3 i)
    have h4 : ∀ i, w1.frozen? ⟨W.heap.size + 1 + 1 + 1, i, none⟩ = false := fun i => (World.frozen?_of_block (a := ⟨W.heap.size + 1 + 1 + 1, i, none⟩) (K0 (W.heap.size + 1 + 1 + 1) (by omega) xs)).trans (f4 i)
    have F1 : RefAt w1 (fun x => P x ∧ x ≠ W.heap.size + 1 + 1 ∧ x ≠ W.heap.size + 1 + 1 + 1) (.agg #[.int .i64 (N : Int), .slice A m c]) N rows := ((H0.out.mono (fun y hy hlt => ⟨hy, by omega, by omega⟩)).ext ex).rc C1 (fun h => p1 h.1) (fun h => p2 h.1)
    obtain ⟨sm1, sm2, sm3⟩ := HR0.out.small
    have rbne : rb < W.heap.size := HR0.out.elim fun g h => h.1.lt.1
    clear c1 c2 c3 c4 f3 f4 K0
    go_wp2_with fail
    refine (RDrop_any _ N rows _ n sm2 sm3 w1 (fun y hy => ⟨p3 y (by omega), by omega, by omega⟩) F1).mono ?_
    rintro e w2 ⟨v2, rfl, F2, e2⟩
    obtain ⟨A4, n4, c5, rfl, -⟩ := id F2
    have j30 := (e2.cell (p := ⟨W.heap.size + 1 + 1, 0, none⟩) (show W.heap.size + 1 + 1 < _ by omega)).trans g30
    have j31 := (e2.cell (p := ⟨W.heap.size + 1 + 1, 1, none⟩) (show W.heap.size + 1 + 1 < _ by omega)).trans g31
    have j40 := (e2.cell (p := ⟨W.heap.size + 1 + 1 + 1, 0, none⟩) xs1).trans g40
    have j41 := (e2.cell (p := ⟨W.heap.size + 1 + 1 + 1, 1, none⟩) xs1).trans g41
    have h3' := fun i => (Below.frozen (p := ⟨W.heap.size + 1 + 1, i, none⟩) e2 (show W.heap.size + 1 + 1 < _ by omega)).trans (h3 i)
    have h4' := fun i => (Below.frozen (p := ⟨W.heap.size + 1 + 1 + 1, i, none⟩) e2 xs1).trans (h4 i)
    have CC := ((Rc.of_ext lb mb ex).trans C1).trans (Rc.of_ext lb mb e2)
    have RR := R1.kept e2
    clear g10 g11 g21 g22 g30 g31 g40 g41 h3 h4
    go_wp2_with fail
    (try simp only [Exit.inBlock, Exit.then])
    refine bodyPost_ret (v := .tuple #[.agg #[.int .i64 (N : Int), .slice A4 n4 c5], .bool true]) (by rw [results_cell_tmp rfl]; go_simp) rfl ?_
    have tl : W.heap.size + 1 + 1 ≠ lb ∧ W.heap.size + 1 + 1 ≠ mb ∧ W.heap.size + 1 + 1 ≠ rb := ⟨by omega, by omega, by omega⟩
    have tm : W.heap.size + 1 + 1 + 1 ≠ lb ∧ W.heap.size + 1 + 1 + 1 ≠ mb ∧ W.heap.size + 1 + 1 + 1 ≠ rb := ⟨by omega, by omega, by omega⟩
    refine ⟨_, rfl, (((RR.put tm.1 tm.2.1 tm.2.2).put tm.1 tm.2.1 tm.2.2).put tl.1 tl.2.1 tl.2.2).put tl.1 tl.2.1 tl.2.2, ?_, (((CC.putNew (by simp <;> omega) _).putNew (by simp <;> omega) _).putNew (by simp <;> omega) _).putNew (by simp <;> omega) _⟩
    refine (F2.kept (fun y hy hlt => ?_)).mono (fun y hy _ => hy.1)
    rw [Below.heap_setCell _ _ _ _ hy.2.1, Below.heap_setCell _ _ _ _ hy.2.1, Below.heap_setCell _ _ _ _ hy.2.2, Below.heap_setCell _ _ _ _ hy.2.2]
end Go.Proofs.Ytpcmfgkbfamdoaa
