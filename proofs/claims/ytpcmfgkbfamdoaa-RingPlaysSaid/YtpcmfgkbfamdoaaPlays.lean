/- A part of the proof of a law of roundel: contracts of functions and lemmas, each true as it stands; no condition beyond those that its theorems state. -/
import Derived.Test.YtpcmfgkbfamdoaaIs
namespace Go.Proofs.Ytpcmfgkbfamdoaa
set_option linter.unusedSimpArgs false
set_option linter.unusedVariables false
open Go.RowKit

theorem RNew_bad' (n m : Int) (h : n < 1 ∨ 64 < n ∨ m < 1 ∨ 64 < m) (W : World) :
    Calls Try.prog 9 #[.int .i64 n, .int .i64 m] W fun e W' => e = .returned (.tuple #[.agg #[.int .i64 0, .slice none 0 0], .int .i64 14]) ∧ Ext W W' := by
  go_enter Try.func9, Try.ntmps9
  by_cases h1 : n < 1
  · go_wp2
    (try simp only [Exit.inBlock, Exit.then])
    refine bodyPost_ret (v := .tuple #[.agg #[.int .i64 0, .slice none 0 0], .int .i64 14]) (by rw [results_cell_tmp rfl]; go_simp) rfl ?_
    exact ⟨rfl, (Ext.refl W).alloc _⟩
  · by_cases h2 : 64 < n
    · have h1' : 1 ≤ n := by omega
      go_wp2
      (try simp only [Exit.inBlock, Exit.then])
      refine bodyPost_ret (v := .tuple #[.agg #[.int .i64 0, .slice none 0 0], .int .i64 14]) (by rw [results_cell_tmp rfl]; go_simp) rfl ?_
      exact ⟨rfl, (Ext.refl W).alloc _⟩
    · have h1' : 1 ≤ n := by omega
      have h2' : n ≤ 64 := by omega
      by_cases h3 : m < 1
      · go_wp2
        (try simp only [Exit.inBlock, Exit.then])
        refine bodyPost_ret (v := .tuple #[.agg #[.int .i64 0, .slice none 0 0], .int .i64 14]) (by rw [results_cell_tmp rfl]; go_simp) rfl ?_
        exact ⟨rfl, (Ext.refl W).alloc _⟩
      · have h4 : 64 < m := by omega
        have h3' : 1 ≤ m := by omega
        go_wp2
        (try simp only [Exit.inBlock, Exit.then])
        refine bodyPost_ret (v := .tuple #[.agg #[.int .i64 0, .slice none 0 0], .int .i64 14]) (by rw [results_cell_tmp rfl]; go_simp) rfl ?_
        exact ⟨rfl, (Ext.refl W).alloc _⟩

theorem plays_far (A : Option Addr) (n c : Nat) (x y : Int) (hnc : n ≤ c) (hc63 : c ≤ 9223372036854775807) (hf : 50 < n) (W : World) :
    Calls Try.prog 6 #[.int .i64 x, .int .i64 y, .slice A n c] W fun e W' => e = .returned (.bool true) ∧ Ext W W' := by
  have q : (50 : Int) < (n : Int) := by omega
  go_enter Try.func6, Try.ntmps6
  go_wp2_with (first | (go_at_call 7; refine (awake_any _).mono ?_; rintro e w1 ⟨rfl, he1⟩; obtain ⟨he1c, he1f⟩ := Ext.cells he1; have he1z := Ext.sz he1; (try simp only [World.size_alloc, World.size_drew, World.heap_drewN, World.size_setCell] at he1z)))
  go_ret
  refine ⟨rfl, ?_⟩
  (repeat (first | with_reducible exact Ext.refl _ | with_reducible assumption | with_reducible apply Ext.drew | with_reducible apply Ext.drewN | with_reducible apply Ext.alloc | (with_reducible refine Ext.setCell ?_ (by simp <;> omega) _) | (with_reducible refine Ext.trans ?_ (by with_reducible assumption))))
set_option maxRecDepth 100000 in
theorem plays_bad (A : Option Addr) (n c : Nat) (x y : Int) (h : x < 1 ∨ 64 < x ∨ y < 1 ∨ 64 < y) (hnc : n ≤ c) (hc63 : c ≤ 9223372036854775807) (hf : n ≤ 50) (W : World) :
    Calls Try.prog 6 #[.int .i64 x, .int .i64 y, .slice A n c] W fun e W' => e = .returned (.bool true) ∧ Ext W W' := by
  have q : (n : Int) ≤ 50 := by omega
  have HH := Lib.hid h
  clear h
  go_enter Try.func6, Try.ntmps6
  go_wp2_with (first | (go_at_call 7; refine (awake_any _).mono ?_; rintro e w1 ⟨rfl, he1⟩; obtain ⟨he1c, he1f⟩ := Ext.cells he1; have he1z := Ext.sz he1; (try simp only [World.size_alloc, World.size_drew, World.heap_drewN, World.size_setCell] at he1z)))
  refine (New_bad x y HH.out w1).mono ?_
  rintro e w2 ⟨rfl, e2⟩
  go_wp2_with fail
  refine (RNew_bad' x y HH.out w2).mono ?_
  rintro e w3 ⟨rfl, e3⟩
  go_wp2_with fail
  go_ret
  exact ⟨rfl, ((he1.trans e2).trans e3).alloc _⟩

set_option maxRecDepth 100000 in
set_option maxHeartbeats 1600000 in
theorem plays_ok (A : Option Addr) (n c : Nat) (l : List Ac) (N M : Nat) (hN1 : 1 ≤ N) (hN2 : N ≤ 64) (hM1 : 1 ≤ M) (hM2 : M ≤ 64) (hnc : n ≤ c) (hc63 : c ≤ 9223372036854775807) (hf : n ≤ 50) (W : World) (hl : AL W W.heap.size A n l) :
    Calls Try.prog 6 #[.int .i64 (N : Int), .int .i64 (M : Int), .slice A n c] W fun e W' => e = .returned (.bool true) ∧ Ext W W' := by
  have q : (n : Int) ≤ 50 := by omega
  have HL := Lib.hid hl
  clear hl
  go_enter Try.func6, Try.ntmps6
  go_wp2_with (first | (go_at_call 7; refine (awake_any _).mono ?_; rintro e w1 ⟨rfl, he1⟩; obtain ⟨he1c, he1f⟩ := Ext.cells he1; have he1z := Ext.sz he1; (try simp only [World.size_alloc, World.size_drew, World.heap_drewN, World.size_setCell] at he1z)))
  clear he1c he1f
  refine (New_ok N M hN1 hN2 hM1 hM2 w1).mono ?_
  rintro e w2 ⟨rb, lb, mb, rfl, R2, e2⟩
  have g0 := R2.ge
  have RL := Lib.hid (R2.elim fun g h => h.1.lt.1)
  go_wp2_with fail
  refine (RNew_ok N M hN1 hN2 hM1 hM2 w2).mono ?_
  rintro e w3 ⟨v3, rfl, F3, e3⟩
  obtain ⟨A4, n4, c4, rfl, -⟩ := id F3
  have R3 := R2.kept e3
  have E3 : Ext W w3 := (he1.trans e2).trans e3
  obtain ⟨tb, htb⟩ : ∃ tb, tb = w3.heap.size := ⟨_, rfl⟩
  have hs2 := e3.sz
  have q2 : tb < w3.heap.size + 1 := by omega
  have f3 : RefAt w3 (fun x => w2.heap.size ≤ x ∧ x ≠ tb) (.agg #[.int .i64 (N : Int), .slice A4 n4 c4]) N (List.replicate M []) := F3.mono (fun x hx hlt => ⟨hx, by omega⟩)
  have K := Lib.hid (And.intro g0 (And.intro hs2 htb))
  have gtb : W.heap.size ≤ tb := by have := e2.sz; have := he1.sz; omega
  go_wp2_with fail
  rw [← htb]
  refine wp_abs (fun Wx => Rr Wx w1.heap.size rb lb mb N M (List.replicate M []) ∧ RefAt Wx (fun x => w2.heap.size ≤ x ∧ x ≠ tb) (.agg #[.int .i64 (N : Int), .slice A4 n4 c4]) N (List.replicate M []) ∧ Wx.cell? ⟨tb, 0, none⟩ = some (.int .i64 (N : Int)) ∧ Wx.cell? ⟨tb, 1, none⟩ = some (.slice A4 n4 c4) ∧ (∀ o, Wx.frozen? ⟨tb, o, none⟩ = false) ∧ tb < Wx.heap.size ∧ Ext W Wx)
    ⟨R3.kept ((Ext.refl _).alloc _), f3.ext ((Ext.refl _).alloc _), by rw [htb]; simp, by rw [htb]; simp, fun o => by rw [htb]; simp, by rw [htb]; simp, E3.alloc _⟩ ?_
  rintro w4 ⟨R4, F4, t0, t1, tf, tl, E4⟩
  clear R3 F3 f3 E3 R2 g0 htb q2 hs2
  go_loopw [49] (fun i wr => ∃ (j : Nat) (rows : List (List Nat)) (A5 : Option Addr) (n5 c5 : Nat), j ≤ n ∧ i = .int .i64 (j : Int) ∧ Rr wr w1.heap.size rb lb mb N M rows ∧ RefAt wr (fun x => w2.heap.size ≤ x ∧ x ≠ tb) (.agg #[.int .i64 (N : Int), .slice A5 n5 c5]) N rows ∧ wr.cell? ⟨tb, 0, none⟩ = some (.int .i64 (N : Int)) ∧ wr.cell? ⟨tb, 1, none⟩ = some (.slice A5 n5 c5) ∧ (∀ o, wr.frozen? ⟨tb, o, none⟩ = false) ∧ tb < wr.heap.size ∧ Ext W wr) (fun i _ => n - (intOf i).toNat)
  case atStart => exact ⟨0, _, A4, n4, c4, by omega, rfl, R4, F4, t0, t1, tf, tl, E4⟩
  case round =>
    obtain ⟨j, rows, A5, n5, c5, hj, rfl, Rr5, F5, u0, u1, uf, ul, er⟩ := hrel
    clear R4 F4 t0 t1 tf tl E4
    by_cases hjn : j < n
    · obtain ⟨h1, h2, h3⟩ := HL.out
      obtain ⟨x, o, rfl, hx, hcell⟩ := h3 (by omega)
      obtain ⟨k0, k1, k2⟩ := hcell j hjn
      have hcw : ∀ i, wr.cell? ⟨x, i, none⟩ = W.cell? ⟨x, i, none⟩ := fun i => er.cell (p := ⟨x, i, none⟩) hx
      rw [← hcw] at k0 k1 k2
      have hk := h2 (l.getD j default) (by simp [List.getD, show j < l.length by omega])
      obtain ⟨⟨ak, aa, an⟩, hgx⟩ : ∃ g, g = l.getD j default := ⟨_, rfl⟩
      rw [← hgx] at k0 k1 k2 hk
      dsimp only at k0 k1 k2 hk
      have hk0 := hk.1
      have hk1 := hk.2
      have q3 : (j : Int) < (n : Int) := by omega
      clear hgx h2 h3 hcell hcw hk
      have v0 : (wr.alloc (.cells #[.int .u8 ak, .int .i64 aa, .int .i64 an] 34)).cell? ⟨tb, 0, none⟩ = some (.int .i64 (N : Int)) := (World.cell?_alloc_past _ _ _ ul).trans u0
      have v1 : (wr.alloc (.cells #[.int .u8 ak, .int .i64 aa, .int .i64 an] 34)).cell? ⟨tb, 1, none⟩ = some (.slice A5 n5 c5) := (World.cell?_alloc_past _ _ _ ul).trans u1
      go_wp2_with fail
      refine (do_any (fun x => w2.heap.size ≤ x ∧ x ≠ tb) _ ak aa an hk0 hk1 _ (fun h => by have := K.out.1.2.2.1; omega) (fun h => by have := K.out.1.2.2.2; omega) (fun y hy => ⟨by have := K.out.2.1; have := K.out.2.2; simp at hy; omega, by simp at hy; omega⟩) (Rr5.kept ((Ext.refl _).alloc _)) (F5.ext ((Ext.refl _).alloc _))).mono ?_
      rintro e w5 ⟨v5, rfl, R6, F6, C6⟩
      obtain ⟨A6, n6, c6, rfl, -⟩ := id F6
      obtain ⟨rows', hrows⟩ : ∃ rows', rows' = (actS N rows ak aa an).1 := ⟨_, rfl⟩
      rw [← hrows] at R6 F6
      have kb : w5.heap[tb]? = (wr.alloc (.cells #[.int .u8 ak, .int .i64 aa, .int .i64 an] 34)).heap[tb]? := C6.blk tb (by simp; omega) (by have := K.out.1.2.2.1; have := K.out.2.1; have := K.out.2.2; omega) (by have := K.out.1.2.2.2; have := K.out.2.1; have := K.out.2.2; omega)
      have y0 : w5.cell? ⟨tb, 0, none⟩ = some (.int .i64 (N : Int)) := (World.cell?_of_block (a := ⟨tb, 0, none⟩) kb).trans v0
      have y1 : w5.cell? ⟨tb, 1, none⟩ = some (.slice A5 n5 c5) := (World.cell?_of_block (a := ⟨tb, 1, none⟩) kb).trans v1
      have yf : ∀ o, w5.frozen? ⟨tb, o, none⟩ = false := fun o => (World.frozen?_of_block (a := ⟨tb, o, none⟩) kb).trans ((World.frozen?_alloc_past _ _ _ ul).trans (uf o))
      have yl : tb < w5.heap.size := Nat.lt_of_lt_of_le (by simp; omega) C6.size
      have E5 : Ext W w5 := Rc.ext (er.alloc _) C6 (Nat.le_trans he1z R6.ge.1) (Nat.le_trans he1z R6.ge.2.1)
      have nb : tb ≠ lb ∧ tb ≠ mb ∧ tb ≠ rb := ⟨by have := K.out.1.2.2.1; have := K.out.2.1; have := K.out.2.2; omega, by have := K.out.1.2.2.2; have := K.out.2.1; have := K.out.2.2; omega, by have := K.out.2.1; have := K.out.2.2; have := RL.out; omega⟩
      clear v0 v1 k0 k1 k2 Rr5 F5 u0 u1 uf ul er hrows kb C6
      go_wp2_with fail
      have W7r : Rr (((w5.setCell ⟨tb, 0, none⟩ (.int .i64 (N : Int))).setCell ⟨tb, 1, none⟩ (.slice A6 n6 c6)).alloc (.cells #[.int .i64 (N : Int), .slice A6 n6 c6] 30)) w1.heap.size rb lb mb N M rows' := ((R6.put nb.1 nb.2.1 nb.2.2).put nb.1 nb.2.1 nb.2.2).kept ((Ext.refl _).alloc _)
      have W7f : RefAt (((w5.setCell ⟨tb, 0, none⟩ (.int .i64 (N : Int))).setCell ⟨tb, 1, none⟩ (.slice A6 n6 c6)).alloc (.cells #[.int .i64 (N : Int), .slice A6 n6 c6] 30)) (fun x => w2.heap.size ≤ x ∧ x ≠ tb) (.agg #[.int .i64 (N : Int), .slice A6 n6 c6]) N rows' := (F6.kept (W' := (w5.setCell ⟨tb, 0, none⟩ (.int .i64 (N : Int))).setCell ⟨tb, 1, none⟩ (.slice A6 n6 c6)) (fun y hy hlt => by rw [Below.heap_setCell _ _ _ _ hy.2, Below.heap_setCell _ _ _ _ hy.2])).ext ((Ext.refl _).alloc _)
      have x5 : Ext ((w5.setCell ⟨tb, 0, none⟩ (.int .i64 (N : Int))).setCell ⟨tb, 1, none⟩ (.slice A6 n6 c6)) (((w5.setCell ⟨tb, 0, none⟩ (.int .i64 (N : Int))).setCell ⟨tb, 1, none⟩ (.slice A6 n6 c6)).alloc (.cells #[.int .i64 (N : Int), .slice A6 n6 c6] 30)) := (Ext.refl _).alloc _
      have x0 : ((w5.setCell ⟨tb, 0, none⟩ (.int .i64 (N : Int))).setCell ⟨tb, 1, none⟩ (.slice A6 n6 c6)).cell? ⟨tb, 0, none⟩ = some (.int .i64 (N : Int)) := by
        rw [World.cell?_setCell_other _ _ ⟨tb, 0, none⟩ _ (by simp)]
        exact World.cell?_setCell_same _ _ _ y0
      have x1 : ((w5.setCell ⟨tb, 0, none⟩ (.int .i64 (N : Int))).setCell ⟨tb, 1, none⟩ (.slice A6 n6 c6)).cell? ⟨tb, 1, none⟩ = some (.slice A6 n6 c6) := World.cell?_setCell_same (u := .slice A5 n5 c5) _ _ _ ((World.cell?_setCell_other _ _ _ _ (by simp)).trans y1)
      have xl : tb < ((w5.setCell ⟨tb, 0, none⟩ (.int .i64 (N : Int))).setCell ⟨tb, 1, none⟩ (.slice A6 n6 c6)).heap.size := by simpa using yl
      have xf : ∀ o, ((w5.setCell ⟨tb, 0, none⟩ (.int .i64 (N : Int))).setCell ⟨tb, 1, none⟩ (.slice A6 n6 c6)).frozen? ⟨tb, o, none⟩ = false := fun o => by rw [World.frozen?_setCell, World.frozen?_setCell]; exact yf o
      have xe : Ext W ((w5.setCell ⟨tb, 0, none⟩ (.int .i64 (N : Int))).setCell ⟨tb, 1, none⟩ (.slice A6 n6 c6)) := (E5.setCell (p := ⟨tb, 0, none⟩) gtb (.int .i64 (N : Int))).setCell (p := ⟨tb, 1, none⟩) gtb (.slice A6 n6 c6)
      refine (is_any _ _ _ W7r W7f).mono ?_
      rintro e w9 ⟨rfl, e9⟩
      have x9 := x5.trans e9
      go_wp2_with fail
      go_roundw
      case rel => exact ⟨j + 1, rows', A6, n6, c6, by omega, by go_num, W7r.kept e9, W7f.ext e9, (x9.cell (p := ⟨tb, 0, none⟩) xl).trans x0, (x9.cell (p := ⟨tb, 1, none⟩) xl).trans x1, fun o => (Below.frozen (p := ⟨tb, o, none⟩) x9 xl).trans (xf o), Nat.lt_of_lt_of_le xl x9.sz, xe.trans x9⟩
      case measure => simp [intOf]; omega
    · obtain rfl : j = n := by omega
      go_wp2_with fail
      refine (is_any _ _ wr Rr5 F5).mono ?_
      rintro e w9 ⟨rfl, e9⟩
      go_wp2_with fail
      go_ret
      exact ⟨rfl, er.trans e9⟩
end Go.Proofs.Ytpcmfgkbfamdoaa
