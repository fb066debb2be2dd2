/- A part of the proof of a law of roundel: contracts of functions and lemmas, each true as it stands; no condition beyond those that its theorems state. -/
import Derived.Test.YtpcmfgkbfamdoaaEnds
namespace Go.Proofs.Ytpcmfgkbfamdoaa
set_option linter.unusedSimpArgs false
set_option linter.unusedVariables false
open Go.RowKit

theorem nodes_fn (rb : Nat) (l : Int) (W : World) : Calls Try.prog 11 #[.pointer (some ⟨rb, 0, none⟩), .int .i64 l] W fun e W' => e = .returned (.func (.func 28) #[] #[.pointer (some ⟨W.heap.size, 0, none⟩), .pointer (some ⟨W.heap.size + 1, 0, none⟩)]) ∧ W' = (W.alloc (.cells #[.pointer (some ⟨rb, 0, none⟩)] 24)).alloc (.cells #[.int .i64 l] 3) := by
  have hmf : ∀ (fn : Fn) (first cap : Array Value) (w : World), (Instr.makeFunc fn first cap).run Try.prog w = .ok (.func fn first cap) w := fun _ _ _ _ => rfl
  go_enter Try.func11, Try.ntmps11
  go_wp2
  go_ret
  exact ⟨rfl, rfl⟩

set_option maxRecDepth 100000 in
set_option maxHeartbeats 1600000 in
theorem ends_ok (A : Option Addr) (n c : Nat) (l : List Ac) (m : Nat) (hm : m ≤ 255) (hnc : n ≤ c) (hc63 : c ≤ 9223372036854775807) (hf : n ≤ 50) (W : World) (hl : AL W W.heap.size A n l) :
    Calls Try.prog 3 #[.slice A n c, .int .u8 (m : Int)] W fun e W' => e = .returned (.bool true) ∧ Ext W W' := by
  have q : (n : Int) ≤ 50 := by omega
  have hmf : ∀ (fn : Fn) (first cap : Array Value) (w : World), (Instr.makeFunc fn first cap).run Try.prog w = .ok (.func fn first cap) w := fun _ _ _ _ => rfl
  have HL := Lib.hid hl
  clear hl
  obtain ⟨W0, hW0⟩ : ∃ W0, W0 = W.alloc (.cells #[.int .u8 (m : Int)] 5) := ⟨_, rfl⟩
  have E00 := Lib.hid (show Ext W W0 by rw [hW0]; exact (Ext.refl W).alloc _)
  have s00 : W0.heap.size = W.heap.size + 1 := by rw [hW0]; simp
  have m00 : W0.cell? ⟨W.heap.size, 0, none⟩ = some (.int .u8 (m : Int)) := by rw [hW0]; simp
  have HW0 := Lib.hid hW0
  go_enter Try.func3, Try.ntmps3
  go_wp2_with fail
  rw [← hW0]
  clear hW0
  refine (awake_any W0).mono ?_
  rintro e w1 ⟨rfl, he1⟩
  have he1z := he1.sz
  go_wp2_with fail
  refine (New_ok 8 2 (by omega) (by omega) (by omega) (by omega) w1).mono ?_
  rintro e w2 ⟨rb, lb, mb, rfl, R2, e2⟩
  have g0 := R2.ge
  have RL := Lib.hid (R2.elim fun g h => h.1.lt.1)
  go_wp2_with fail
  refine (RNew_ok 8 2 (by omega) (by omega) (by omega) (by omega) w2).mono ?_
  rintro e w3 ⟨v3, rfl, F3, e3⟩
  obtain ⟨A4, n4, c4, rfl, -⟩ := id F3
  have R3 := R2.kept e3
  have E3 : Ext W0 w3 := (he1.trans e2).trans e3
  obtain ⟨tb, htb⟩ : ∃ tb, tb = w3.heap.size := ⟨_, rfl⟩
  have hs2 := e3.sz
  have q2 : tb < w3.heap.size + 1 := by omega
  have f3 : RefAt w3 (fun x => w2.heap.size ≤ x ∧ x ≠ tb) (.agg #[.int .i64 ((8 : Nat) : Int), .slice A4 n4 c4]) 8 (List.replicate 2 []) := F3.mono (fun x hx hlt => ⟨hx, by omega⟩)
  have K := Lib.hid (And.intro g0 (And.intro hs2 htb))
  have gtb : W0.heap.size ≤ tb := by have := e2.sz; omega
  go_wp2_with fail
  rw [← htb]
  refine wp_abs (fun Wx => Rr Wx w1.heap.size rb lb mb 8 2 (List.replicate 2 []) ∧ RefAt Wx (fun x => w2.heap.size ≤ x ∧ x ≠ tb) (.agg #[.int .i64 ((8 : Nat) : Int), .slice A4 n4 c4]) 8 (List.replicate 2 []) ∧ Wx.cell? ⟨tb, 0, none⟩ = some (.int .i64 8) ∧ Wx.cell? ⟨tb, 1, none⟩ = some (.slice A4 n4 c4) ∧ (∀ o, Wx.frozen? ⟨tb, o, none⟩ = false) ∧ tb < Wx.heap.size ∧ Ext W0 Wx)
    ⟨R3.kept ((Ext.refl _).alloc _), f3.ext ((Ext.refl _).alloc _), by rw [htb]; simp, by rw [htb]; simp, fun o => by rw [htb]; simp, by rw [htb]; simp, E3.alloc _⟩ ?_
  rintro w4 ⟨R4, F4, t0, t1, tf, tl, E4⟩
  clear R3 F3 f3 E3 R2 g0 htb q2 hs2
  go_loopw [36] (fun i wr => ∃ (j : Nat) (rows : List (List Nat)) (A5 : Option Addr) (n5 c5 : Nat), j ≤ n ∧ i = .int .i64 (j : Int) ∧ Rr wr w1.heap.size rb lb mb 8 2 rows ∧ RefAt wr (fun x => w2.heap.size ≤ x ∧ x ≠ tb) (.agg #[.int .i64 ((8 : Nat) : Int), .slice A5 n5 c5]) 8 rows ∧ wr.cell? ⟨tb, 0, none⟩ = some (.int .i64 8) ∧ wr.cell? ⟨tb, 1, none⟩ = some (.slice A5 n5 c5) ∧ (∀ o, wr.frozen? ⟨tb, o, none⟩ = false) ∧ tb < wr.heap.size ∧ Ext W0 wr) (fun i _ => n - (intOf i).toNat)
  case atStart => exact ⟨0, _, A4, n4, c4, by omega, rfl, R4, F4, t0, t1, tf, tl, E4⟩
  case round =>
    obtain ⟨j, rows, A5, n5, c5, hj, rfl, Rr5, F5, u0, u1, uf, ul, er⟩ := hrel
    clear R4 F4 t0 t1 tf tl E4
    by_cases hjn : j < n
    · obtain ⟨h1, h2, h3⟩ := HL.out
      obtain ⟨x, o, rfl, hx, hcell⟩ := h3 (by omega)
      obtain ⟨k0, k1, k2⟩ := hcell j hjn
      have hcw : ∀ i, wr.cell? ⟨x, i, none⟩ = W.cell? ⟨x, i, none⟩ := fun i => (E00.out.trans er).cell (p := ⟨x, i, none⟩) hx
      rw [← hcw] at k0 k1 k2
      have hk := h2 (l.getD j default) (by simp [List.getD, show j < l.length by omega])
      obtain ⟨⟨ak, aa, an⟩, hgx⟩ : ∃ g, g = l.getD j default := ⟨_, rfl⟩
      rw [← hgx] at k0 k1 k2 hk
      dsimp only at k0 k1 k2 hk
      have hk0 := hk.1
      have hk1 := hk.2
      have q3 : (j : Int) < (n : Int) := by omega
      clear hgx h2 h3 hcell hcw hk
      have v0 : (wr.alloc (.cells #[.int .u8 ak, .int .i64 aa, .int .i64 an] 34)).cell? ⟨tb, 0, none⟩ = some (.int .i64 8) := (World.cell?_alloc_past _ _ _ ul).trans u0
      have v1 : (wr.alloc (.cells #[.int .u8 ak, .int .i64 aa, .int .i64 an] 34)).cell? ⟨tb, 1, none⟩ = some (.slice A5 n5 c5) := (World.cell?_alloc_past _ _ _ ul).trans u1
      go_wp2_with fail
      refine (do_any (fun x => w2.heap.size ≤ x ∧ x ≠ tb) _ ak aa an hk0 hk1 _ (fun h => by have := K.out.1.2.2.1; omega) (fun h => by have := K.out.1.2.2.2; omega) (fun y hy => ⟨by have := K.out.2.1; have := K.out.2.2; simp at hy; omega, by simp at hy; omega⟩) (Rr5.kept ((Ext.refl _).alloc _)) (F5.ext ((Ext.refl _).alloc _))).mono ?_
      rintro e w5 ⟨v5, rfl, R6, F6, C6⟩
      obtain ⟨A6, n6, c6, rfl, -⟩ := id F6
      obtain ⟨rows', hrows⟩ : ∃ rows', rows' = (actS 8 rows ak aa an).1 := ⟨_, rfl⟩
      rw [← hrows] at R6 F6
      have kb : w5.heap[tb]? = (wr.alloc (.cells #[.int .u8 ak, .int .i64 aa, .int .i64 an] 34)).heap[tb]? := C6.blk tb (by simp; omega) (by have := K.out.1.2.2.1; have := K.out.2.1; have := K.out.2.2; omega) (by have := K.out.1.2.2.2; have := K.out.2.1; have := K.out.2.2; omega)
      have y0 : w5.cell? ⟨tb, 0, none⟩ = some (.int .i64 8) := (World.cell?_of_block (a := ⟨tb, 0, none⟩) kb).trans v0
      have y1 : w5.cell? ⟨tb, 1, none⟩ = some (.slice A5 n5 c5) := (World.cell?_of_block (a := ⟨tb, 1, none⟩) kb).trans v1
      have yf : ∀ o, w5.frozen? ⟨tb, o, none⟩ = false := fun o => (World.frozen?_of_block (a := ⟨tb, o, none⟩) kb).trans ((World.frozen?_alloc_past _ _ _ ul).trans (uf o))
      have yl : tb < w5.heap.size := Nat.lt_of_lt_of_le (by simp; omega) C6.size
      have E5 : Ext W0 w5 := Rc.ext (er.alloc _) C6 (Nat.le_trans he1z R6.ge.1) (Nat.le_trans he1z R6.ge.2.1)
      have nb : tb ≠ lb ∧ tb ≠ mb ∧ tb ≠ rb := ⟨by have := K.out.1.2.2.1; have := K.out.2.1; have := K.out.2.2; omega, by have := K.out.1.2.2.2; have := K.out.2.1; have := K.out.2.2; omega, by have := K.out.2.1; have := K.out.2.2; have := RL.out; omega⟩
      clear v0 v1 k0 k1 k2 Rr5 F5 u0 u1 uf ul er hrows kb C6
      go_wp2_with fail
      go_roundw
      case rel =>
        refine ⟨j + 1, rows', A6, n6, c6, by omega, by go_num, (R6.put nb.1 nb.2.1 nb.2.2).put nb.1 nb.2.1 nb.2.2, F6.kept (fun y hy hlt => by rw [Below.heap_setCell _ _ _ _ hy.2, Below.heap_setCell _ _ _ _ hy.2]), ?_, ?_, fun o => by simpa using yf o, by simpa using yl, (E5.setCell (p := ⟨tb, 0, none⟩) gtb (.int .i64 8)).setCell (p := ⟨tb, 1, none⟩) gtb (.slice A6 n6 c6)⟩
        · rw [World.cell?_setCell_other _ _ ⟨tb, 0, none⟩ _ (by simp)]
          exact World.cell?_setCell_same _ _ _ y0
        · exact World.cell?_setCell_same (u := .slice A5 n5 c5) _ _ _ ((World.cell?_setCell_other _ _ _ _ (by simp)).trans y1)
      case measure => simp [intOf]; omega
    · obtain rfl : j = n := by omega
      go_wp2_with fail
      have Fx : RefAt wr (fun x => (w2.heap.size ≤ x ∧ x ≠ tb) ∧ x < wr.heap.size) (.agg #[.int .i64 ((8 : Nat) : Int), .slice A5 n5 c5]) 8 rows := F5.mono (fun x hx hlt => ⟨hx, hlt⟩)
      refine (nodes_fn rb 0 _).mono ?_
      rintro e z1 ⟨rfl, hz1⟩
      subst hz1
      have Ez : Ext wr (((wr.alloc (.cells #[.int .i64 0] 3)).alloc (.cells #[.pointer (some ⟨rb, 0, none⟩)] 24)).alloc (.cells #[.int .i64 0] 3)) := (((Ext.refl _).alloc _).alloc _).alloc _
      have mo' : wr.cell? ⟨W.heap.size, 0, none⟩ = some (.int .u8 (m : Int)) := (er.cell (p := ⟨W.heap.size, 0, none⟩) (show W.heap.size < _ by omega)).trans m00
      have sw := er.sz
      have hwr : wr.heap.size ≠ rb ∧ wr.heap.size ≠ lb ∧ wr.heap.size ≠ mb := Rr5.elim fun g h => ⟨by have := h.1.lt; omega, by have := h.1.lt; omega, by have := h.1.lt; omega⟩
      go_wp2_with fail
      refine (nodes_ends (rows := rows) 0 m wr.heap.size W.heap.size (wr.heap.size + 1) (wr.heap.size + 1 + 1) (by omega) hm _ (Rr5.kept Ez) ((three1 ..).trans rfl) (az1 ..) ((Ez.cell (p := ⟨W.heap.size, 0, none⟩) (show W.heap.size < _ by omega)).trans mo') ((three2 ..).trans rfl) ((al3 ..).trans rfl) (by omega) (by omega) (by omega) hwr.1 hwr.2.1 hwr.2.2).mono ?_
      rintro e w8 ⟨rfl, k8, C8⟩
      have hb8 : ∀ x, x < wr.heap.size → w8.heap[x]? = wr.heap[x]? := fun x hx => (C8.blk x (by simp; omega) (by omega) (by omega)).trans (Ez.blk hx)
      have F8 := Fx.kept (W' := w8) (fun x hx hlt => hb8 x hlt)
      have E8 : Ext W0 w8 := er.step (C8.below (B := W0.heap.size) (by have := Ez.sz; omega) (by omega) (by omega) |> fun h => (Ez.below.mono sw).trans h) (Nat.le_refl _)
      have u18 : w8.cell? ⟨tb, 1, none⟩ = some (.slice A5 n5 c5) := (World.cell?_of_block (a := ⟨tb, 1, none⟩) (hb8 tb ul)).trans u1
      have m18 : w8.cell? ⟨W.heap.size, 0, none⟩ = some (.int .u8 (m : Int)) := (World.cell?_of_block (a := ⟨W.heap.size, 0, none⟩) (hb8 W.heap.size (by omega))).trans mo'
      obtain ⟨A7, n7, c7, e7, g1, g2, g3, g4, g5⟩ := F8
      simp only [Value.agg.injEq, Array.mk.injEq, List.cons.injEq, and_true, true_and, Value.slice.injEq] at e7
      obtain ⟨rfl, rfl, rfl⟩ := e7
      have hM := Rr5.small.1
      obtain ⟨x7, rfl, -, hc7⟩ := g5 (by omega)
      obtain ⟨GA, gn, gc, c78, r78⟩ := hc7 0 (by omega)
      have hgn := r78.1
      rw [hgn] at k8
      have wm : IntKind.i64.wrap (m : Int) = (m : Int) := IntWalk.i64_in _ (by omega)
      have q7 : (0 : Int) < (n5 : Int) := by omega
      clear hc7 r78 g5 Fx F5 u0 u1 uf hb8
      go_wp2_with fail
      go_quiet (fail)
      have hu : upTo gn m = min gn (max m 1) := rfl
      obtain ⟨U, hU⟩ : ∃ U, U = upTo gn m := ⟨_, rfl⟩
      rw [← hU] at hu
      simp only [← hU]
      clear hU
      go_wp2_with fail
      all_goals
        go_ret
        refine ⟨?_, E00.out.trans (E8.drewN _)⟩
        simp <;> (try split) <;> (try split) <;> omega
end Go.Proofs.Ytpcmfgkbfamdoaa
