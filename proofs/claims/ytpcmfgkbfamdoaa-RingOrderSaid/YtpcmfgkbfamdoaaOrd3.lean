/- A part of the proof of a law of roundel: contracts of functions and lemmas, each true as it stands; no condition beyond those that its theorems state. -/
import Derived.Test.YtpcmfgkbfamdoaaOrd2
namespace Go.Proofs.Ytpcmfgkbfamdoaa
set_option linter.unusedSimpArgs false
set_option linter.unusedVariables false
open Go.RowKit

set_option maxRecDepth 100000 in
set_option maxHeartbeats 1600000 in
theorem order_ok (A : Option Addr) (n c : Nat) (bb : Nat → Bool) (m : Nat) (hm : m ≤ 255) (hnc : n ≤ c) (hc63 : c ≤ 9223372036854775807) (hn0 : 0 < n) (hf : n ≤ 40) (W : World) (hl : BL W A n bb) :
    Calls Try.prog 4 #[.slice A n c, .int .u8 (m : Int)] W fun e W' => e = .returned (.bool true) ∧ Ext W W' := by
  have q : (n : Int) ≤ 40 := by omega
  have q0 : ((n : Int) == 0) = false := by simp; omega
  have q1 : ¬ (n : Int) = 0 := by omega
  have HL := Lib.hid hl
  clear hl
  go_enter Try.func4, Try.ntmps4
  go_wp2_with (first | (go_at_call 7; refine (awake_any _).mono ?_; rintro e w1 ⟨rfl, he1⟩; obtain ⟨he1c, he1f⟩ := Ext.cells he1; have he1z := Ext.sz he1; (try simp only [World.size_alloc, World.size_drew, World.heap_drewN, World.size_setCell] at he1z)))
  have he1z := he1.sz
  clear he1c he1f
  refine (New_ok 64 2 (by omega) (by omega) (by omega) (by omega) w1).mono ?_
  rintro e w2 ⟨rb, lb, mb, rfl, R2, e2⟩
  have hge := R2.ge
  have hrb := R2.elim fun g h => h.1.lt.1
  have E2 : Ext W w2 := he1.trans e2
  obtain ⟨tb, htb⟩ : ∃ tb, tb = w2.heap.size := ⟨_, rfl⟩
  have K := Lib.hid (show True ∧ tb ≠ lb ∧ tb ≠ mb ∧ tb ≠ rb ∧ lb < tb + 1 ∧ mb < tb + 1 ∧ rb < tb + 1 ∧ lb < tb ∧ mb < tb ∧ rb < tb from ⟨trivial, by omega, by omega, by omega, by omega, by omega, by omega, by omega, by omega, by omega⟩)
  have gtb : W.heap.size ≤ tb := by have := E2.sz; omega
  have R2' : Rr w2 w1.heap.size rb lb mb 64 2 (two [] []) := R2
  clear R2 hge hrb
  go_wp2_with fail
  rw [← htb]
  refine wp_abs (fun Wx => Rr Wx w1.heap.size rb lb mb 64 2 (two [] []) ∧ Wx.cell? ⟨tb, 0, none⟩ = some (.slice none 0 0) ∧ Wx.frozen? ⟨tb, 0, none⟩ = false ∧ tb < Wx.heap.size ∧ Ext W Wx)
    ⟨R2'.kept ((Ext.refl _).alloc _), by rw [htb]; simp, by rw [htb]; simp, by rw [htb]; simp, E2.alloc _⟩ ?_
  rintro w4 ⟨R4, t0, tf, tl, E4⟩
  clear R2' E2 e2 htb
  go_loopw [38] (fun i wr => ∃ (j : Nat) (Wl : List Nat) (A5 : Option Addr) (c5 : Nat), j ≤ n ∧ i = .int .i64 (j : Int) ∧ Wl.length = j ∧ (∀ x ∈ Wl, x < j) ∧ Rr wr w1.heap.size rb lb mb 64 2 (two [] Wl) ∧ wr.cell? ⟨tb, 0, none⟩ = some (.slice A5 j c5) ∧ OwnV wr (tb + 1) 3 (.slice A5 j c5) (vals Wl) ∧ wr.frozen? ⟨tb, 0, none⟩ = false ∧ tb < wr.heap.size ∧ Ext W wr) (fun i _ => n - (intOf i).toNat)
  case atStart => exact ⟨0, [], none, 0, by omega, rfl, rfl, by simp, R4, t0, World.ownsRow_nil _ _ _ _, tf, tl, E4⟩
  case round =>
    obtain ⟨j, Wl, A5, c5, hj, rfl, hlen, hW, Rr5, u0, O5, uf, ul, er⟩ := hrel
    clear R4 t0 tf tl E4
    by_cases hjn : j < n
    · obtain ⟨x, o, rfl, hx, hcell⟩ := HL.out (by omega)
      have k0 : wr.cell? ⟨x, o + j, none⟩ = some (.bool (bb j)) := (er.cell (p := ⟨x, o + j, none⟩) hx).trans (hcell j hjn)
      have q3 : (j : Int) < (n : Int) := by omega
      have HW := Lib.hid hW
      clear hcell hx
      cases hb : bb j with
      | true =>
        rw [hb] at k0
        have hpn := push_new Wl j true (by omega) (fun h => by have := hW _ h; omega)
        clear hW
        go_wp2_with fail
        refine (Lead_any 1 (j : Int) wr Rr5).mono ?_
        rintro e w5 ⟨he, R6, C6⟩
        rw [hpn] at he R6
        subst he
        have kb : w5.heap[tb]? = wr.heap[tb]? := C6.blk tb ul K.out.2.1 K.out.2.2.1
        have y0 : w5.cell? ⟨tb, 0, none⟩ = some (.slice A5 j c5) := (World.cell?_of_block (a := ⟨tb, 0, none⟩) kb).trans u0
        have yf : w5.frozen? ⟨tb, 0, none⟩ = false := (World.frozen?_of_block (a := ⟨tb, 0, none⟩) kb).trans uf
        have yl : tb < w5.heap.size := Nat.lt_of_lt_of_le ul C6.size
        have E5 : Ext W w5 := Rc.ext er C6 (Nat.le_trans he1z R6.ge.1) (Nat.le_trans he1z R6.ge.2.1)
        have O6 := O5.rc C6 K.out.2.2.2.2.1 K.out.2.2.2.2.2.1
        clear kb u0 uf ul er C6 Rr5 O5 hpn
        simp only [if_true] at R6
        go_wp2_with (first | (refine wpList_append_vals rfl (.tmp 48) (.tmp 49) rfl Try.underlying41 infoInt rfl (by omega) rfl (OwnV.one (base := tb + 1) (x := .int .i64 (j : Int)) (by omega) (heap_alloc_new _ _)) rfl (O6.src).1 (ys := vals Wl) (by rw [vals_len, hlen]) (fun hn => (OwnV.ext O6 ((Ext.refl _).alloc _)).src.2.1 hn) (vals_one _) (by simp; omega) (by simp; omega) ?_; intro v7 w7 o7 g7; have e7 : Below (tb + 1) w5 w7 := Below.grown (Below.mono (show Below w5.heap.size w5 _ from (Ext.refl w5).alloc _) (by omega)) g7 (by simp; omega) (fun k hk => own_row_ge hk (by omega)); replace o7 : OwnV w7 (tb + 1) 3 v7 (vals (j :: Wl)) := (by simpa [vals] using o7); have t7 : w7.cell? ⟨tb, 0, none⟩ = some (.slice A5 j c5) := (e7.cell (p := ⟨tb, 0, none⟩) (Nat.lt_succ_self tb)).trans y0; have f7 : w7.frozen? ⟨tb, 0, none⟩ = false := (Below.frozen (p := ⟨tb, 0, none⟩) e7 (Nat.lt_succ_self tb)).trans yf; have l7 : tb < w7.heap.size := Nat.lt_of_lt_of_le yl e7.size; obtain ⟨r7, hr7⟩ : ∃ r, r = j :: Wl := ⟨_, rfl⟩; have z7 : r7.length = j + 1 := (by rw [hr7]; simp [hlen]); rw [← hr7] at o7 R6; obtain ⟨A7, c7, hv7, -⟩ := o7.row (L := fun _ => True) (fun _ _ => trivial); rw [z7] at hv7; subst hv7))
        have R7 : Rr w7 w1.heap.size rb lb mb 64 2 (two [] r7) := R6.blk e7.size (e7.block rb K.out.2.2.2.2.2.2.1) (e7.block lb K.out.2.2.2.2.1) (e7.block mb K.out.2.2.2.2.2.1)
        have E7 : Ext W w7 := E5.step e7 (by omega)
        go_roundw
        case rel => exact ⟨j + 1, r7, A7, c7, by omega, by go_num, z7, fun x hx => by rw [hr7] at hx; have hW := HW.out x; simp at hx; rcases hx with hx | hx <;> (first | omega | (have := hW hx; omega)), (R7.put K.out.2.1 K.out.2.2.1 K.out.2.2.2.1), World.cell?_setCell_same (u := .slice A5 j c5) _ _ _ t7, o7.set (Nat.lt_succ_self tb) _, by rw [World.frozen?_setCell]; exact f7, by simpa using l7, E7.setCell (p := ⟨tb, 0, none⟩) gtb _⟩
        case measure => simp [intOf]; omega
      | false =>
        rw [hb] at k0
        have hpn := push_new Wl j false (by omega) (fun h => by have := hW _ h; omega)
        clear hW
        go_wp2_with fail
        refine (Push_any 1 (j : Int) wr Rr5).mono ?_
        rintro e w5 ⟨he, R6, C6⟩
        rw [hpn] at he R6
        subst he
        have kb : w5.heap[tb]? = wr.heap[tb]? := C6.blk tb ul K.out.2.1 K.out.2.2.1
        have y0 : w5.cell? ⟨tb, 0, none⟩ = some (.slice A5 j c5) := (World.cell?_of_block (a := ⟨tb, 0, none⟩) kb).trans u0
        have yf : w5.frozen? ⟨tb, 0, none⟩ = false := (World.frozen?_of_block (a := ⟨tb, 0, none⟩) kb).trans uf
        have yl : tb < w5.heap.size := Nat.lt_of_lt_of_le ul C6.size
        have E5 : Ext W w5 := Rc.ext er C6 (Nat.le_trans he1z R6.ge.1) (Nat.le_trans he1z R6.ge.2.1)
        have O6 := O5.rc C6 K.out.2.2.2.2.1 K.out.2.2.2.2.2.1
        clear kb u0 uf ul er C6 Rr5 O5 hpn
        simp only [Bool.false_eq_true, if_false] at R6
        go_wp2_with (first | (refine wpList_append_vals rfl (.tmp 54) (.tmp 56) rfl Try.underlying41 infoInt rfl (by omega) rfl (OwnV.ext O6 ((Ext.refl _).alloc _)) rfl (by simp) (ys := vals [j]) rfl (fun _ => ⟨_, 0, rfl, fun i hi => (by obtain rfl : i = 0 := (by omega); exact World.cell?_alloc_new _ _ _ 0)⟩) (vals_one _) (by simp [vals_len]; omega) (by simp; omega) ?_; intro v7 w7 o7 g7; have e7 : Below (tb + 1) w5 w7 := Below.grown (Below.mono (show Below w5.heap.size w5 _ from (Ext.refl w5).alloc _) (by omega)) g7 (by simp; omega) (fun k hk => O6.base_le k hk); replace o7 : OwnV w7 (tb + 1) 3 v7 (vals (Wl ++ [j])) := (by simpa [vals] using o7); have t7 : w7.cell? ⟨tb, 0, none⟩ = some (.slice A5 j c5) := (e7.cell (p := ⟨tb, 0, none⟩) (Nat.lt_succ_self tb)).trans y0; have f7 : w7.frozen? ⟨tb, 0, none⟩ = false := (Below.frozen (p := ⟨tb, 0, none⟩) e7 (Nat.lt_succ_self tb)).trans yf; have l7 : tb < w7.heap.size := Nat.lt_of_lt_of_le yl e7.size; obtain ⟨r7, hr7⟩ : ∃ r, r = Wl ++ [j] := ⟨_, rfl⟩; have z7 : r7.length = j + 1 := (by rw [hr7]; simp [hlen]); rw [← hr7] at o7 R6; obtain ⟨A7, c7, hv7, -⟩ := o7.row (L := fun _ => True) (fun _ _ => trivial); rw [z7] at hv7; subst hv7))
        have R7 : Rr w7 w1.heap.size rb lb mb 64 2 (two [] r7) := R6.blk e7.size (e7.block rb K.out.2.2.2.2.2.2.1) (e7.block lb K.out.2.2.2.2.1) (e7.block mb K.out.2.2.2.2.2.1)
        have E7 : Ext W w7 := E5.step e7 (by omega)
        go_roundw
        case rel => exact ⟨j + 1, r7, A7, c7, by omega, by go_num, z7, fun x hx => by rw [hr7] at hx; have hW := HW.out x; simp at hx; rcases hx with hx | hx <;> (first | omega | (have := hW hx; omega)), (R7.put K.out.2.1 K.out.2.2.1 K.out.2.2.2.1), World.cell?_setCell_same (u := .slice A5 j c5) _ _ _ t7, o7.set (Nat.lt_succ_self tb) _, by rw [World.frozen?_setCell]; exact f7, by simpa using l7, E7.setCell (p := ⟨tb, 0, none⟩) gtb _⟩
        case measure => simp [intOf]; omega
    · have hjn' : j = n := by omega
      subst hjn'
      obtain ⟨k, hk, hkn⟩ := tmod_nat (m : Int) j (by omega) hn0
      have wm : IntKind.i64.wrap (m : Int) = (m : Int) := IntWalk.i64_in _ (by omega)
      obtain ⟨x, hx⟩ : ∃ x, x = Wl.getD k 0 := ⟨_, rfl⟩
      obtain ⟨d1, d2, d3⟩ := drop_new Rr5 k (by omega)
      rw [← hx] at d1 d2 d3
      obtain ⟨A6, c6, hv, hrow⟩ := O5.row (L := fun x => tb + 1 ≤ x) (fun x hx => hx)
      rw [hlen] at hv hrow
      simp only [Value.slice.injEq, true_and] at hv
      obtain ⟨rfl, rfl⟩ := hv
      obtain ⟨y, rfl, hyt, hyc⟩ := hrow.2.2.2.2 hn0
      have cy := hyc k hkn
      rw [← hx] at cy
      have hyl := block_lt_of_cell cy
      have q5 : (k : Int) < (j : Int) := by omega
      have hjc := hrow.2.1
      have HX := Lib.hid hx
      have HR := Lib.hid hrow
      clear hx hrow hyc hW HL O5
      go_wp2_with fail
      refine (Drop_any (x : Int) wr Rr5).mono ?_
      rintro e w5 ⟨he, R6, C6⟩
      rw [d1] at he R6
      subst he
      have kb : w5.heap[tb]? = wr.heap[tb]? := C6.blk tb ul K.out.2.1 K.out.2.2.1
      have y0 : w5.cell? ⟨tb, 0, none⟩ = some (.slice (some ⟨y, 0, none⟩) j c5) := (World.cell?_of_block (a := ⟨tb, 0, none⟩) kb).trans u0
      have yf : w5.frozen? ⟨tb, 0, none⟩ = false := (World.frozen?_of_block (a := ⟨tb, 0, none⟩) kb).trans uf
      have cy5 : w5.cell? ⟨y, k, none⟩ = some (.int .i64 (x : Int)) := (World.cell?_of_block (a := ⟨y, k, none⟩) (C6.blk y hyl (by have := K.out; omega) (by have := K.out; omega))).trans cy
      have yl : tb < w5.heap.size := Nat.lt_of_lt_of_le ul C6.size
      have E5 : Ext W w5 := Rc.ext er C6 (Nat.le_trans he1z R6.ge.1) (Nat.le_trans he1z R6.ge.2.1)
      have HR5 := Lib.hid (HR.out.rc C6 (fun x hx => ⟨by have := K.out; omega, by have := K.out; omega⟩))
      have hyl5 := block_lt_of_cell cy5
      clear kb u0 uf ul er C6 Rr5 cy hyl d1 HR
      go_wp2_with fail
      refine (Push_any 0 (x : Int) w5 R6).mono ?_
      rintro e w6 ⟨he, R7, C7⟩
      rw [push_old _ _ d2 d3] at he R7
      subst he
      have kb : w6.heap[tb]? = w5.heap[tb]? := C7.blk tb yl K.out.2.1 K.out.2.2.1
      have z0 : w6.cell? ⟨tb, 0, none⟩ = some (.slice (some ⟨y, 0, none⟩) j c5) := (World.cell?_of_block (a := ⟨tb, 0, none⟩) kb).trans y0
      have zf : w6.frozen? ⟨tb, 0, none⟩ = false := (World.frozen?_of_block (a := ⟨tb, 0, none⟩) kb).trans yf
      have cy6 : w6.cell? ⟨y, k, none⟩ = some (.int .i64 (x : Int)) := (World.cell?_of_block (a := ⟨y, k, none⟩) (C7.blk y hyl5 (by have := K.out; omega) (by have := K.out; omega))).trans cy5
      have zl : tb < w6.heap.size := Nat.lt_of_lt_of_le yl C7.size
      have E6 : Ext W w6 := Rc.ext E5 C7 (Nat.le_trans he1z R7.ge.1) (Nat.le_trans he1z R7.ge.2.1)
      have HR6 := Lib.hid (HR5.out.rc C7 (fun x hx => ⟨by have := K.out; omega, by have := K.out; omega⟩))
      have hyl6 := block_lt_of_cell cy6
      clear kb y0 yf yl E5 C7 R6 cy5 hyl5 HR5 d2 d3
      go_wp2_with fail
      refine (List_any (x : Int) w6 R7).mono ?_
      rintro e z1 ⟨he, hz1⟩
      have hz2 := hz1.symm; clear hz1; subst hz2
      rw [list_old] at he
      subst he
      obtain ⟨h1, h2⟩ := head_run y j c5 k (by omega) hjc
      obtain ⟨AX, h3, h4, -, h5⟩ := row_rest (some ⟨y, 0, none⟩) j c5 (k + 1) (by omega) hjc
      have ek : ((k + 1 : Nat) : Int) = (k : Int) + 1 := by omega
      have wk : IntKind.i64.wrap ((k : Int) + 1) = (k : Int) + 1 := IntWalk.i64_in _ (by omega)
      rw [ek] at h3 h4
      have qk : (k : Int) ≤ (c5 : Int) := by omega
      clear ek cy6
      go_wp2_with fail
      go_still_tail 8, (by kernel_rfl)
      change wpList _ _ _ _ _ w6.drew
      have HR7 := HR6.out.kept (W' := w6.drew) (fun _ _ _ => rfl)
      obtain ⟨v8, w8, hrun, e8, A8, c8, rfl, r8⟩ := cut_run w6.drew y k (j - (k + 1)) (c5 - (k + 1)) AX (Wl.take k) (Wl.drop (k + 1)) (by simp; omega) (by simp; omega) (by omega) (fun i hi => by
        obtain ⟨y', hy', _, hc⟩ := HR7.2.2.2.2 hn0
        simp only [Option.some.injEq, Addr.mk.injEq, and_true] at hy'
        subst hy'
        rw [hc i (by omega)]
        simp [List.getD, List.getElem?_take, hi]) (h5 _ _ _ HR7).2 41
      refine wpList_append_run rfl (.tmp 94) (.tmp 98) rfl rfl rfl hrun ?_
      have t8 : w8.cell? ⟨tb, 0, none⟩ = some (.slice (some ⟨y, 0, none⟩) j c5) := (e8.cell (p := ⟨tb, 0, none⟩) zl).trans z0
      have f8 : w8.frozen? ⟨tb, 0, none⟩ = false := (Below.frozen (p := ⟨tb, 0, none⟩) e8 zl).trans zf
      have l8 : tb < w8.heap.size := Nat.lt_of_lt_of_le zl e8.sz
      have R8 := R7.kept (show Ext w6 w8 from (Ext.refl w6).drew.trans e8)
      have E8 : Ext W w8 := E6.drew.trans e8
      obtain ⟨r, hr⟩ : ∃ r, r = Wl.take k ++ Wl.drop (k + 1) := ⟨_, rfl⟩
      obtain ⟨n8, hn8⟩ : ∃ n8, n8 = k + (j - (k + 1)) := ⟨_, rfl⟩
      rw [← hr, ← hn8] at r8
      rw [← hr] at R8
      rw [← hn8]
      have r9 := r8.mono (L' := fun z => tb + 1 ≤ z ∧ z < w8.heap.size) (fun z hz hlt => ⟨by have := hz; simp at this; omega, hlt⟩)
      have HN := Lib.hid (And.intro hr hn8)
      clear hr hn8 r8 hrun HR7 h1 h2 h3 h4 h5 z0 zf zl E6 e8 R7 HR6
      go_wp2_with fail
      have hs9 : (w8.setCell ⟨tb, 0, none⟩ (.slice A8 n8 c8)).heap.size = w8.heap.size := by simp
      refine calls_abs (fun Wx => Rr Wx w1.heap.size rb lb mb 64 2 (two [x] r) ∧ Wx.cell? ⟨tb, 0, none⟩ = some (.slice A8 n8 c8) ∧ RowAt Wx (fun z => tb + 1 ≤ z ∧ z < w8.heap.size) A8 n8 c8 r ∧ Wx.cell? ⟨w8.heap.size, 0, none⟩ = some (.int .i64 0) ∧ Wx.cell? ⟨w8.heap.size + 1, 0, none⟩ = some (.bool true) ∧ Wx.frozen? ⟨w8.heap.size, 0, none⟩ = false ∧ Wx.frozen? ⟨w8.heap.size + 1, 0, none⟩ = false ∧ Wx.heap.size = w8.heap.size + 1 + 1 ∧ Ext W Wx)
        ⟨(R8.put K.out.2.1 K.out.2.2.1 K.out.2.2.2.1).kept (((Ext.refl _).alloc _).alloc _), ?_, (r9.kept (W' := w8.setCell ⟨tb, 0, none⟩ (.slice A8 n8 c8)) (fun z hz _ => Below.heap_setCell _ _ _ _ (by have := hz.1; simp; omega))).ext (((Ext.refl _).alloc _).alloc _), ?_, ?_, ?_, ?_, by simp, ((E8.setCell (p := ⟨tb, 0, none⟩) gtb _).alloc _).alloc _⟩ ?_
      · rw [World.cell?_alloc_past _ _ _ (by simp; omega), World.cell?_alloc_past _ _ _ (by simp; omega)]
        exact World.cell?_setCell_same _ _ _ t8
      · have z := two1 (w8.setCell ⟨tb, 0, none⟩ (.slice A8 n8 c8)) #[.int .i64 0] #[.bool true] 3 4 0
        rw [hs9] at z
        exact z
      · have z := two2 (w8.setCell ⟨tb, 0, none⟩ (.slice A8 n8 c8)) #[.int .i64 0] #[.bool true] 3 4 0
        rw [hs9] at z
        exact z
      · rw [World.frozen?_alloc_past _ _ _ (by simp)]
        have z := World.frozen?_alloc_new (w8.setCell ⟨tb, 0, none⟩ (.slice A8 n8 c8)) #[.int .i64 0] 3 0
        rw [hs9] at z
        exact z
      · have z := two2z (w8.setCell ⟨tb, 0, none⟩ (.slice A8 n8 c8)) #[.int .i64 0] #[.bool true] 3 4 0
        rw [hs9] at z
        exact z
      have K2 := Lib.hid (show tb < w8.heap.size ∧ W.heap.size ≤ w8.heap.size from ⟨l8, by omega⟩)
      clear R8 t8 f8 l8 E8 r9 hs9
      rintro w9 ⟨R9, u0, r9, k0, o0, fk, fo, sz9, E9⟩
      have S9 := Lib.hid sz9
      clear sz9
      refine (nodes_fn rb 1 w9).mono ?_
      rintro e z1 ⟨rfl, hz1⟩
      subst hz1
      have Ez : Ext w9 ((w9.alloc (.cells #[.pointer (some ⟨rb, 0, none⟩)] 24)).alloc (.cells #[.int .i64 1] 3)) := ((Ext.refl _).alloc _).alloc _
      go_wp2_with fail
      refine (nodes_order (rows := two [x] r) 1 (w8.heap.size + 1) w8.heap.size tb w9.heap.size (w9.heap.size + 1) (fun z => tb + 1 ≤ z ∧ z < w8.heap.size) A8 n8 c8 _ (R9.kept Ez) (by rw [rowI_1]; exact r9.ext Ez) (by intro h; have := h.2; omega) (by intro h; have := h.2; omega)
        ((Ez.cell (p := ⟨w8.heap.size + 1, 0, none⟩) (show w8.heap.size + 1 < _ by have := S9.out; omega)).trans o0) ((Ez.cell (p := ⟨w8.heap.size, 0, none⟩) (show w8.heap.size < _ by have := S9.out; omega)).trans k0) ((Ez.cell (p := ⟨tb, 0, none⟩) (show tb < _ by have := S9.out; have := K2.out; omega)).trans u0)
        ((Below.frozen (p := ⟨w8.heap.size + 1, 0, none⟩) Ez (show w8.heap.size + 1 < _ by have := S9.out; omega)).trans fo) ((Below.frozen (p := ⟨w8.heap.size, 0, none⟩) Ez (show w8.heap.size < _ by have := S9.out; omega)).trans fk)
        ((two1 ..).trans rfl) ((two2 ..).trans rfl) (by omega) ⟨by have := K2.out; omega, by have := K2.out; omega⟩ ⟨by have := S9.out; omega, by have := S9.out; omega⟩ ⟨by have := S9.out; omega, by have := S9.out; omega⟩
        ⟨by have := K2.out; have := K.out; omega, by have := K2.out; have := K.out; omega⟩ ⟨by have := K2.out; have := K.out; omega, by have := K2.out; have := K.out; omega⟩ ⟨by have := K2.out; have := K.out; omega, by have := K2.out; have := K.out; omega⟩).mono ?_
      rintro e wa ⟨rfl, ho, hk', Ca⟩
      have la : tb < w9.heap.size := by have := S9.out; have := K2.out; omega
      have lz := Ez.sz
      have ca : wa.cell? ⟨tb, 0, none⟩ = some (.slice A8 n8 c8) := (World.cell?_of_block (a := ⟨tb, 0, none⟩) (Ca.blk tb (by omega) (by have := K2.out; omega) (by have := K2.out; omega))).trans ((Ez.cell (p := ⟨tb, 0, none⟩) la).trans u0)
      have Ra : Rr wa w1.heap.size rb lb mb 64 2 (two [x] r) := (R9.kept Ez).blk Ca.size (Ca.blk rb (by have := K.out; omega) (by have := K2.out; have := K.out; omega) (by have := K2.out; have := K.out; omega)) (Ca.blk lb (by have := K.out; omega) (by have := K2.out; have := K.out; omega) (by have := K2.out; have := K.out; omega)) (Ca.blk mb (by have := K.out; omega) (by have := K2.out; have := K.out; omega) (by have := K2.out; have := K.out; omega))
      have Ea : Ext W wa := Rc.ext (E9.trans Ez) Ca (by have := K2.out; omega) (by have := K2.out; omega)
      clear R9 u0 r9 k0 o0 fk fo E9 Ez Ca la lz
      go_wp2_with fail
      refine (Len_any 0 wa Ra).mono ?_
      rintro e z1 ⟨he, hz1⟩
      have hz2 := hz1.symm; clear hz1; subst hz2
      rw [rowI_0] at he
      subst he
      go_wp2_with fail
      go_ret
      exact ⟨rfl, Ea⟩
end Go.Proofs.Ytpcmfgkbfamdoaa
