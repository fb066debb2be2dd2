/- A part of the proof of a law of roundel: contracts of functions and lemmas, each true as it stands; no condition beyond those that its theorems state. -/
import Derived.Test.YtnlcbilmalfjaaaQt
namespace Go.Proofs.Ytnlcbilmalfjaaa
set_option linter.unusedSimpArgs false
set_option linter.unusedVariables false
open Go.RowKit Go.Shelf
attribute [local go_sem] Oper.semAt_some

theorem region_calm {F : Fence} {n : Nat} {P : Program} {c : Code} {K : Act → World → Prop} {Q : Exit → Act → World → Prop} {a : Act} {w : World} (h : c.wpIn F n P (Exit.then K (fun _ _ _ => False)) a w) : c.wpIn F n P (Exit.then K Q) a w :=
  wpIn_mono h (fun e a w hq => by cases e <;> first | exact hq | exact hq.elim)

theorem nodes_fn (rb : Nat) (l : Int) (W : World) : Calls Try.prog 10 #[.pointer (some ⟨rb, 0, none⟩), .int .i64 l] W fun e W' => e = .returned (.func (.func 33) #[] #[.pointer (some ⟨W.heap.size, 0, none⟩), .pointer (some ⟨W.heap.size + 1, 0, none⟩)]) ∧ W' = (W.alloc (.cells #[.pointer (some ⟨rb, 0, none⟩)] 32)).alloc (.cells #[.int .i64 l] 3) := by
  have hmf : ∀ (fn : Fn) (first cap : Array Value) (w : World), (Instr.makeFunc fn first cap).run Try.prog w = .ok (.func fn first cap) w := fun _ _ _ _ => rfl
  go_enter Try.func10, Try.ntmps10
  go_wp2
  go_ret
  exact ⟨rfl, rfl⟩
section
variable {B nb tg rb lb mb N M : Nat} {rows : List (List Nat)} {T : Nat → Int}
theorem Ls.kc {ob : Nat} {W W' : World} (h : Ls W B nb tg rb lb mb N M rows T) (hM : 0 < M) (hN : 0 < N) (k : Kc ob W W') (h0 : nb ≠ ob) (h0' : tg ≠ ob) (h1 : rb ≠ ob) (h2 : lb ≠ ob) (h3 : mb ≠ ob) : Ls W' B nb tg rb lb mb N M rows T := by
  obtain ⟨x, hx, hxc⟩ := block_of_cell h.c0
  obtain ⟨y, hy, hyc⟩ := block_of_cell (h.t 0 hN)
  have k1 := (k.blk nb x hx hxc h0).trans hx.symm
  have k2 := (k.blk tg y hy hyc h0').trans hy.symm
  exact ⟨h.rr.kc hM k h1 h2 h3, (World.cell?_of_block (a := ⟨nb, 0, none⟩) k1).trans h.c0, (World.cell?_of_block (a := ⟨nb, 1, none⟩) k1).trans h.c1, fun i hi => (World.cell?_of_block (a := ⟨tg, i, none⟩) k2).trans (h.t i hi), fun o => (World.frozen?_of_block (a := ⟨tg, o, none⟩) k2).trans (h.ft o), h.d1, h.d2, h.ge, ⟨Nat.lt_of_lt_of_le h.lt.1 k.size, Nat.lt_of_lt_of_le h.lt.2 k.size⟩⟩

/-- A function that says of each node whether it fits, and changes nothing. -/
structure FitOk (N : Nat) (f : Nat) (caps : Array Value) (p : Nat → Bool) (ob : Nat) (w : World) : Prop where
  en : ∀ args w, (callFunc f args).run Try.prog w = .ok (.enter f args) w
  says : ∀ (x : Nat) (W : World), x < N → Kc ob w W → Calls Try.prog f (#[.int .i64 (x : Int)] ++ caps) W fun e W' => e = .returned (.bool (p x)) ∧ W' = W

set_option maxRecDepth 100000 in
set_option maxHeartbeats 1600000 in
theorem fitting1_gives (z tag : Int) (ob b1 b2 b3 b4 f : Nat) (caps : Array Value) (p : Nat → Bool) (w : World) (row : List Nat) (hrow : row = (rowI rows z).filter (fun x => T x == tag && p x)) (hM : 0 < M) (hN : 0 < N) (hL : Ls w B nb tg rb lb mb N M rows T) (hF : FitOk N f caps p ob w)
    (hb1 : w.cell? ⟨b1, 0, none⟩ = some (.pointer (some ⟨nb, 0, none⟩))) (hb2 : w.cell? ⟨b2, 0, none⟩ = some (.int .i64 z)) (hb3 : w.cell? ⟨b3, 0, none⟩ = some (.int .i64 tag)) (hb4 : w.cell? ⟨b4, 0, none⟩ = some (.func (.func f) #[] caps))
    (n0 : nb ≠ ob) (n0' : tg ≠ ob) (n1 : rb ≠ ob) (n2 : lb ≠ ob) (n3 : mb ≠ ob) (m1 : b1 ≠ ob) (m2 : b2 ≠ ob) (m3 : b3 ≠ ob) (m4 : b4 ≠ ob) (hob : ob < w.heap.size) :
    Gives 50 #[.pointer (some ⟨b1, 0, none⟩), .pointer (some ⟨b2, 0, none⟩), .pointer (some ⟨b3, 0, none⟩), .pointer (some ⟨b4, 0, none⟩)] ob (fun x => x < N) row w := by
  intro n l J Jx W hW hJ hJx hY h0
  refine calls_any (m := 8) ?_
  have HR := Lib.hid hrow
  clear hrow
  have hmix : Try.prog.follows .mixedOrders = true := by kernel_rfl
  have c1 := (Ext.cell hW (p := ⟨b1, 0, none⟩) (block_lt_of_cell hb1)).trans hb1
  have c2 := (Ext.cell hW (p := ⟨b2, 0, none⟩) (block_lt_of_cell hb2)).trans hb2
  have c3 := (Ext.cell hW (p := ⟨b3, 0, none⟩) (block_lt_of_cell hb3)).trans hb3
  have c4 := (Ext.cell hW (p := ⟨b4, 0, none⟩) (block_lt_of_cell hb4)).trans hb4
  have L0 := hL.kept hW
  have l0 := L0.c0
  have t0 := L0.lt.1
  have t1 := block_lt_of_cell c1
  have t2 := block_lt_of_cell c2
  refine callsIn_of_wp_marks Try.func50 rfl trivial ?_ rfl
  simp only [Try.ntmps50, List.size_toArray, List.length_cons, List.length_nil, Nat.reduceAdd, Nat.reduceSub, Array.replicate_succ, Array.replicate_zero, List.push_toArray, List.append_toArray, List.nil_append, List.cons_append]
  gi_wp2_with fail
  refine region_calm ?_
  have hfn : Fence.wide.fn 10 := trivial
  have hn1 : 1 ≤ 8 := by omega
  obtain ⟨Wb, hWb⟩ : ∃ Wb, Wb = (((W.alloc (.cells #[.func (.yield l) #[] #[]] 35)).alloc (.cells #[.pointer (some ⟨rb, 0, none⟩)] 32)).alloc (.cells #[.int .i64 z] 3)).drew := ⟨_, rfl⟩
  refine wpIn_mono (Q := Exit.then (fun a' w' => { tmps := #[.func (.yield l) #[] #[], .pointer (some ⟨b1, 0, none⟩), .pointer (some ⟨b2, 0, none⟩), .pointer (some ⟨b3, 0, none⟩), .pointer (some ⟨b4, 0, none⟩), .pointer (some ⟨W.heap.size, 0, none⟩), undef, .pointer (some ⟨nb, 0, none⟩), .pointer (some ⟨nb, 0, none⟩), .pointer (some ⟨nb, 0, none⟩), .pointer (some ⟨rb, 0, none⟩), .int .i64 z, .func (.func 33) #[] #[.pointer (some ⟨W.heap.size + 1, 0, none⟩), .pointer (some ⟨W.heap.size + 1 + 1, 0, none⟩)], undef, undef, undef, undef, undef, undef, undef, undef, undef, undef, undef, undef, undef, undef, undef, undef, undef, undef, undef, undef, undef], defers := [] } = a' ∧ Wb = w') (fun _ _ _ => False)) ?_ ?_
  · gi_region_with_o (gi_at_call 10; refine (callsIn_wide.2 (nodes_fn rb z _)).mono ?_; rintro e z1 ⟨rfl, hz1⟩; subst hz1)
    all_goals exact ⟨rfl, hWb⟩
  rintro e a' w' h
  cases e <;> first | exact h.elim | skip
  obtain ⟨rfl, rfl⟩ := h
  simp only [Exit.then]
  gi_wp2_with fail
  focus
    have zb : Wb.heap.size = W.heap.size + 1 + 1 + 1 := by rw [hWb]; simp
    have xb : Ext W Wb := by rw [hWb]; exact ((((Ext.refl W).alloc _).alloc _).alloc _).drew
    have y5 : Wb.cell? ⟨W.heap.size, 0, none⟩ = some (.func (.yield l) #[] #[]) := by rw [hWb]; exact ((World.cell?_alloc_past _ _ _ (by simp; omega)).trans ((two1 ..).trans rfl))
    have y6 : Wb.cell? ⟨W.heap.size + 1, 0, none⟩ = some (.pointer (some ⟨rb, 0, none⟩)) := by rw [hWb]; exact ((World.cell?_alloc_past _ _ _ (by simp)).trans ((two2 ..).trans rfl))
    have y7 : Wb.cell? ⟨W.heap.size + 1 + 1, 0, none⟩ = some (.int .i64 z) := by rw [hWb]; exact (al3 ..).trans rfl
    clear hWb
    have hWs := hW.sz
    have up : ∀ {β : Type} {I : β → World → Prop}, OwnFrom W.heap.size I → OwnFrom Wb.heap.size I := fun h s X Y r hs hg hr => h s X Y r hs hg (fun k e => ⟨by have := (hr k e).1; omega, (hr k e).2⟩)
    have kcI : OwnFrom Wb.heap.size (fun (_ : List Nat) V => Kc ob Wb V) := fun s X Y r hs hg hr => ⟨Nat.le_trans hs.size hg.size, fun k o hk hc hn => (hg.block k (Array.getElem?_eq_some_iff.1 (hs.blk k o hk hc hn)).1 (fun e => by obtain ⟨-, o', h1, h2⟩ := hr k e.symm; rw [hs.blk k o hk hc hn] at h1; cases h1; rw [h2] at hc; cases hc)).trans (hs.blk k o hk hc hn)⟩
    refine wpIn_gives (nodes_gives z ob (W.heap.size + 1) (W.heap.size + 1 + 1) Wb (rowI rows z) rfl hM (L0.rr.kept xb) y6 y7 n1 n2 n3 (by omega)) (Ext.refl _) rfl (enters_of Try.func33 (by kernel_rfl) rfl) rfl
      (fun pre V => J (pre.filter (fun x => T x == tag && p x)) V ∧ Kc ob Wb V) (fun c pre V => c = .ret ∧ Jx (pre.filter (fun x => T x == tag && p x)) V)
      ((fun s X Y r hs hg hr => ⟨up hJ _ X Y r hs.1 hg hr, kcI s X Y r hs.2 hg hr⟩))
      (fun c s X Y r hs hg hr => ⟨hs.1, up hJx _ X Y r hs.2 hg hr⟩)
      ⟨hJ _ _ _ _ h0 xb.gb (fun _ h => by cases h), Kc.of_ext (Ext.refl _)⟩
      (fun x => { tmps := #[.func (.yield l) #[] #[], .pointer (some ⟨b1, 0, none⟩), .pointer (some ⟨b2, 0, none⟩), .pointer (some ⟨b3, 0, none⟩), .pointer (some ⟨b4, 0, none⟩), .pointer (some ⟨W.heap.size, 0, none⟩), .int .i64 (x : Int), .pointer (some ⟨nb, 0, none⟩), .pointer (some ⟨nb, 0, none⟩), .pointer (some ⟨nb, 0, none⟩), .pointer (some ⟨rb, 0, none⟩), .int .i64 z, .func (.func 33) #[] #[.pointer (some ⟨W.heap.size + 1, 0, none⟩), .pointer (some ⟨W.heap.size + 1 + 1, 0, none⟩)], .int .i64 (x : Int), undef, undef, undef, undef, undef, undef, undef, undef, undef, undef, undef, undef, undef, undef, undef, undef, undef, undef, undef, undef], defers := [] }) ?assign ?body ?done ?stop
    case assign =>
      intro l2 x V K hK
      gi_wp2
      exact hK
    case body =>
      rintro l2 pre x V hx ⟨hj, hk⟩
      have v1 := hk.cell ((xb.cell (p := ⟨b1, 0, none⟩) t1).trans c1) m1
      have v3 := hk.cell ((xb.cell (p := ⟨b3, 0, none⟩) (block_lt_of_cell c3)).trans c3) m3
      have v4 := hk.cell ((xb.cell (p := ⟨b4, 0, none⟩) (block_lt_of_cell c4)).trans c4) m4
      have v5 := hk.cell y5 (by omega)
      have LV := (L0.kept xb).kc hM hN hk n0 n0' n1 n2 n3
      have w1 := LV.c1
      have w2 := LV.t x hx
      have kc1 : Kc ob w V := ((Kc.of_ext hW).trans (Kc.of_ext xb)).trans hk
      have q1 : (x : Int) < (N : Int) := by omega
      have q2 : (0 : Int) ≤ (x : Int) := by omega
      have hen := hF.en
      have hfa : ∀ k, Fence.wide.fn k := fun _ => trivial
      have hp1 : 1 ≤ 5 := by omega
      have fsay : ∀ (b : Bool), p x = b → ∀ k, CallsIn Fence.wide 4 Try.prog f (#[.int .i64 (x : Int)] ++ caps) (V.drewN k) fun e w'' => e = .returned (.bool b) ∧ ∃ m, w'' = V.drewN m := fun b hb k =>
        (callsIn_wide.2 (hF.says x _ hx (kc1.trans (Kc.of_ext ((Ext.refl V).drewN k))))).mono (fun e w'' h => ⟨by rw [← hb]; exact h.1, k, h.2⟩)
      have jd : ∀ k, J (pre.filter (fun x => T x == tag && p x)) (V.drewN k) := fun k => hJ _ _ _ _ hj ((Ext.refl V).drewN k).gb (fun _ h => by cases h)
      have yv : ∀ k, YieldAt Fence.wide 4 Try.prog l #[.int .i64 (x : Int)] (V.drewN k) fun e W' => ∃ b, e = .returned (.bool b) ∧ ((b = true ∧ J (pre.filter (fun x => T x == tag && p x) ++ [x]) W' ∧ Kc ob (V.drewN k) W' ∧ KeepsFrom W.heap.size (V.drewN k) W') ∨ (b = false ∧ Jx (pre.filter (fun x => T x == tag && p x) ++ [x]) W' ∧ KeepsFrom W.heap.size (V.drewN k) W')) := fun k => yield_any 4 (hY _ x _ hx (jd k))
      have kf : ∀ k, KeepsFrom Wb.heap.size V (V.drewN k) := fun k => ⟨Nat.le_refl _, fun _ _ _ h _ => h⟩
      have kk : ∀ k, Kc ob V (V.drewN k) := fun k => Kc.of_ext ((Ext.refl V).drewN k)
      have fno : (T x == tag && p x) = false → (pre ++ [x]).filter (fun x => T x == tag && p x) = pre.filter (fun x => T x == tag && p x) := fun h => by simp [List.filter_append, h]
      have fyes : (T x == tag && p x) = true → (pre ++ [x]).filter (fun x => T x == tag && p x) = pre.filter (fun x => T x == tag && p x) ++ [x] := fun h => by simp [List.filter_append, h]
      clear hY hJ hJx hF kc1 LV hj h0
      by_cases hT : T x = tag
      · have hd : (T x == tag) = true := by simp [hT]
        by_cases hp : p x = true
        · have ff := Lib.hid (fyes (by rw [hd, hp]; rfl))
          clear fno fyes
          dsimp only
          refine wpIn_block ?_
          apply wpIn_seq
          refine region_tail_round 17 hmix (by kernel_rfl) (by kernel_rfl) ?_
          simp only [List.take_succ_cons, List.take_zero, List.drop_succ_cons, List.drop_zero]
          repeat (gi_big_quiet_step (exact fsay true hp _))
          refine wpQuietIn_nil ?_
          rintro w' ⟨k, rfl⟩
          obtain ⟨fn, tm, asg, bd, hy, hRd⟩ := yv k
          clear fsay yv
          gi_wp2_with fail
          refine hRd.mono ?_
          rintro e z2 ⟨b, rfl, ⟨rfl, j2, k2, f2⟩ | ⟨rfl, j2, f2⟩⟩
          · gi_wp2_with fail
            have f3 : KeepsFrom Wb.heap.size (V.drewN k) z2 := ⟨f2.size, fun k o hk => f2.same k o (by omega)⟩
            exact ⟨(kf k).trans f3, (kk k).trans k2, by rw [ff.out]; exact j2, hk.trans ((kk k).trans k2)⟩
          · gi_wp2_with fail
            have f3 : KeepsFrom Wb.heap.size (V.drewN k) z2 := ⟨f2.size, fun k o hk => f2.same k o (by omega)⟩
            exact ⟨(kf k).trans f3, rfl, by rw [ff.out]; exact j2⟩
        · have hp' : p x = false := by simpa using hp
          have ff := Lib.hid (fno (by rw [hp']; simp))
          clear fno fyes
          dsimp only
          refine wpIn_block ?_
          apply wpIn_seq
          refine region_quiet_round hmix (by kernel_rfl) (by kernel_rfl) ?_
          repeat (gi_big_quiet_step (exact fsay false hp' _))
          refine wpQuietIn_nil ?_
          rintro w' ⟨k, rfl⟩
          simp only [Exit.then]
          gi_wp2_with fail
          exact ⟨kf k, kk k, by rw [ff.out]; exact jd k, hk.trans (kk k)⟩
      · have hd : (T x == tag) = false := by simp [hT]
        have ff := Lib.hid (fno (by rw [hd]; rfl))
        clear fno fyes
        dsimp only
        refine wpIn_block ?_
        apply wpIn_seq
        refine region_quiet_round hmix (by kernel_rfl) (by kernel_rfl) ?_
        repeat (gi_big_quiet_step (fail))
        refine wpQuietIn_nil ?_
        rintro w' ⟨k, rfl⟩
        simp only [Exit.then]
        gi_wp2_with fail
        exact ⟨kf k, kk k, by rw [ff.out]; exact jd k, hk.trans (kk k)⟩
    case done =>
      rintro D V hD ⟨hj, hk⟩ hd
      gi_wp2
      refine ⟨by simp, .inl ⟨_, _, rfl, run_takeDeferred hd, ?_⟩⟩
      refine ⟨_, results_none rfl _ _ _, ⟨_, rfl⟩, .inl ?_⟩
      rw [HR.out]
      exact up hJ _ _ _ _ hj (grownBy_putObj' V D _) (fun r e => by cases e; exact ⟨hD, _, hd, rfl⟩)
    case stop =>
      rintro D c pre V hD hpre ⟨rfl, hj⟩ hd
      gi_wp2
      refine ⟨by simp, .inl ⟨_, _, rfl, run_takeDeferred hd, ?_⟩⟩
      refine ⟨_, results_none rfl _ _ _, ⟨_, rfl⟩, .inr ⟨_, ?_, up hJx _ _ _ _ hj (grownBy_putObj' V D _) (fun r e => by cases e; exact ⟨hD, _, hd, rfl⟩)⟩⟩
      rw [HR.out]
      obtain ⟨t, ht⟩ := hpre
      rw [← ht, List.filter_append]
      exact List.prefix_append _ _
end
end Go.Proofs.Ytnlcbilmalfjaaa
