/- A part of the proof of a law of roundel: contracts of functions and lemmas, each true as it stands; no condition beyond those that its theorems state. -/
import Derived.Test.YtiekicjloapepaaJ
namespace Go.Proofs.Ytiekicjloapepaa
set_option linter.unusedSimpArgs false
set_option linter.unusedVariables false
open Go.RowKit

theorem Ext.grownNone {w w' : World} (h : Ext w w') : w.grownBy w' none := ⟨h.os, h.tape, h.output, h.size, fun k hk _ => h.block k hk⟩
theorem OwnB.ext {w w' : World} {B : Nat} {v : Value} {l : List Int} (h : OwnB w B v l) (he : Ext w w') : OwnB w' B v l :=
  World.ownsRow.kept h he.grownNone (by
    rcases hv : v.ownBlock with _ | g
    · exact .inl rfl
    · exact .inr (by simp))

theorem number_int (N K : Int) (hK0 : 0 ≤ K) (hK : K ≤ 8) (hN0 : 0 ≤ N) (hN : N < 18446744073709551616) (w : World) :
    Calls Try.prog 29 #[.int .u64 N, .int .i64 K] w fun e w' => e = .returned (.slice (some ⟨w.heap.size, 0, none⟩) K.toNat K.toNat) ∧
      OwnB w' w.heap.size (.slice (some ⟨w.heap.size, 0, none⟩) K.toNat K.toNat) (beL K.toNat N.toNat) ∧ Ext w w' := by
  obtain ⟨k, rfl⟩ := Int.eq_ofNat_of_zero_le hK0
  obtain ⟨n, rfl⟩ := Int.eq_ofNat_of_zero_le hN0
  exact number_any n k (by omega) (by omega) w

/-- append(out, x...) of a row of the call's own onto another one. -/
theorem wpList_append_bytes {w : World} {ops : Array Oper} {rest : List Oper} {o : Oper} {a : Act} {Q : Exit → Act → World → Prop} (hgd : o.guard = none) (s x : Operand)
    (ho : o.op = .call { callee := .builtin .append, args := #[s, x], argTypes := #[27, 27] })
    (B : Nat) (v : Value) (l : List Int) (hs : a.eval s = v) (hown : OwnB w B v l)
    (g m c B' : Nat) (l' : List Int) (hx : a.eval x = .slice (some ⟨g, 0, none⟩) m c) (hown' : OwnB w B' (.slice (some ⟨g, 0, none⟩) m c) l') (hm : l'.length = m)
    (hl : l.length + m ≤ 100000) (hB : B ≤ w.heap.size)
    (h : ∀ v' w', OwnB w' B v' (l ++ l') → Below B w w' → wpList Try.prog ops Q rest (a.put o.dst v') w') : wpList Try.prog ops Q (o :: rest) a w := by
  obtain ⟨i0, hi0, hz0, hz1, hz2⟩ := info_parts info5
  subst hm
  refine wpList_append_own_at _ hgd s x 27 ho B 5 i0 (.int .u8 0) 1 1 Try.underlying27 hi0 hz0 hz1 hz2 rfl (by decide) v l.length (l.map (Value.int .u8)) hs hown ⟨g, 0, none⟩ l'.length c (l'.map (Value.int .u8)) hx (by simp) ?_ ?_ (by unfold maxLen; omega) (by omega) hB ?_
  · exact World.ownsRow.cells hown' rfl
  · intro u hu
    obtain ⟨x, _, rfl⟩ := List.mem_map.1 hu
    rfl
  · intro v' w' hown1 hg _ hat
    refine h v' w' ?_ ((Below.refl _ _).grown hg hB (fun k hk => (World.ownsRow.lt hown k hk).1))
    unfold OwnB
    simpa using hown1

set_option maxHeartbeats 2000000 in
theorem renc_any (n : Nat) (A B M : Int) (hM0 : 0 ≤ M) (hM : M < 18446744073709551616) (h : goodB n A B M = true) (w : World) :
    Calls Try.prog 21 #[.agg #[.int .i64 (n : Int), .int .i64 A, .int .i64 B, .int .u64 M]] w
      fun e w' => ∃ v, e = .returned v ∧ OwnB w' w.heap.size v (encL n A B M) ∧ Ext w w' := by
  have hg := h
  simp only [goodB, Bool.and_eq_true] at hg
  obtain ⟨⟨⟨h0, h1⟩, h2⟩, _⟩ := hg
  obtain ⟨hA0, hA⟩ := fits_lt (wa_fit n) h1
  obtain ⟨hB0, hB⟩ := fits_lt (wb_fit n) h2
  have ha := wa_in n
  have hb' := wb_in n
  have hm := wm_in n
  have hn : 1 ≤ n ∧ n ≤ 19 := by simpa [isOp] using h0
  have hn1 := hn.1
  have hn2 := hn.2
  have ha0 : 0 ≤ wa n := by omega
  have ha1 : wa n ≤ 8 := by omega
  have hb0 : 0 ≤ wb n := by omega
  have hb1 : wb n ≤ 8 := by omega
  have hm0 : 0 ≤ wm n := by omega
  have hm1 : wm n ≤ 8 := by omega
  have hA64 : A < 18446744073709551616 := by omega
  have hB64 : B < 18446744073709551616 := by omega
  clear ha hb' hm h1 h2 hn h
  go_enter Try.func21, Try.ntmps21
  go_wp2_with (first | (go_at_call 13; refine (widths_any _ h0 _).mono ?_; rintro e w2 ⟨rfl, rfl⟩))
  refine calls_abs (fun W => OwnB W (w.heap.size + 1) (.slice (some ⟨w.heap.size + 1, 0, none⟩) 1 1) [(n : Int)] ∧ W.cell? ⟨w.heap.size, 2, none⟩ = some (.int .i64 B) ∧ W.cell? ⟨w.heap.size, 3, none⟩ = some (.int .u64 M) ∧ w.heap.size + 1 ≤ W.heap.size ∧ Ext w W)
    ⟨OwnB.lit _ _ _ (by simp) (by simp) _, by simp [go_sem], by simp [go_sem], by simp, by (repeat (first | with_reducible exact Ext.refl _ | with_reducible assumption | with_reducible apply Ext.drew | with_reducible apply Ext.drewN | with_reducible apply Ext.alloc | (with_reducible refine Ext.setCell ?_ (by simp <;> omega) _) | (with_reducible refine Ext.trans ?_ (by with_reducible assumption))))⟩ ?_
  rintro W0 ⟨o0, c02, c03, s0, e0⟩
  refine (number_int A (wa n) ha0 ha1 hA0 hA64 W0).mono ?_
  rintro e W1 ⟨rfl, x1, he1⟩
  have o1 := OwnB.ext o0 he1
  have c12 := (he1.cell (p := ⟨w.heap.size, 2, none⟩) (by exact s0)).trans c02
  have c13 := (he1.cell (p := ⟨w.heap.size, 3, none⟩) (by exact s0)).trans c03
  have s1 : w.heap.size + 1 ≤ W1.heap.size := Nat.le_trans s0 he1.sz
  have e1 := e0.trans he1
  clear c02 c03 o0
  obtain ⟨g1, hg1⟩ : ∃ g, g = W0.heap.size := ⟨_, rfl⟩
  rw [← hg1] at x1 ⊢
  clear hg1
  have la : (beL (wa n).toNat A.toNat).length = (wa n).toNat := beL_length _ _
  have lb : (beL (wb n).toNat B.toNat).length = (wb n).toNat := beL_length _ _
  have lm : (beL (wm n).toNat M.toNat).length = (wm n).toNat := beL_length _ _
  have LA := Lib.hid la
  have LB := Lib.hid lb
  have LM := Lib.hid lm
  clear la lb lm
  go_wp2_with (first | (at_builtin; refine wpList_append_bytes rfl (.tmp 18) (.tmp 23) rfl (w.heap.size + 1) _ [(n : Int)] rfl o1 g1 _ _ _ (beL (wa n).toNat A.toNat) rfl x1 LA.out ?_ s1 ?_; (simp [beL_length]; omega); intro v2 W2 o2 b2; have c22 := (Below.cell (p := ⟨w.heap.size, 2, none⟩) b2 (Nat.lt_succ_self _)).trans c12; have c23 := (Below.cell (p := ⟨w.heap.size, 3, none⟩) b2 (Nat.lt_succ_self _)).trans c13))
  have s2 : w.heap.size + 1 ≤ W2.heap.size := Nat.le_trans s1 b2.size
  have e2 : Ext w W2 := e1.step b2 (Nat.le_succ _)
  refine (number_int B (wb n) hb0 hb1 hB0 hB64 W2).mono ?_
  rintro e W3 ⟨rfl, x3, he3⟩
  have o3 := OwnB.ext o2 he3
  have c32 := (he3.cell (p := ⟨w.heap.size, 2, none⟩) (by exact s2)).trans c22
  have c33 := (he3.cell (p := ⟨w.heap.size, 3, none⟩) (by exact s2)).trans c23
  have s3 : w.heap.size + 1 ≤ W3.heap.size := Nat.le_trans s2 he3.sz
  have e3 := e2.trans he3
  clear c22 c23 o2
  obtain ⟨g2, hg2⟩ : ∃ g, g = W2.heap.size := ⟨_, rfl⟩
  rw [← hg2] at x3 ⊢
  clear hg2
  go_wp2_with (first | (at_builtin; refine wpList_append_bytes rfl (.tmp 25) (.tmp 30) rfl (w.heap.size + 1) _ ([(n : Int)] ++ (beL (wa n).toNat A.toNat)) rfl o3 g2 _ _ _ (beL (wb n).toNat B.toNat) rfl x3 LB.out ?_ s3 ?_; (simp [beL_length]; omega); intro v4 W4 o4 b4; have c42 := (Below.cell (p := ⟨w.heap.size, 2, none⟩) b4 (Nat.lt_succ_self _)).trans c32; have c43 := (Below.cell (p := ⟨w.heap.size, 3, none⟩) b4 (Nat.lt_succ_self _)).trans c33))
  have s4 : w.heap.size + 1 ≤ W4.heap.size := Nat.le_trans s3 b4.size
  have e4 : Ext w W4 := e3.step b4 (Nat.le_succ _)
  refine (number_int M (wm n) hm0 hm1 hM0 hM W4).mono ?_
  rintro e W5 ⟨rfl, x5, he5⟩
  have o5 := OwnB.ext o4 he5
  have c52 := (he5.cell (p := ⟨w.heap.size, 2, none⟩) (by exact s4)).trans c42
  have c53 := (he5.cell (p := ⟨w.heap.size, 3, none⟩) (by exact s4)).trans c43
  have s5 : w.heap.size + 1 ≤ W5.heap.size := Nat.le_trans s4 he5.sz
  have e5 := e4.trans he5
  clear c42 c43 o4
  obtain ⟨g3, hg3⟩ : ∃ g, g = W4.heap.size := ⟨_, rfl⟩
  rw [← hg3] at x5 ⊢
  clear hg3
  go_wp2_with (first | (at_builtin; refine wpList_append_bytes rfl (.tmp 32) (.tmp 36) rfl (w.heap.size + 1) _ ([(n : Int)] ++ (beL (wa n).toNat A.toNat) ++ (beL (wb n).toNat B.toNat)) rfl o5 g3 _ _ _ (beL (wm n).toNat M.toNat) rfl x5 LM.out ?_ s5 ?_; (simp [beL_length]; omega); intro v6 W6 o6 b6; have c62 := (Below.cell (p := ⟨w.heap.size, 2, none⟩) b6 (Nat.lt_succ_self _)).trans c52; have c63 := (Below.cell (p := ⟨w.heap.size, 3, none⟩) b6 (Nat.lt_succ_self _)).trans c53))
  have s6 : w.heap.size + 1 ≤ W6.heap.size := Nat.le_trans s5 b6.size
  have e6 : Ext w W6 := e5.step b6 (Nat.le_succ _)
  go_ret
  exact ⟨v6, rfl, World.ownsRow.mono o6 (Nat.le_succ _), e6⟩
end Go.Proofs.Ytiekicjloapepaa
