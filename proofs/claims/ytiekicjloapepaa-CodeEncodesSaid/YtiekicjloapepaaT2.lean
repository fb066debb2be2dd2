/- A part of the proof of a law of roundel: contracts of functions and lemmas, each true as it stands; no condition beyond those that its theorems state. -/
import Derived.Test.YtiekicjloapepaaT
namespace Go.Proofs.Ytiekicjloapepaa
set_option linter.unusedSimpArgs false
set_option linter.unusedVariables false
open Go.RowKit

/-- The conversion of the document's bytes, under a name: its operand is known only behind the call that makes it. -/
def cv68 : Op := .convert 27 9 (.tmp 68)
theorem cv68_def : Op.convert 27 9 (.tmp 68) = cv68 := rfl

set_option maxHeartbeats 4000000 in
theorem encodes_good (op : Int) (h0 : 0 ≤ op) (h1 : op ≤ 255) (A B M : Int) (hM0 : 0 ≤ M) (hM : M < 18446744073709551616) (X : Option Addr) (m c : Nat) (l : List Int) (hXc : X = none → c = 0) (hm : m ≤ 100) (hmc : m ≤ c) (hc63 : c ≤ 9223372036854775807)
    (hg : goodB op.toNat A B M = true) (w : World) (hr : Rd w X m l) :
    Calls Try.prog 6 #[.int .u8 op, .agg #[.int .i64 A, .int .i64 B, .int .u64 M], .slice X m c] w fun e w' => e = .returned (.bool true) ∧ Ext w w' := by
  have hm' : (m : Int) ≤ 100 := by omega
  have HB := Lib.hid hg
  clear hg
  go_enter Try.func6, Try.ntmps6
  go_wp2_with (first
    | (go_at_call 8; refine (awake_any _).mono ?_; rintro e w1 ⟨rfl, he1⟩; obtain ⟨he1c, he1f⟩ := Ext.cells he1; have he1z := Ext.sz he1; (try simp only [World.size_alloc, World.size_drew, World.heap_drewN, World.size_setCell] at he1z); have he1x0 : w.heap.size < w1.heap.size := (by omega); have he1y0 : w.heap.size < w1.heap.size + 1 := (by omega); have he1p0 := fun o => he1c (w.heap.size) o (by first | omega | (simp only [World.size_alloc, World.size_drew, World.heap_drewN, World.size_setCell] <;> omega)); have he1q0 := fun o => he1f (w.heap.size) o (by first | omega | (simp only [World.size_alloc, World.size_drew, World.heap_drewN, World.size_setCell] <;> omega)); have he1x1 : w.heap.size + 1 < w1.heap.size := (by omega); have he1y1 : w.heap.size + 1 < w1.heap.size + 1 := (by omega); have he1p1 := fun o => he1c (w.heap.size + 1) o (by first | omega | (simp only [World.size_alloc, World.size_drew, World.heap_drewN, World.size_setCell] <;> omega)); have he1q1 := fun o => he1f (w.heap.size + 1) o (by first | omega | (simp only [World.size_alloc, World.size_drew, World.heap_drewN, World.size_setCell] <;> omega)))
    | (go_at_call 11; refine (real_int op h0 h1 _ _ _ _).mono ?_; rintro e w2 ⟨rfl, he2⟩; obtain ⟨he2c, he2f⟩ := Ext.cells he2; have he2z := Ext.sz he2; (try simp only [World.size_alloc, World.size_drew, World.heap_drewN, World.size_setCell] at he2z); have he2x0 : w.heap.size < w2.heap.size := (by omega); have he2y0 : w.heap.size < w2.heap.size + 1 := (by omega); have he2p0 := fun o => he2c (w.heap.size) o (by first | omega | (simp only [World.size_alloc, World.size_drew, World.heap_drewN, World.size_setCell] <;> omega)); have he2q0 := fun o => he2f (w.heap.size) o (by first | omega | (simp only [World.size_alloc, World.size_drew, World.heap_drewN, World.size_setCell] <;> omega)); have he2x1 : w.heap.size + 1 < w2.heap.size := (by omega); have he2y1 : w.heap.size + 1 < w2.heap.size + 1 := (by omega); have he2p1 := fun o => he2c (w.heap.size + 1) o (by first | omega | (simp only [World.size_alloc, World.size_drew, World.heap_drewN, World.size_setCell] <;> omega)); have he2q1 := fun o => he2f (w.heap.size + 1) o (by first | omega | (simp only [World.size_alloc, World.size_drew, World.heap_drewN, World.size_setCell] <;> omega))))
  refine calls_abs (fun W => C4 W (w.heap.size + 1) op A B M ∧ w.heap.size + 1 < W.heap.size ∧ Ext w W) ?_ ?_
  · refine ⟨⟨?_, ?_, ?_, ?_⟩, he2x1, ?_⟩
    · rw [he2p1, he1p1]; simp [go_sem]
    · rw [he2p1, he1p1]; simp [go_sem]
    · rw [he2p1, he1p1]; simp [go_sem]
    · rw [he2p1, he1p1]; simp [go_sem]
    · (repeat (first | with_reducible exact Ext.refl _ | with_reducible assumption | with_reducible apply Ext.drew | with_reducible apply Ext.drewN | with_reducible apply Ext.alloc | (with_reducible refine Ext.setCell ?_ (by simp <;> omega) _) | (with_reducible refine Ext.trans ?_ (by with_reducible assumption))))
  clear he1c he1f he1p0 he1q0 he1p1 he1q1 he2c he2f he2p0 he2q0 he2p1 he2q1
  rintro W0 ⟨k0, s0, e0⟩
  refine (enc_int op h0 h1 A B M hM0 hM HB.out W0).mono ?_
  rintro e w3 ⟨A3, n3, c3, l3, rfl, hl3, hnc3, hc3, hn3, hm3, r3, o3, he3⟩
  have hs3 : ∀ W, Ext w3 W → C4 W (w.heap.size + 1) op A B M := fun W hW => k0.ext s0 (he3.trans hW)
  have k3 := hs3 w3 (Ext.refl _)
  have HS := Lib.hid hs3
  have e3 := e0.trans he3
  unfold C4 at k3
  obtain ⟨a0, a1, a2, a3⟩ := k3
  clear hs3 k0 o3
  go_wp2_with fail
  go_region_held3 (fun W => W.cell? ⟨w.heap.size + 1, 0, none⟩ = some (.int .i64 op) ∧ W.cell? ⟨w.heap.size + 1, 1, none⟩ = some (.int .i64 A) ∧ W.cell? ⟨w.heap.size + 1, 2, none⟩ = some (.int .i64 B) ∧ W.cell? ⟨w.heap.size + 1, 3, none⟩ = some (.int .u64 M))
    (exact HS.out _ (by (repeat (first | with_reducible exact Ext.refl _ | with_reducible assumption | with_reducible apply Ext.drew | with_reducible apply Ext.drewN | with_reducible apply Ext.alloc | (with_reducible refine Ext.setCell ?_ (by simp <;> omega) _) | (with_reducible refine Ext.trans ?_ (by with_reducible assumption))))))
    (first
      | (go_at_call 11; (with_reducible refine (real_int op h0 h1 _ _ _ _).mono ?_); rintro e w8 ⟨rfl, he8⟩)
      | (go_at_call 20; (with_reducible refine (good_g op h0 _ _ _ true HB.out _).mono ?_); rintro e w9 ⟨rfl, he9⟩)
      | (go_at_call 9; (with_reducible refine (rgood_g op h0 _ _ _ true HB.out _).mono ?_); rintro e w10 ⟨rfl, he10⟩))
  rename_i hH
  obtain ⟨b0, b1, b2, b3⟩ := hH
  have hAn : A3 = none → c3 = 0 := fun h => by
    subst h
    obtain ⟨b, o, h, _⟩ := r3.2.2 (by omega)
    cases h
  go_wp2_with (first
    | (go_at_call 9; refine (rgood_g op h0 _ _ _ true HB.out _).mono ?_; rintro e w11 ⟨rfl, he11⟩)
    | (at_builtin; refine wpList_append_rd rfl (.tmp 53) (.tmp 54) rfl w11.heap.size _ [] rfl (OwnB.nil_lit w11 5 rfl) A3 n3 c3 l3 rfl hAn (r3.ext (by (repeat (first | with_reducible exact Ext.refl _ | with_reducible assumption | with_reducible apply Ext.drew | with_reducible apply Ext.drewN | with_reducible apply Ext.alloc | (with_reducible refine Ext.setCell ?_ (by simp <;> omega) _) | (with_reducible refine Ext.trans ?_ (by with_reducible assumption)))))) ?_ (by simp) ?_; (simp; omega); intro v12 w12 o12 b12; have e311 : Ext w3 w11 := (by (repeat (first | with_reducible exact Ext.refl _ | with_reducible assumption | with_reducible apply Ext.drew | with_reducible apply Ext.drewN | with_reducible apply Ext.alloc | (with_reducible refine Ext.setCell ?_ (by simp <;> omega) _) | (with_reducible refine Ext.trans ?_ (by with_reducible assumption))))); have ew11 : Ext w w11 := e3.trans e311; have ew12 := Ext.step (ew11.alloc _) b12 ew11.sz; have e312 := Ext.step (e311.alloc _) b12 e311.sz; rw [List.nil_append] at o12)
    | (at_builtin; refine wpList_append_rd rfl (.tmp 55) (.tmp 56) rfl w11.heap.size v12 _ rfl o12 X m c l rfl hXc (hr.ext ew12) ?_ ?_ ?_; (have := r3.1; omega); (have z := b12.size; simp at z; omega); intro v13 w13 o13 b13))
  have ew13 := Ext.step ew12 b13 ew11.sz
  have e313 := Ext.step e312 b13 e311.sz
  have hby : ∀ x ∈ l3 ++ l, 0 ≤ x ∧ x ≤ 255 := fun x hx => by
    rcases List.mem_append.1 hx with h | h
    · exact r3.2.1 x h
    · exact hr.2.1 x h
  obtain ⟨A13, c13, rfl, hn13, hc13, r13⟩ := own_rd o13 hby
  have hln := r3.1
  have hlm := hr.1
  refine calls_abs (fun W => Rd W A13 (l3 ++ l).length (l3 ++ l) ∧ Ext w3 W ∧ Ext w W) ⟨r13, e313, ew13⟩ ?_
  clear b13 b12 o12 o13 ew12 e312 ew13 e313 r13 b0 b1 b2 b3 he8 he9 he10 he11
  rintro W13 ⟨r13, e313, ew13⟩
  refine (dec_enc_g op h0 h1 A B M hM0 hM HB.out l3 l hl3.out n3 r3.1 hr.2.1 A13 _ c13 (by rw [List.length_append]; omega) hn13 hc13 W13 r13).mono ?_
  rintro e w14 ⟨rfl, he14⟩
  have e314 := e313.trans he14
  have ew14 := ew13.trans he14
  clear r13 a0 a1 a2 a3 he14
  go_wp2_with fail
  refine wp_abs (fun W => ∀ W', Ext W W' → (C4 W' (w.heap.size + 1) op A B M ∧ (W'.cell? ⟨w14.heap.size, 0, none⟩ = some (.int .u8 op) ∧ W'.cell? ⟨w14.heap.size, 1, none⟩ = some (.int .i64 A) ∧ W'.cell? ⟨w14.heap.size, 2, none⟩ = some (.int .i64 B) ∧ W'.cell? ⟨w14.heap.size, 3, none⟩ = some (.int .u64 M)) ∧
      (convert 27 9 (.slice A3 n3 c3)).run Try.prog W' = .ok (.string (strOf l3)) W' ∧ Ext w W')) ?_ ?_
  · intro W' hW
    have z := fun o => (hW.cell (p := ⟨w14.heap.size, o, none⟩) (by simp)).trans (World.cell?_alloc_new _ _ _ _)
    exact ⟨HS.out _ (e314.alloc _ |>.trans hW), ⟨(z 0).trans rfl, (z 1).trans rfl, (z 2).trans rfl, (z 3).trans rfl⟩, conv_rd A3 n3 c3 l3 _ (r3.ext (e314.alloc _ |>.trans hW)), ew14.alloc _ |>.trans hW⟩
  intro W15 hS
  have HS2 := Lib.hid hS
  obtain ⟨⟨a0, a1, a2, a3⟩, ⟨b0, b1, b2, b3⟩, cv, ew15⟩ := hS W15 (Ext.refl _)
  have hlk : (encL op.toNat A B M).length = n3 := by rw [← hl3.out]; exact hln
  have HK := Lib.hid hlk
  have se : ((strOf l3).toList == (strOf l3).toList) = true := by simp
  clear hS hlk hln r3 e314 ew14 e313 ew13 hby
  rw [cv68_def]
  have hcv := cv68_def.symm
  go_region_held3 (fun W' => (W'.cell? ⟨w.heap.size + 1, 0, none⟩ = some (.int .i64 op) ∧ W'.cell? ⟨w.heap.size + 1, 1, none⟩ = some (.int .i64 A) ∧ W'.cell? ⟨w.heap.size + 1, 2, none⟩ = some (.int .i64 B) ∧ W'.cell? ⟨w.heap.size + 1, 3, none⟩ = some (.int .u64 M)) ∧ (W'.cell? ⟨w14.heap.size, 0, none⟩ = some (.int .u8 op) ∧ W'.cell? ⟨w14.heap.size, 1, none⟩ = some (.int .i64 A) ∧ W'.cell? ⟨w14.heap.size, 2, none⟩ = some (.int .i64 B) ∧ W'.cell? ⟨w14.heap.size, 3, none⟩ = some (.int .u64 M)) ∧
      (convert 27 9 (.slice A3 n3 c3)).run Try.prog W' = .ok (.string (strOf l3)) W' ∧ Ext w W')
    (exact HS2.out _ (by (repeat (first | with_reducible exact Ext.refl _ | with_reducible assumption | with_reducible apply Ext.drew | with_reducible apply Ext.drewN | with_reducible apply Ext.alloc | (with_reducible refine Ext.setCell ?_ (by simp <;> omega) _) | (with_reducible refine Ext.trans ?_ (by with_reducible assumption))))))
    (first
      | (go_at_call 21; (with_reducible refine (renc_g op h0 h1 _ _ _ hM0 hM HB.out l3 hl3 _).mono ?_); rintro e w21 ⟨v21, rfl, cq21, ck21, cd21, he21⟩)
      | (go_at_call 19; (with_reducible refine (is_g op h0 h1 _ _ _ _).mono ?_); rintro e w22 ⟨rfl, he22⟩)
      | (go_at_call 16; (with_reducible refine (size_g op h0 _ _ _ HB.out n3 HK.out _).mono ?_); rintro e w23 ⟨rfl, he23⟩))
  rename_i hH
  have ewE := hH.2.2.2
  go_wp2_with fail
  go_ret
  exact ⟨by simp, by (repeat (first | with_reducible exact Ext.refl _ | with_reducible assumption | with_reducible apply Ext.drew | with_reducible apply Ext.drewN | with_reducible apply Ext.alloc | (with_reducible refine Ext.setCell ?_ (by simp <;> omega) _) | (with_reducible refine Ext.trans ?_ (by with_reducible assumption))))⟩
end Go.Proofs.Ytiekicjloapepaa
