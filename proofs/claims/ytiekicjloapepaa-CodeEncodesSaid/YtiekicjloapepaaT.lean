/- A part of the proof of a law of roundel: contracts of functions and lemmas, each true as it stands; no condition beyond those that its theorems state. -/
import Derived.Test.YtiekicjloapepaaR
import Derived.Test.YtiekicjloapepaaS
namespace Go.Proofs.Ytiekicjloapepaa
set_option linter.unusedSimpArgs false
set_option linter.unusedVariables false
open Go.RowKit

theorem dec_enc {n : Nat} {A B M : Int} (h : goodB n A B M = true) (hM0 : 0 ≤ M) (hM : M < 18446744073709551616) (hn : n ≤ 255) (r : List Int) (hr : ∀ x ∈ r, 0 ≤ x ∧ x ≤ 255) :
    fA n (encL n A B M ++ r) = A ∧ fB n (encL n A B M ++ r) = B ∧ fM n (encL n A B M ++ r) = M := by
  have hl := encL_length n A B M
  have ha := wa_in n
  have hb := wb_in n
  have hm := wm_in n
  have hop : isOp n = true := by
    simp only [goodB, Bool.and_eq_true] at h
    exact h.1.1.1
  have hlen : (encL n A B M ++ r).length = (encL n A B M).length + r.length := List.length_append
  obtain ⟨g1, g2, g3, g4⟩ := dec_good (op := n) (l := encL n A B M ++ r) (n := (encL n A B M ++ r).length) hop rfl
    (fun x hx => by
      rcases List.mem_append.1 hx with h | h
      · exact encL_bytes n hn A B M x h
      · exact hr x h) (by omega) (by simp [encL, List.getD])
  have e : (encL n A B M ++ r).take (1 + wa n + wb n + wm n).toNat = encL n A B M := by
    rw [show (1 + wa n + wb n + wm n).toNat = (encL n A B M).length by omega]
    exact List.take_left
  rw [e] at g2
  exact encL_inj g3 g4 hM0 hM g1 h g2

theorem encodes_far (op : Nat) (hop : op ≤ 255) (A B M : Int) (X : Option Addr) (m c : Nat) (hm : 100 < m) (w : World) :
    Calls Try.prog 6 #[.int .u8 (op : Int), .agg #[.int .i64 A, .int .i64 B, .int .u64 M], .slice X m c] w fun e w' => e = .returned (.bool true) ∧ Ext w w' := by
  have hm' : (100 : Int) < (m : Int) := by omega
  have hk : 8 ≤ 8 := by omega
  go_enter Try.func6, Try.ntmps6
  go_wp2_with (first
    | (go_at_call 8; refine (awake_any _).mono ?_; rintro e w1 ⟨rfl, he1⟩; obtain ⟨he1c, he1f⟩ := Ext.cells he1; have he1z := Ext.sz he1; (try simp only [World.size_alloc, World.size_drew, World.heap_drewN, World.size_setCell] at he1z); have he1x0 : w.heap.size < w1.heap.size := (by omega); have he1y0 : w.heap.size < w1.heap.size + 1 := (by omega); have he1p0 := fun o => he1c (w.heap.size) o (by first | omega | (simp only [World.size_alloc, World.size_drew, World.heap_drewN, World.size_setCell] <;> omega)); have he1q0 := fun o => he1f (w.heap.size) o (by first | omega | (simp only [World.size_alloc, World.size_drew, World.heap_drewN, World.size_setCell] <;> omega)); have he1x1 : w.heap.size + 1 < w1.heap.size := (by omega); have he1y1 : w.heap.size + 1 < w1.heap.size + 1 := (by omega); have he1p1 := fun o => he1c (w.heap.size + 1) o (by first | omega | (simp only [World.size_alloc, World.size_drew, World.heap_drewN, World.size_setCell] <;> omega)); have he1q1 := fun o => he1f (w.heap.size + 1) o (by first | omega | (simp only [World.size_alloc, World.size_drew, World.heap_drewN, World.size_setCell] <;> omega))))
  go_ret
  refine ⟨rfl, ?_⟩
  (repeat (first | with_reducible exact Ext.refl _ | with_reducible assumption | with_reducible apply Ext.drew | with_reducible apply Ext.drewN | with_reducible apply Ext.alloc | (with_reducible refine Ext.setCell ?_ (by simp <;> omega) _) | (with_reducible refine Ext.trans ?_ (by with_reducible assumption))))

theorem good_g (op : Int) (h0 : 0 ≤ op) (A B M : Int) (g : Bool) (hg : goodB op.toNat A B M = g) (w : World) :
    Calls Try.prog 20 #[.agg #[.int .u8 op, .int .i64 A, .int .i64 B, .int .u64 M]] w fun e w' => e = .returned (.bool g) ∧ Ext w w' := by
  obtain ⟨n, rfl⟩ := Int.eq_ofNat_of_zero_le h0
  rw [Int.toNat_natCast] at hg
  subst hg
  exact good_any n A B M w

theorem rgood_g (op : Int) (h0 : 0 ≤ op) (A B M : Int) (g : Bool) (hg : goodB op.toNat A B M = g) (w : World) :
    Calls Try.prog 9 #[.agg #[.int .i64 op, .int .i64 A, .int .i64 B, .int .u64 M]] w fun e w' => e = .returned (.bool g) ∧ Ext w w' := by
  obtain ⟨n, rfl⟩ := Int.eq_ofNat_of_zero_le h0
  rw [Int.toNat_natCast] at hg
  have e : rG (n : Int) A B M = g := by
    subst hg
    unfold rG
    rw [Int.toNat_natCast]
    cases h : goodB n A B M with
    | false => simp
    | true =>
      simp only [goodB, Bool.and_eq_true] at h
      have := h.1.1.1
      simp only [isOp, decide_eq_true_eq] at this
      simp
      omega
  subst e
  exact rgood_any n A B M w

theorem enc_bad_g (op : Int) (h0 : 0 ≤ op) (A B M : Int) (hg : goodB op.toNat A B M = false) (w : World) :
    Calls Try.prog 10 #[.agg #[.int .u8 op, .int .i64 A, .int .i64 B, .int .u64 M]] w fun e w' => e = .returned (.tuple #[.slice none 0 0, .int .i64 1]) ∧ Ext w w' := by
  obtain ⟨n, rfl⟩ := Int.eq_ofNat_of_zero_le h0
  rw [Int.toNat_natCast] at hg
  exact enc_bad n A B M hg w

def C4 (W : World) (b : Nat) (op A B M : Int) : Prop :=
  W.cell? ⟨b, 0, none⟩ = some (.int .i64 op) ∧ W.cell? ⟨b, 1, none⟩ = some (.int .i64 A) ∧ W.cell? ⟨b, 2, none⟩ = some (.int .i64 B) ∧ W.cell? ⟨b, 3, none⟩ = some (.int .u64 M)
theorem C4.ext {W W' : World} {b : Nat} {op A B M : Int} (h : C4 W b op A B M) (hb : b < W.heap.size) (he : Ext W W') : C4 W' b op A B M :=
  ⟨(he.cell (p := ⟨b, 0, none⟩) hb).trans h.1, (he.cell (p := ⟨b, 1, none⟩) hb).trans h.2.1, (he.cell (p := ⟨b, 2, none⟩) hb).trans h.2.2.1, (he.cell (p := ⟨b, 3, none⟩) hb).trans h.2.2.2⟩

set_option maxHeartbeats 2000000 in
theorem encodes_bad (op : Int) (h0 : 0 ≤ op) (h1 : op ≤ 255) (A B M : Int) (X : Option Addr) (m c : Nat) (hm : m ≤ 100) (hbad : goodB op.toNat A B M = false) (w : World) :
    Calls Try.prog 6 #[.int .u8 op, .agg #[.int .i64 A, .int .i64 B, .int .u64 M], .slice X m c] w fun e w' => e = .returned (.bool true) ∧ Ext w w' := by
  have hm' : (m : Int) ≤ 100 := by omega
  have HB := Lib.hid hbad
  clear hbad
  go_enter Try.func6, Try.ntmps6
  go_wp2_with (first
    | (go_at_call 8; refine (awake_any _).mono ?_; rintro e w1 ⟨rfl, he1⟩; obtain ⟨he1c, he1f⟩ := Ext.cells he1; have he1z := Ext.sz he1; (try simp only [World.size_alloc, World.size_drew, World.heap_drewN, World.size_setCell] at he1z); have he1x0 : w.heap.size < w1.heap.size := (by omega); have he1y0 : w.heap.size < w1.heap.size + 1 := (by omega); have he1p0 := fun o => he1c (w.heap.size) o (by first | omega | (simp only [World.size_alloc, World.size_drew, World.heap_drewN, World.size_setCell] <;> omega)); have he1q0 := fun o => he1f (w.heap.size) o (by first | omega | (simp only [World.size_alloc, World.size_drew, World.heap_drewN, World.size_setCell] <;> omega)); have he1x1 : w.heap.size + 1 < w1.heap.size := (by omega); have he1y1 : w.heap.size + 1 < w1.heap.size + 1 := (by omega); have he1p1 := fun o => he1c (w.heap.size + 1) o (by first | omega | (simp only [World.size_alloc, World.size_drew, World.heap_drewN, World.size_setCell] <;> omega)); have he1q1 := fun o => he1f (w.heap.size + 1) o (by first | omega | (simp only [World.size_alloc, World.size_drew, World.heap_drewN, World.size_setCell] <;> omega)))
    | (go_at_call 11; refine (real_int op h0 h1 _ _ _ _).mono ?_; rintro e w2 ⟨rfl, he2⟩; obtain ⟨he2c, he2f⟩ := Ext.cells he2; have he2z := Ext.sz he2; (try simp only [World.size_alloc, World.size_drew, World.heap_drewN, World.size_setCell] at he2z); have he2x0 : w.heap.size < w2.heap.size := (by omega); have he2y0 : w.heap.size < w2.heap.size + 1 := (by omega); have he2p0 := fun o => he2c (w.heap.size) o (by first | omega | (simp only [World.size_alloc, World.size_drew, World.heap_drewN, World.size_setCell] <;> omega)); have he2q0 := fun o => he2f (w.heap.size) o (by first | omega | (simp only [World.size_alloc, World.size_drew, World.heap_drewN, World.size_setCell] <;> omega)); have he2x1 : w.heap.size + 1 < w2.heap.size := (by omega); have he2y1 : w.heap.size + 1 < w2.heap.size + 1 := (by omega); have he2p1 := fun o => he2c (w.heap.size + 1) o (by first | omega | (simp only [World.size_alloc, World.size_drew, World.heap_drewN, World.size_setCell] <;> omega)); have he2q1 := fun o => he2f (w.heap.size + 1) o (by first | omega | (simp only [World.size_alloc, World.size_drew, World.heap_drewN, World.size_setCell] <;> omega))))
  refine calls_abs (fun W => C4 W (w.heap.size + 1) op A B M ∧ w.heap.size + 1 < W.heap.size ∧ Ext w W) ?_ ?_
  · refine ⟨⟨?_, ?_, ?_, ?_⟩, he2x1, ?_⟩
    · rw [he2p1, he1p1]; simp [go_sem]
    · rw [he2p1, he1p1]; simp [go_sem]
    · rw [he2p1, he1p1]; simp [go_sem]
    · rw [he2p1, he1p1]; simp [go_sem]
    · (repeat (first | with_reducible exact Ext.refl _ | with_reducible assumption | with_reducible apply Ext.drew | with_reducible apply Ext.drewN | with_reducible apply Ext.alloc | (with_reducible refine Ext.setCell ?_ (by simp <;> omega) _) | (with_reducible refine Ext.trans ?_ (by with_reducible assumption))))
  clear he1c he1f he1p0 he1q0 he1p1 he1q1 he2c he2f he2p0 he2q0 he2p1 he2q1
  rintro W0 ⟨k0, s0, e0⟩
  refine (enc_bad_g op h0 A B M HB.out W0).mono ?_
  rintro e w3 ⟨rfl, he3⟩
  have hs3 : ∀ W, Ext w3 W → C4 W (w.heap.size + 1) op A B M := fun W hW => k0.ext s0 (he3.trans hW)
  have k3 := hs3 w3 (Ext.refl _)
  have HS := Lib.hid hs3
  have e3 := e0.trans he3
  unfold C4 at k3
  obtain ⟨a0, a1, a2, a3⟩ := k3
  clear hs3 k0
  go_wp2_with fail
  go_region_held3 (fun W => W.cell? ⟨w.heap.size + 1, 0, none⟩ = some (.int .i64 op) ∧ W.cell? ⟨w.heap.size + 1, 1, none⟩ = some (.int .i64 A) ∧ W.cell? ⟨w.heap.size + 1, 2, none⟩ = some (.int .i64 B) ∧ W.cell? ⟨w.heap.size + 1, 3, none⟩ = some (.int .u64 M))
    (exact HS.out _ (by (repeat (first | with_reducible exact Ext.refl _ | with_reducible assumption | with_reducible apply Ext.drew | with_reducible apply Ext.drewN | with_reducible apply Ext.alloc | (with_reducible refine Ext.setCell ?_ (by simp <;> omega) _) | (with_reducible refine Ext.trans ?_ (by with_reducible assumption))))))
    (first
      | (go_at_call 11; (with_reducible refine (real_int op h0 h1 _ _ _ _).mono ?_); rintro e w8 ⟨rfl, he8⟩)
      | (go_at_call 20; (with_reducible refine (good_g op h0 _ _ _ false HB.out _).mono ?_); rintro e w9 ⟨rfl, he9⟩)
      | (go_at_call 9; (with_reducible refine (rgood_g op h0 _ _ _ false HB.out _).mono ?_); rintro e w10 ⟨rfl, he10⟩))
  rename_i hH
  obtain ⟨b0, b1, b2, b3⟩ := hH
  go_wp2_with (first | (go_at_call 9; refine (rgood_g op h0 _ _ _ false HB.out _).mono ?_; rintro e w11 ⟨rfl, he11⟩))
  go_ret
  refine ⟨rfl, ?_⟩
  (repeat (first | with_reducible exact Ext.refl _ | with_reducible assumption | with_reducible apply Ext.drew | with_reducible apply Ext.drewN | with_reducible apply Ext.alloc | (with_reducible refine Ext.setCell ?_ (by simp <;> omega) _) | (with_reducible refine Ext.trans ?_ (by with_reducible assumption))))

theorem dec_enc_g (op : Int) (h0 : 0 ≤ op) (h1 : op ≤ 255) (A B M : Int) (hM0 : 0 ≤ M) (hM : M < 18446744073709551616) (hg : goodB op.toNat A B M = true) (l3 l : List Int) (hl3 : l3 = encL op.toNat A B M) (k : Nat) (hk : l3.length = k) (hb : ∀ x ∈ l, 0 ≤ x ∧ x ≤ 255)
    (X : Option Addr) (n c : Nat) (hn : n ≤ 1000) (hnc : n ≤ c) (hc : c ≤ 9223372036854775807) (w : World) (hr : Rd w X n (l3 ++ l)) :
    Calls Try.prog 17 #[.slice X n c] w fun e w' => e = .returned (.tuple #[.agg #[.int .u8 op, .int .i64 A, .int .i64 B, .int .u64 M], .int .i64 (k : Int), .int .i64 0]) ∧ Ext w w' := by
  obtain ⟨o, rfl⟩ := Int.eq_ofNat_of_zero_le h0
  rw [Int.toNat_natCast] at hg hl3
  subst hl3
  have hlen := encL_length o A B M
  have ha := wa_in o
  have hb' := wb_in o
  have hm := wm_in o
  have hn' := hr.1
  rw [List.length_append] at hn'
  have hop : isOp o = true := by
    have h := hg
    simp only [goodB, Bool.and_eq_true] at h
    exact h.1.1.1
  obtain ⟨e1, e2, e3⟩ := dec_enc hg hM0 hM (by omega) l hb
  have d := dec_ok X n c _ (by omega) hn hnc hc w hr o (by simp [encL, List.getD]) hop (by omega)
  rw [e1, e2, e3, show 1 + wa o + wb o + wm o = (k : Int) by omega] at d
  exact d

theorem size_g (op : Int) (h0 : 0 ≤ op) (A B M : Int) (hg : goodB op.toNat A B M = true) (k : Nat) (hk : (encL op.toNat A B M).length = k) (w : World) :
    Calls Try.prog 16 #[.int .u8 op] w fun e w' => e = .returned (.int .i64 (k : Int)) ∧ Ext w w' := by
  obtain ⟨o, rfl⟩ := Int.eq_ofNat_of_zero_le h0
  rw [Int.toNat_natCast] at hg hk
  have hlen := encL_length o A B M
  have ha := wa_in o
  have hb' := wb_in o
  have hm := wm_in o
  have hop : isOp o = true := by
    have h := hg
    simp only [goodB, Bool.and_eq_true] at h
    exact h.1.1.1
  have d := size_op o hop w
  rw [show 1 + wa o + wb o + wm o = (k : Int) by omega] at d
  exact d

theorem is_g (op : Int) (h0 : 0 ≤ op) (h1 : op ≤ 255) (A B M : Int) (w : World) :
    Calls Try.prog 19 #[.agg #[.int .u8 op, .int .i64 A, .int .i64 B, .int .u64 M], .agg #[.int .i64 op, .int .i64 A, .int .i64 B, .int .u64 M]] w fun e w' => e = .returned (.bool true) ∧ Ext w w' := by
  obtain ⟨n, rfl⟩ := Int.eq_ofNat_of_zero_le h0
  exact is_any n A B M 0 0 0 0 w (by omega)

theorem renc_g (op : Int) (h0 : 0 ≤ op) (h1 : op ≤ 255) (A B M : Int) (hM0 : 0 ≤ M) (hM : M < 18446744073709551616) (hg : goodB op.toNat A B M = true) (l3 : List Int) (hl3 : Hid (l3 = encL op.toNat A B M)) (w : World) :
    Calls Try.prog 21 #[.agg #[.int .i64 op, .int .i64 A, .int .i64 B, .int .u64 M]] w
      fun e w' => ∃ v, e = .returned v ∧ (∀ q, (convert 27 9 v).run Try.prog (w'.drewN q) = .ok (.string (strOf l3)) (w'.drewN q)) ∧ (convert 27 9 v).run Try.prog w' = .ok (.string (strOf l3)) w' ∧ (convert 27 9 v).run Try.prog w'.drew = .ok (.string (strOf l3)) w'.drew ∧ Ext w w' := by
  obtain ⟨n, rfl⟩ := Int.eq_ofNat_of_zero_le h0
  have e := hl3.out
  rw [Int.toNat_natCast] at hg e
  subst e
  have hb := encL_bytes n (by omega) A B M
  refine (renc_any n A B M hM0 hM hg w).mono ?_
  rintro e w' ⟨v, rfl, ho, he⟩
  obtain ⟨A', c, rfl, _, _, hr⟩ := own_rd ho hb
  exact ⟨_, rfl, fun q => conv_rd _ _ _ _ _ hr, conv_rd _ _ _ _ _ hr, conv_rd _ _ _ _ _ hr, he⟩

end Go.Proofs.Ytiekicjloapepaa
