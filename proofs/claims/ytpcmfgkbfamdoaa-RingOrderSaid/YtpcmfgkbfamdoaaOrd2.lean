/- A part of the proof of a law of roundel: contracts of functions and lemmas, each true as it stands; no condition beyond those that its theorems state. -/
import Derived.Test.YtpcmfgkbfamdoaaOrd1
import Derived.StillTailTactics
namespace Go.Proofs.Ytpcmfgkbfamdoaa
set_option linter.unusedSimpArgs false
set_option linter.unusedVariables false
open Go.RowKit

theorem OwnV.blk {W W' : World} {base : Nat} {e : TypeId} {v : Value} {xs : List Value} (h : OwnV W base e v xs) (hk : ∀ k, base ≤ k → k < W.heap.size → W'.heap[k]? = W.heap[k]?) : OwnV W' base e v xs := by
  rcases h.2 with h0 | ⟨g, cap, cur, hv, hg, hh, r⟩
  · exact ⟨h.1, .inl h0⟩
  · exact ⟨h.1, .inr ⟨g, cap, cur, hv, hg, (hk g hg (Array.getElem?_eq_some_iff.1 hh).1).trans hh, r⟩⟩
theorem OwnV.rc {W W' : World} {base lb mb : Nat} {e : TypeId} {v : Value} {xs : List Value} (h : OwnV W base e v xs) (C : Rc lb mb W W') (h1 : lb < base) (h2 : mb < base) : OwnV W' base e v xs :=
  h.blk fun k hk hlt => C.blk k hlt (by omega) (by omega)
theorem OwnV.set {W : World} {base : Nat} {e : TypeId} {v : Value} {xs : List Value} (h : OwnV W base e v xs) {p : Addr} (hp : p.block < base) (u : Value) : OwnV (W.setCell p u) base e v xs :=
  h.blk fun k hk _ => Below.heap_setCell _ _ _ _ (by omega)
theorem OwnV.src {W : World} {base j c : Nat} {e : TypeId} {A : Option Addr} {xs : List Value} (h : OwnV W base e (.slice A j c) xs) : (A = none → c = 0) ∧ (0 < j → ∃ y oy, A = some ⟨y, oy, none⟩ ∧ ∀ i, i < j → W.cell? ⟨y, oy + i, none⟩ = some (xs.getD i undef)) ∧ j ≤ c ∧ c ≤ 9223372036854775807 := by
  obtain ⟨A', c', hv, h1, h2, h3, h4⟩ := h.cells
  simp only [Value.slice.injEq] at hv
  obtain ⟨rfl, rfl, rfl⟩ := hv
  refine ⟨h3, fun hn => ?_, h1, h2⟩
  obtain ⟨g, hA, _, _, hc, _⟩ := h4 hn
  exact ⟨g, 0, hA, fun i hi => by rw [Nat.zero_add]; exact hc i hi⟩
theorem Rr.blk {W W' : World} {B rb lb mb N M : Nat} {rows : List (List Nat)} (h : Rr W B rb lb mb N M rows) (hs : W.heap.size ≤ W'.heap.size) (h1 : W'.heap[rb]? = W.heap[rb]?) (h2 : W'.heap[lb]? = W.heap[lb]?) (h3 : W'.heap[mb]? = W.heap[mb]?) : Rr W' B rb lb mb N M rows :=
  h.elim fun g h => ⟨g, h.1.kept hs h1 h2 h3, h.2⟩

/-- A row of bools. -/
def BL (W : World) (A : Option Addr) (n : Nat) (bb : Nat → Bool) : Prop := 0 < n → ∃ x o, A = some ⟨x, o, none⟩ ∧ x < W.heap.size ∧ ∀ j, j < n → W.cell? ⟨x, o + j, none⟩ = some (.bool (bb j))

theorem order_far (A : Option Addr) (n c : Nat) (m : Int) (hnc : n ≤ c) (hc63 : c ≤ 9223372036854775807) (hf : 40 < n) (W : World) :
    Calls Try.prog 4 #[.slice A n c, .int .u8 m] W fun e W' => e = .returned (.bool true) ∧ Ext W W' := by
  have q : (40 : Int) < (n : Int) := by omega
  have q0 : ((n : Int) == 0) = false := by simp; omega
  have q1 : ¬ (n : Int) = 0 := by omega
  go_enter Try.func4, Try.ntmps4
  go_wp2_with (first | (go_at_call 7; refine (awake_any _).mono ?_; rintro e w1 ⟨rfl, he1⟩; obtain ⟨he1c, he1f⟩ := Ext.cells he1; have he1z := Ext.sz he1; (try simp only [World.size_alloc, World.size_drew, World.heap_drewN, World.size_setCell] at he1z)))
  go_ret
  refine ⟨rfl, ?_⟩
  (repeat (first | with_reducible exact Ext.refl _ | with_reducible assumption | with_reducible apply Ext.drew | with_reducible apply Ext.drewN | with_reducible apply Ext.alloc | (with_reducible refine Ext.setCell ?_ (by simp <;> omega) _) | (with_reducible refine Ext.trans ?_ (by with_reducible assumption))))
theorem order_nil (A : Option Addr) (c : Nat) (m : Int) (hc63 : c ≤ 9223372036854775807) (W : World) :
    Calls Try.prog 4 #[.slice A 0 c, .int .u8 m] W fun e W' => e = .returned (.bool true) ∧ Ext W W' := by
  go_enter Try.func4, Try.ntmps4
  go_wp2_with (first | (go_at_call 7; refine (awake_any _).mono ?_; rintro e w1 ⟨rfl, he1⟩; obtain ⟨he1c, he1f⟩ := Ext.cells he1; have he1z := Ext.sz he1; (try simp only [World.size_alloc, World.size_drew, World.heap_drewN, World.size_setCell] at he1z)))
  go_ret
  refine ⟨rfl, ?_⟩
  (repeat (first | with_reducible exact Ext.refl _ | with_reducible assumption | with_reducible apply Ext.drew | with_reducible apply Ext.drewN | with_reducible apply Ext.alloc | (with_reducible refine Ext.setCell ?_ (by simp <;> omega) _) | (with_reducible refine Ext.trans ?_ (by with_reducible assumption))))
end Go.Proofs.Ytpcmfgkbfamdoaa
