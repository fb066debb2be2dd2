/- A part of the proof of a law of roundel: contracts of functions and lemmas, each true as it stands; no condition beyond those that its theorems state. -/
import Derived.Test.YtohgckdkkeiggaaN
namespace Go.Proofs.Ytohgckdkkeiggaa
set_option linter.unusedSimpArgs false
set_option linter.unusedVariables false
open Go.RowKit Go.Maps

theorem Tal.ext {W W' : World} {own : Own} {B b m : Nat} {F : Nat → Int → Int} {T : Int} (h : Tal W own B b m F T) (he : Ext W W') : Tal W' own B b m F T := by
  have hb : W'.heap[b]? = W.heap[b]? := he.blk h.sits.lt
  refine ⟨⟨h.sits.tag, h.sits.base, Nat.lt_of_lt_of_le h.sits.lt he.sz, fun j => (World.frozen?_of_block (a := ⟨b, j, none⟩) hb).trans (h.sits.frz j), fun x t hx => Nat.lt_of_lt_of_le (h.sits.old x t hx) he.sz, h.sits.low⟩,
    fun i hi => (h.book i hi).kept h.sits.old (fun j _ _ => World.cell?_of_block (a := ⟨b, j, none⟩) hb) (fun x key hx => he.blk (h.sits.old _ _ hx)) (fun _ _ => rfl), (World.cell?_of_block (a := ⟨b, 24, none⟩) hb).trans h.total, h.bnd, h.bndT⟩

def idsOf (t : Tk) : List Int := [t.core, t.thread] ++ t.gs
def idsTo (id : Int) (l : List Tk) : Nat → List Int
  | 0 => [id]
  | j + 1 => idsTo id l j ++ idsOf (l.getD j default)

theorem counts_far (B : Nat) (A : Option Addr) (n c : Nat) (l : List Tk) (id : Int) (hnc : n ≤ c) (hc63 : c ≤ 9223372036854775807) (hf : ¬ ((∀ t ∈ l, t.gs.length ≤ 10) ∧ n ≤ 80)) (W : World) (hBW : B ≤ W.heap.size) (hl : TL W B A n l) :
    Calls Try.prog 3 #[.slice A n c, .int .i64 id] W fun e W' => e = .returned (.bool true) ∧ Ext W W' := by
  have hd : decide ((∀ t ∈ l, t.gs.length ≤ 10) ∧ n ≤ 80) = false := decide_eq_false hf
  have HD := Lib.hid hd
  have HL := Lib.hid hl
  clear hd hf hl
  go_enter Try.func3, Try.ntmps3
  go_wp2_with (first
    | (go_at_call 7; refine (awake_any _).mono ?_; rintro e w1 ⟨rfl, he1⟩; obtain ⟨he1c, he1f⟩ := Ext.cells he1; have he1z := Ext.sz he1; (try simp only [World.size_alloc, World.size_drew, World.heap_drewN, World.size_setCell] at he1z))
    | (go_at_call 8; refine (few_any B A n c l hnc hc63 w1 (Nat.le_trans hBW he1.sz) (HL.out.kept (he1.below.mono hBW))).mono ?_; rintro e w2 ⟨he, he2⟩; rw [HD.out] at he; subst he))
  go_ret
  refine ⟨rfl, ?_⟩
  (repeat (first | with_reducible exact Ext.refl _ | with_reducible assumption | with_reducible apply Ext.drew | with_reducible apply Ext.drewN | with_reducible apply Ext.alloc | (with_reducible refine Ext.setCell ?_ (by simp <;> omega) _) | (with_reducible refine Ext.trans ?_ (by with_reducible assumption))))
end Go.Proofs.Ytohgckdkkeiggaa
