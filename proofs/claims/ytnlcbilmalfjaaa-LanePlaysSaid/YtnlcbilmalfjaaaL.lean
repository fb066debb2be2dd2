/- A part of the proof of a law of roundel: contracts of functions and lemmas, each true as it stands; no condition beyond those that its theorems state. -/
import Derived.Test.YtnlcbilmalfjaaaRows
import Derived.WalkKit
import Derived.WalkSpells
import Derived.WalkLawsBesides
import Derived.Deep.WholeRow
import Derived.Deep.MidRow
import Derived.Deep.QuietTactic
import Derived.BigQuiet
import Derived.Deep.Draws
import Derived.Deep.RegionWith
import Derived.Deep.RegionHeld3
import Derived.Deep.DeepFit
import Derived.Maps.AppendAt
import Derived.Deep.AppendLies
import Derived.Lib.Hide
namespace Go.Proofs.Ytnlcbilmalfjaaa
set_option linter.unusedSimpArgs false
set_option linter.unusedVariables false
open Go.RowKit

/-- The world has at most new blocks: nothing that was there has turned. -/
def Ext (w w' : World) : Prop := Below w.heap.size w w'

theorem Ext.refl (w : World) : Ext w w := Below.refl _ _
theorem Ext.sz {w w' : World} (h : Ext w w') : w.heap.size ≤ w'.heap.size := Below.size h
theorem Ext.trans {a b c : World} (h : Ext a b) (k : Ext b c) : Ext a c := Below.trans h (Below.mono k (Below.size h))
theorem Ext.step {B : Nat} {a b c : World} (h : Ext a b) (k : Below B b c) (hB : a.heap.size ≤ B) : Ext a c := Below.trans h (Below.mono k hB)
theorem Ext.alloc {w w' : World} (h : Ext w w') (o : Obj) : Ext w (w'.alloc o) := Below.alloc h (Below.size h) o
theorem Ext.drew {w w' : World} (h : Ext w w') : Ext w w'.drew := Below.drew h
theorem Ext.drewN {w w' : World} (h : Ext w w') (n : Nat) : Ext w (w'.drewN n) := ⟨h.os, h.tape, h.output, h.size, h.block⟩
theorem Ext.setCell {w w' : World} (h : Ext w w') {p : Addr} (hp : w.heap.size ≤ p.block) (u : Value) : Ext w (w'.setCell p u) := Below.setCell h hp u
theorem Ext.cells {W w1 : World} (hb : Ext W w1) : (∀ b o, b < W.heap.size → w1.cell? ⟨b, o, none⟩ = W.cell? ⟨b, o, none⟩) ∧ (∀ b o, b < W.heap.size → w1.frozen? ⟨b, o, none⟩ = W.frozen? ⟨b, o, none⟩) :=
  ⟨fun b o h => Below.cell (p := ⟨b, o, none⟩) hb h, fun b o h => Below.frozen (p := ⟨b, o, none⟩) hb h⟩
theorem Ext.lts {W w1 : World} (hb : Ext W w1) : ∀ k, k < W.heap.size → k < w1.heap.size := fun _ h => Nat.lt_of_lt_of_le h (Below.size hb)
theorem Ext.cell {W w1 : World} (hb : Ext W w1) {p : Addr} (h : p.block < W.heap.size) : w1.cell? p = W.cell? p := Below.cell hb h
theorem Ext.blk {W w1 : World} (hb : Ext W w1) {k : Nat} (h : k < W.heap.size) : w1.heap[k]? = W.heap[k]? := Below.block hb k h
theorem Ext.below {W w1 : World} (hb : Ext W w1) : Below W.heap.size W w1 := hb
theorem Ext.grown {a w w' : World} {row : Option Nat} (h : Ext a w) (hg : w.grownBy w' row) (hr : ∀ k, row = some k → a.heap.size ≤ k) : Ext a w' :=
  Below.grown h hg (Below.size h) hr

/-- An operation that leaves the world as it is and yields a value. -/
theorem wpList_pure {P : Program} {ops : Array Oper} {rest : List Oper} {o : Oper} {a : Act} {w : World} {Q : Exit → Act → World → Prop} (v : Value) (hgd : o.guard = none)
    (hrun : (execOp a.eval o).run P w = .ok (.value v) w) (h : wpList P ops Q rest (a.put o.dst v) w) : wpList P ops Q (o :: rest) a w :=
  wpList_plain hgd fun K hK => by
    unfold Oper.wp
    rw [hrun]
    exact hK _ _ h

theorem wpList_index {P : Program} {ops : Array Oper} {rest : List Oper} {o : Oper} {a : Act} {w : World} {Q : Exit → Act → World → Prop} (t : TypeId) (x i : Operand) (X I v : Value)
    (hgd : o.guard = none) (ho : o.op = .index t x i) (hx : a.eval x = X) (hi : a.eval i = I) (hrun : (Instr.index t X I).run P w = .ok v w)
    (h : wpList P ops Q rest (a.put o.dst v) w) : wpList P ops Q (o :: rest) a w :=
  wpList_plain hgd fun K hK => by
    unfold Oper.wp execOp
    simp only [ho, hx, hi, hrun, Sem.run_bind, Sem.run_pure, Result.andThen_ok]
    exact hK _ _ h

/-- A whole array into the block that was made last. -/
theorem wpList_store_new {P : Program} {ops : Array Oper} {rest : List Oper} {o : Oper} {a : Act} {w : World} {Q : Exit → Act → World → Prop} (t : TypeId) (c c' : Array Value) (x y : Operand)
    (hgd : o.guard = none) (ho : o.op = .store t x y) (hx : a.eval x = .pointer (some ⟨w.heap.size, 0, none⟩)) (hy : a.eval y = .agg c')
    (hi : (P.info? t).map (·.size) = some c'.size) (hs : c.size = c'.size) (h1 : c'.all (·.oneCell') = true)
    (h : wpList P ops Q rest (a.put o.dst undef) (w.alloc (.cells c' t))) : wpList P ops Q (o :: rest) a (w.alloc (.cells c t)) :=
  wpList_plain hgd fun K hK => by
    unfold Oper.wp execOp
    simp only [ho, hx, hy, Sem.run_bind, Sem.run_pure, Result.andThen_ok, run_storeAt_new w t c c' hi hs h1]
    exact hK _ _ h

/-- What the row has become: the same block, or a new one. -/
def SameOrNew (w : World) (v v' : Value) : Prop := v'.ownBlock = v.ownBlock ∨ ∃ g, w.heap.size ≤ g ∧ v'.ownBlock = some g
theorem SameOrNew.refl (w : World) (v : Value) : SameOrNew w v v := .inl rfl
theorem SameOrNew.trans {w w' : World} {a b c : Value} (h : SameOrNew w a b) (hs : w.heap.size ≤ w'.heap.size) (k : SameOrNew w' b c) : SameOrNew w a c := by
  rcases k with e | ⟨g, hg, e⟩
  · rcases h with f | ⟨g, hg, f⟩
    · exact .inl (e.trans f)
    · exact .inr ⟨g, hg, e.trans f⟩
  · exact .inr ⟨g, Nat.le_trans hs hg, e⟩
/-- Writes to the row, then writes to what it has become: writes to the row, and to what is new. -/
theorem grown_trans {a b c : World} {v v' : Value} (h : a.grownBy b v.ownBlock) (hs : SameOrNew a v v') (k : b.grownBy c v'.ownBlock) : a.grownBy c v.ownBlock :=
  ⟨k.os.trans h.os, k.tape.trans h.tape, k.output.trans h.output, Nat.le_trans h.size k.size, fun i hi hne => by
    refine (k.block i (Nat.lt_of_lt_of_le hi h.size) ?_).trans (h.block i hi hne)
    rcases hs with e | ⟨g, hg, e⟩
    · rw [e]; exact hne
    · rw [e]; intro he; injection he with he; omega⟩
theorem grown_alloc {a b : World} {row : Option Nat} (h : a.grownBy b row) (o : Obj) : a.grownBy (b.alloc o) row :=
  World.grownBy.trans h (World.grownBy_alloc b o row)

section
variable {P : Program} {ops : Array Oper} {rest : List Oper} {o : Oper} {a : Act} {Q : Exit → Act → World → Prop}
/-- append(s, x) of one element of one cell onto a row of the call's own; x lies in the block that was made last. -/
theorem wpList_append_one {w : World} (hgd : o.guard = none) (s x : Operand) (t : TypeId)
    (ho : o.op = .call { callee := .builtin .append, args := #[s, x], argTypes := #[t, t] })
    (base : Nat) (e : TypeId) (z : Value) (bytes : Nat) (ht : P.underlying t = some (.slice e)) (hi : (P.info? e).map (fun i => (i.zero, i.size, i.bytes)) = some (some z, 1, bytes)) (hzs : z.cells.size = 1)
    (v : Value) (n : Nat) (xs : List Value) (u : Value) (hs : a.eval s = v) (hown : w.ownsRow base e 1 v n xs)
    (hx : a.eval x = .slice (some ⟨w.heap.size, 0, none⟩) 1 1) (h1 : u.oneCell' = true)
    (h63 : n + 1 ≤ maxLen) (hbytes : (n + 1) * bytes ≤ 140737488355328) (hbase : base ≤ w.heap.size)
    (h : ∀ v' w', w'.ownsRow base e 1 v' (n + 1) (xs ++ [u]) → w.grownBy w' v.ownBlock → SameOrNew w v v' → wpList P ops Q rest (a.put o.dst v') w') :
    wpList P ops Q (o :: rest) a (w.alloc (.cells #[u] e)) := by
  obtain ⟨i0, hi0, hz0, hz1, hz2⟩ := info_parts hi
  refine wpList_append_own_at _ hgd s x t ho base e i0 z 1 bytes ht hi0 hz0 hz1 hz2 hzs (by decide) v n xs hs (hown.alloc _) ⟨w.heap.size, 0, none⟩ 1 1 [u] hx rfl ?_ ?_ h63 hbytes (by simp; omega) ?_
  · intro j y hj
    match j, hj with
    | 0, hj => simp at hj; subst hj; simp [Addr.add]
  · intro y hy
    simp at hy
    subst hy
    exact h1
  · intro v' w' hown' hg _ hat
    refine h v' w' hown' (World.grownBy.trans (World.grownBy_alloc w _ _) hg) ?_
    rcases hat with e | e
    · exact .inl e
    · exact .inr ⟨_, by simp, e⟩
end

/-- The world under a name, with what is known of it. -/
theorem calls_abs {P : Program} {f : FuncId} {args : Array Value} {w : World} {R : Ending → World → Prop} (F : World → Prop) (hF : F w) (h : ∀ W, F W → Calls P f args W R) : Calls P f args w R := h w hF
theorem wp_abs {P : Program} {c : Code} {Q : Exit → Act → World → Prop} {a : Act} {w : World} (F : World → Prop) (hF : F w) (h : ∀ W, F W → Code.wp P c Q a W) : Code.wp P c Q a w := h w hF
theorem wpList_abs {P : Program} {ops : Array Oper} {Q : Exit → Act → World → Prop} {l : List Oper} {a : Act} {w : World} (F : World → Prop) (hF : F w) (h : ∀ W, F W → wpList P ops Q l a W) : wpList P ops Q l a w := h w hF

end Go.Proofs.Ytnlcbilmalfjaaa
