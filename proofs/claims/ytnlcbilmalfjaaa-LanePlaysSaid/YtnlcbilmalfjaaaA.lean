/- A part of the proof of a law of roundel: contracts of functions and lemmas, each true as it stands; no condition beyond those that its theorems state. -/
import Derived.Test.YtnlcbilmalfjaaaLinked
import Derived.RegionTactic
import Derived.RegionCalls
import Derived.ChangeAlike
import Derived.BigRegion
namespace Go.Proofs.Ytnlcbilmalfjaaa
set_option linter.unusedSimpArgs false
set_option linter.unusedVariables false
open Go.RowKit

/-- Rings in memory: what stands about each node. -/
structure Rg (W : World) (B rb lb mb N M : Nat) (g : G) : Prop where
  c0 : W.cell? ⟨rb, 0, none⟩ = some (.slice (some ⟨lb, 0, none⟩) (N + M) (N + M))
  c1 : W.cell? ⟨rb, 1, none⟩ = some (.int .i64 (N : Int))
  c2 : W.cell? ⟨rb, 2, none⟩ = some (.slice (some ⟨mb, 0, none⟩) M M)
  l0 : ∀ i, i < N + M → W.cell? ⟨lb, i * 3, none⟩ = some (.int .i64 (g.lst i))
  l1 : ∀ i, i < N + M → W.cell? ⟨lb, i * 3 + 1, none⟩ = some (.int .i64 (g.nx i : Int))
  l2 : ∀ i, i < N + M → W.cell? ⟨lb, i * 3 + 2, none⟩ = some (.int .i64 (g.pv i : Int))
  mm : ∀ l, l < M → W.cell? ⟨mb, l, none⟩ = some (.int .i64 (g.many l))
  fl : ∀ o, W.frozen? ⟨lb, o, none⟩ = false
  fm : ∀ o, W.frozen? ⟨mb, o, none⟩ = false
  d1 : rb ≠ lb
  d2 : rb ≠ mb
  d3 : lb ≠ mb
  lt : rb < W.heap.size ∧ lb < W.heap.size ∧ mb < W.heap.size
  ge : B ≤ rb ∧ B ≤ lb ∧ B ≤ mb
  sm : N ≤ 64 ∧ M ≤ 64

/-- What a call on rings turns. -/
structure Rc (lb mb : Nat) (W W' : World) : Prop where
  os : W'.os = W.os
  tape : W'.tape = W.tape
  output : W'.output = W.output
  size : W.heap.size ≤ W'.heap.size
  blk : ∀ x, x < W.heap.size → x ≠ lb → x ≠ mb → W'.heap[x]? = W.heap[x]?

theorem Rc.refl (lb mb : Nat) (W : World) : Rc lb mb W W := ⟨rfl, rfl, rfl, Nat.le_refl _, fun _ _ _ _ => rfl⟩
theorem Rc.trans {lb mb : Nat} {W W1 W2 : World} (h : Rc lb mb W W1) (k : Rc lb mb W1 W2) : Rc lb mb W W2 :=
  ⟨k.os.trans h.os, k.tape.trans h.tape, k.output.trans h.output, Nat.le_trans h.size k.size, fun x hx h1 h2 => (k.blk x (Nat.lt_of_lt_of_le hx h.size) h1 h2).trans (h.blk x hx h1 h2)⟩
theorem Rc.of_ext (lb mb : Nat) {W W' : World} (h : Ext W W') : Rc lb mb W W' := ⟨h.os, h.tape, h.output, h.size, fun x hx _ _ => h.blk hx⟩
theorem Rc.below {lb mb B : Nat} {W W' : World} (h : Rc lb mb W W') (hB : B ≤ W.heap.size) (h1 : B ≤ lb) (h2 : B ≤ mb) : Below B W W' :=
  ⟨h.os, h.tape, h.output, h.size, fun x hx => h.blk x (by omega) (by omega) (by omega)⟩
theorem Rc.alloc {lb mb : Nat} {W W' : World} (h : Rc lb mb W W') (o : Obj) : Rc lb mb W (W'.alloc o) := h.trans (Rc.of_ext lb mb ((Ext.refl _).alloc o))
theorem Rc.drew {lb mb : Nat} {W W' : World} (h : Rc lb mb W W') : Rc lb mb W W'.drew := ⟨h.os, h.tape, h.output, h.size, h.blk⟩
theorem Rc.setCell {lb mb : Nat} {W W' : World} (h : Rc lb mb W W') {p : Addr} (hp : p.block = lb ∨ p.block = mb) (v : Value) : Rc lb mb W (W'.setCell p v) :=
  ⟨h.os, h.tape, h.output, by have := h.size; simpa using this, fun x hx h1 h2 => (Below.heap_setCell W' p v x (by rcases hp with e | e <;> rw [e] <;> assumption)).trans (h.blk x hx h1 h2)⟩

theorem Rg.kept {W W' : World} {B rb lb mb N M : Nat} {g : G} (h : Rg W B rb lb mb N M g) (hs : W.heap.size ≤ W'.heap.size) (h1 : W'.heap[rb]? = W.heap[rb]?) (h2 : W'.heap[lb]? = W.heap[lb]?) (h3 : W'.heap[mb]? = W.heap[mb]?) : Rg W' B rb lb mb N M g :=
  ⟨(World.cell?_of_block (a := ⟨rb, _, none⟩) h1).trans h.c0, (World.cell?_of_block (a := ⟨rb, _, none⟩) h1).trans h.c1, (World.cell?_of_block (a := ⟨rb, _, none⟩) h1).trans h.c2,
    fun i hi => (World.cell?_of_block (a := ⟨lb, _, none⟩) h2).trans (h.l0 i hi), fun i hi => (World.cell?_of_block (a := ⟨lb, _, none⟩) h2).trans (h.l1 i hi), fun i hi => (World.cell?_of_block (a := ⟨lb, _, none⟩) h2).trans (h.l2 i hi),
    fun l hl => (World.cell?_of_block (a := ⟨mb, _, none⟩) h3).trans (h.mm l hl), fun o => (World.frozen?_of_block (a := ⟨lb, o, none⟩) h2).trans (h.fl o), fun o => (World.frozen?_of_block (a := ⟨mb, o, none⟩) h3).trans (h.fm o),
    h.d1, h.d2, h.d3, ⟨Nat.lt_of_lt_of_le h.lt.1 hs, Nat.lt_of_lt_of_le h.lt.2.1 hs, Nat.lt_of_lt_of_le h.lt.2.2 hs⟩, h.ge, h.sm⟩
theorem Rg.ext {W W' : World} {B rb lb mb N M : Nat} {g : G} (h : Rg W B rb lb mb N M g) (he : Ext W W') : Rg W' B rb lb mb N M g :=
  h.kept he.sz (he.blk h.lt.1) (he.blk h.lt.2.1) (he.blk h.lt.2.2)
theorem Rg.drew {W : World} {B rb lb mb N M : Nat} {g : G} (h : Rg W B rb lb mb N M g) : Rg W.drew B rb lb mb N M g := h.ext (Ext.refl W).drew

theorem post_abs {Q : Exit → Act → World → Prop} {e : Exit} {a : Act} {w : World} (F : World → Prop) (hF : F w) (h : ∀ W, F W → Q e a W) : Q e a w := h w hF

section
variable {B rb lb mb N M : Nat} {g : G}

theorem node_any (n : Int) (W : World) (H : Rg W B rb lb mb N M g) :
    Calls Try.prog 38 #[.pointer (some ⟨rb, 0, none⟩), .int .i64 n] W fun e W' => e = .returned (.bool (decide (0 ≤ n ∧ n < (N : Int)))) ∧ W' = W := by
  have h1 := H.c1
  go_enter Try.func38, Try.ntmps38
  by_cases p : 0 ≤ n
  · go_wp2
    go_ret
    exact ⟨by simp [p], rfl⟩
  · have p' : n < 0 := by omega
    go_wp2
    go_ret
    exact ⟨by simp [p]; omega, rfl⟩
theorem list_any (n : Int) (W : World) (H : Rg W B rb lb mb N M g) :
    Calls Try.prog 37 #[.pointer (some ⟨rb, 0, none⟩), .int .i64 n] W fun e W' => e = .returned (.bool (decide (0 ≤ n ∧ n < (M : Int)))) ∧ W' = W := by
  have h2 := H.c2
  go_enter Try.func37, Try.ntmps37
  by_cases p : 0 ≤ n
  · go_wp2
    go_ret
    exact ⟨by simp [p], rfl⟩
  · have p' : n < 0 := by omega
    go_wp2
    go_ret
    exact ⟨by simp [p]; omega, rfl⟩
theorem told_any (x : Nat) (W : World) (H : Rg W B rb lb mb N M g) :
    Calls Try.prog 49 #[.pointer (some ⟨rb, 0, none⟩), .int .i64 (x : Int)] W fun e W' => e = .returned (.int .i64 (told N x)) ∧ W' = W := by
  have h1 := H.c1
  go_enter Try.func49, Try.ntmps49
  by_cases p : x < N
  · have p' : (x : Int) < (N : Int) := by omega
    go_wp2
    go_ret
    exact ⟨by simp [told, p], rfl⟩
  · have p' : (N : Int) ≤ (x : Int) := by omega
    go_wp2
    go_ret
    exact ⟨by simp [told, p], rfl⟩
end
end Go.Proofs.Ytnlcbilmalfjaaa
