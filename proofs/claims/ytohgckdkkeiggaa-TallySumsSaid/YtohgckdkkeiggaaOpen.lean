/- A part of the proof of a law of roundel: contracts of functions and lemmas, each true as it stands; no condition beyond those that its theorems state. -/
import Derived.Test.YtohgckdkkeiggaaH
import Derived.Test.YtohgckdkkeiggaaU
import Derived.Deep.Slices
namespace Go.Proofs.Ytohgckdkkeiggaa
set_option linter.unusedSimpArgs false
set_option linter.unusedVariables false
open Go.ChangeShapes Go.WideShapes Go.ChangeAt Go.RowKit Go.Joins Go.Deep

theorem lawOwn : ownKnob Try.prog.godebug = none := by kernel_rfl
theorem lawLaid : laidOutB Try.prog = true := by kernel_rfl
theorem cells49 : Try.prog.cellsOf 49 = 4 := by kernel_rfl
theorem cells47 : Try.prog.cellsOf 47 = 1 := by kernel_rfl
theorem cells3 : Try.prog.cellsOf 3 = 1 := by kernel_rfl
theorem cells4 : Try.prog.cellsOf 4 = 1 := by kernel_rfl

theorem cell_in {W : World} {a : Addr} {v : Value} (h : W.cell? a = some v) : a.spot = none ∧ a.block < W.heap.size := by
  unfold World.cell? at h
  split at h
  · rename_i heq
    refine ⟨?_, (Array.getElem?_eq_some_iff.1 heq).1⟩
    split at h
    · simp at h
    · rename_i hs
      cases hh : a.spot with
      | none => rfl
      | some x => simp [hh] at hs
  · simp at h

theorem i64_of {n : Int} (h : (Lit.int .i64 n).wf = true) : I64 n := bounds_i64 h

/-- Whole numbers of a row, opened. -/
theorem open_slB {H : Type} {enc : TypeId × Value → H} {W : World} {held : Bool} {fuel : Nat} {cs : List Value} {y : DataW H × List MemPlace}
    (hf : DataW.trod enc Try.prog W 0 (fun _ => true) held fuel 47 cs = some y) :
    ∃ (A : Option Addr) (n c : Nat) (gs : List Int), cs = [.slice A n c] ∧ n ≤ c ∧ c ≤ 9223372036854775807 ∧ (A = none → c = 0) ∧ SlB W W.heap.size A n gs := by
  rcases open_ints Try.underlying47 Try.underlying3 cells3 hf with ⟨h0, -⟩ | ⟨a, len, cap, zs, h0, -, hl, hm, hz, -, hcell, hwf⟩
  · exact ⟨none, 0, 0, [], h0, by omega, by omega, fun _ => rfl, rfl, by simp, by omega⟩
  · simp only [if_true] at hz
    have hm' : cap ≤ 9223372036854775807 := by unfold maxLen at hm; omega
    refine ⟨some a, len, cap, zs.take len, h0, hl, hm', by simp, by rw [List.length_take]; omega, fun x hx => i64_of (hwf x (List.mem_of_mem_take hx)), fun hn => ?_⟩
    have h00 := hcell 0 (by omega)
    obtain ⟨b, o, s⟩ := a
    obtain ⟨hs, hb⟩ := cell_in h00
    have hs' : s = none := by simpa [Addr.add] using hs
    have hb' : b < W.heap.size := by simpa [Addr.add] using hb
    subst hs'
    refine ⟨b, o, rfl, hb', fun j hj => ?_⟩
    have hc := hcell j (by omega)
    rw [Go.WideShapes.add_plain] at hc
    rw [hc]
    have e : (zs.take len).getD j 0 = zs.getD j 0 := by
      simp [List.getD, List.getElem?_take, hj]
    rw [e]

/-- What a tick's cells are. -/
def TickAt (W : World) (b o : Nat) (t : Tk) : Prop :=
  I64 t.core ∧ I64 t.thread ∧ ∃ GA gn gc, W.cell? ⟨b, o, none⟩ = some (.int .i64 t.core) ∧ W.cell? ⟨b, o + 1, none⟩ = some (.int .i64 t.thread) ∧
    W.cell? ⟨b, o + 2, none⟩ = some (.slice GA gn gc) ∧ W.cell? ⟨b, o + 3, none⟩ = some (.bool t.idle) ∧ SlB W W.heap.size GA gn t.gs ∧ (GA = none → gc = 0)

theorem open_tl {H : Type} {enc : TypeId × Value → H} {W : World} {r : Reach} {b0 : Nat} {held : Bool} {v : Value} {d : DataW H} {p : List MemPlace}
    (hv : Value.okWide Try.prog W r b0 22 v) (h : DataW.Trod enc Try.prog W 0 (fun _ => true) held 22 v d p) :
    ∃ (A : Option Addr) (n c : Nat) (l : List Tk), v = .slice A n c ∧ n ≤ c ∧ c ≤ 9223372036854775807 ∧ (A = none → c = 0) ∧ TL W W.heap.size A n l := by
  obtain ⟨A, n, c, rfl⟩ := okWide_slice Try.underlying22 hv
  obtain ⟨fuel, hf⟩ := h
  simp only [Value.cells] at hf
  rcases open_slice Try.underlying22 hf with ⟨h0, -⟩ | ⟨a, len, cap, m, fu, D, Pl, h0, -, hl, hm, hmm, -, hx⟩
  · simp only [List.cons.injEq, Value.slice.injEq, and_true] at h0
    obtain ⟨rfl, rfl, rfl⟩ := h0
    exact ⟨none, 0, 0, [], rfl, by omega, by omega, fun _ => rfl, rfl, by simp, by omega⟩
  · simp only [List.cons.injEq, Value.slice.injEq, and_true] at h0
    obtain ⟨rfl, rfl, rfl⟩ := h0
    simp only [if_true] at hmm
    have hm' : c ≤ 9223372036854775807 := by unfold maxLen at hm; omega
    obtain ⟨b, o, s⟩ := a
    have hfirst : 0 < n → s = none ∧ b < W.heap.size := by
      intro hn
      obtain ⟨cs', h1, _⟩ := hx 0 (by omega)
      rw [cells49] at h1
      obtain ⟨_, hlen, hcell⟩ := World.cells?_some h1
      have c0 := hcell 0 (by omega)
      rw [show ((⟨b, o, s⟩ : Addr).add (0 * 4)).add 0 = ⟨b, o, s⟩ by simp [Addr.add], List.getElem?_eq_getElem (by omega)] at c0
      exact cell_in c0
    have each : ∀ i, i < n → ∃ t : Tk, s = none ∧ b < W.heap.size ∧ TickAt W b (o + i * 4) t := by
      intro i hi
      obtain ⟨cs', h1, h2⟩ := hx i (by omega)
      rw [cells49] at h1
      obtain ⟨_, hlen, hcell⟩ := World.cells?_some h1
      obtain ⟨y0, y1, y2, y3, k, -, -, g0, g1, g2, g3⟩ := trod_struct4 Try.underlying49 h2
      match cs', hlen with
      | [v0, v1, v2, v3], _ =>
        simp [cells3, cells4, cells47] at g0 g1 g2 g3
        obtain ⟨x0, e0, -, w0⟩ := DataW.trod_int Try.underlying3 g0
        obtain ⟨x1, e1, -, w1⟩ := DataW.trod_int Try.underlying3 g1
        obtain ⟨GA, gn, gc, gs, e2, -, -, hA, hs⟩ := open_slB g2
        obtain ⟨x3, e3, -⟩ := DataW.trod_bool Try.underlying4 g3
        have c0 := hcell 0 (by omega)
        have c1 := hcell 1 (by omega)
        have c2 := hcell 2 (by omega)
        have c3 := hcell 3 (by omega)
        simp only [List.cons.injEq, and_true] at e0 e1 e2 e3
        subst e0 e1 e2 e3
        obtain ⟨hs', hb'⟩ := hfirst (by omega)
        subst hs'
        simp [add_plain] at c0 c1 c2 c3
        exact ⟨⟨x0, x1, gs, x3⟩, rfl, hb', i64_of w0, i64_of w1, GA, gn, gc, c0, c1, c2, c3, hs, hA⟩
    obtain ⟨T, hT⟩ := choose_lt each
    refine ⟨some ⟨b, o, s⟩, n, c, (List.range n).map T, rfl, hl, hm', by simp, by simp, fun t ht => ?_, fun hn => ?_⟩
    · obtain ⟨i, hi, rfl⟩ := List.mem_map.1 ht
      have := hT i (List.mem_range.1 hi)
      exact ⟨this.2.2.1, this.2.2.2.1⟩
    · obtain ⟨rfl, hb, -⟩ := hT 0 hn
      refine ⟨b, o, rfl, hb, fun j hj => ?_⟩
      obtain ⟨-, -, -, -, GA, gn, gc, hh⟩ := hT j hj
      have e : ((List.range n).map T).getD j default = T j := by simp [List.getD, hj]
      rw [e]
      exact ⟨GA, gn, gc, hh⟩

/-- A whole number of a row, opened. -/
theorem open_i64 {H : Type} {enc : TypeId × Value → H} {W : World} {r : Reach} {b0 : Nat} {held : Bool} {v : Value} {d : DataW H} {p : List MemPlace}
    (hv : Value.okWide Try.prog W r b0 3 v) (h : DataW.Trod enc Try.prog W 0 (fun _ => true) held 3 v d p) : ∃ x, v = .int .i64 x ∧ I64 x := by
  obtain ⟨id, rfl⟩ := okWide_int Try.underlying3 hv
  obtain ⟨f1, hf1⟩ := h
  obtain ⟨id', e1, -, w1⟩ := DataW.trod_int Try.underlying3 hf1
  simp only [Value.cells, List.cons.injEq, Value.int.injEq, true_and, and_true] at e1
  subst e1
  exact ⟨id, rfl, i64_of w1⟩
theorem open_u8 {H : Type} {enc : TypeId × Value → H} {W : World} {r : Reach} {b0 : Nat} {held : Bool} {v : Value} {d : DataW H} {p : List MemPlace}
    (hv : Value.okWide Try.prog W r b0 5 v) (h : DataW.Trod enc Try.prog W 0 (fun _ => true) held 5 v d p) : ∃ x, v = .int .u8 x ∧ 0 ≤ x ∧ x ≤ 255 := by
  obtain ⟨id, rfl⟩ := okWide_int Try.underlying5 hv
  obtain ⟨f1, hf1⟩ := h
  obtain ⟨id', e1, -, w1⟩ := DataW.trod_int Try.underlying5 hf1
  simp only [Value.cells, List.cons.injEq, Value.int.injEq, true_and, and_true] at e1
  subst e1
  exact ⟨id, rfl, bounds_u8 w1⟩
end Go.Proofs.Ytohgckdkkeiggaa
