/- A part of the proof of a law of roundel: contracts of functions and lemmas, each true as it stands; no condition beyond those that its theorems state. -/
import Derived.Test.YtpcmfgkbfamdoaaDo
import Derived.Test.YtpcmfgkbfamdoaaU
import Derived.Deep.Slices
namespace Go.Proofs.Ytpcmfgkbfamdoaa
set_option linter.unusedSimpArgs false
set_option linter.unusedVariables false
open Go.RowKit

structure Ac where
  k : Int
  a : Int
  n : Int
instance : Inhabited Ac := ⟨⟨0, 0, 0⟩⟩

/-- A slice of acts in memory that was there from the first. -/
def AL (W : World) (B : Nat) (A : Option Addr) (n : Nat) (l : List Ac) : Prop :=
  l.length = n ∧ (∀ t ∈ l, 0 ≤ t.k ∧ t.k ≤ 255) ∧ (0 < n → ∃ x o, A = some ⟨x, o, none⟩ ∧ x < B ∧ ∀ j, j < n → W.cell? ⟨x, o + j * 3, none⟩ = some (.int .u8 (l.getD j default).k) ∧ W.cell? ⟨x, o + j * 3 + 1, none⟩ = some (.int .i64 (l.getD j default).a) ∧ W.cell? ⟨x, o + j * 3 + 2, none⟩ = some (.int .i64 (l.getD j default).n))
theorem AL.kept {W W' : World} {B : Nat} {A : Option Addr} {n : Nat} {l : List Ac} (h : AL W B A n l) (hb : Below B W W') : AL W' B A n l := by
  refine ⟨h.1, h.2.1, fun hn => ?_⟩
  obtain ⟨x, o, rfl, hx, hc⟩ := h.2.2 hn
  refine ⟨x, o, rfl, hx, fun j hj => ?_⟩
  obtain ⟨h0, h1, h2⟩ := hc j hj
  exact ⟨(hb.cell (p := ⟨x, _, none⟩) hx).trans h0, (hb.cell (p := ⟨x, _, none⟩) hx).trans h1, (hb.cell (p := ⟨x, _, none⟩) hx).trans h2⟩

section
open Go.ChangeShapes Go.WideShapes Go.ChangeAt Go.Joins Go.Deep
theorem lawOwn : ownKnob Try.prog.godebug = none := by kernel_rfl
theorem lawLaid : laidOutB Try.prog = true := by kernel_rfl
theorem cellsAct : Try.prog.cellsOf 34 = 3 := by kernel_rfl
theorem cells3 : Try.prog.cellsOf 3 = 1 := by kernel_rfl
theorem cells5 : Try.prog.cellsOf 5 = 1 := by kernel_rfl
theorem cells4 : Try.prog.cellsOf 4 = 1 := by kernel_rfl
theorem cell_in {W : World} {a : Addr} {v : Value} (h : W.cell? a = some v) : a.spot = none ∧ a.block < W.heap.size := by
  unfold World.cell? at h
  split at h
  · rename_i heq
    refine ⟨?_, (Array.getElem?_eq_some_iff.1 heq).1⟩
    split at h
    · simp at h
    · rename_i hs
      cases hh : a.spot with
      | none => rfl
      | some x => simp [hh] at hs
  · simp at h

theorem open_al {H : Type} {enc : TypeId × Value → H} {W : World} {r : Reach} {b0 : Nat} {held : Bool} {v : Value} {d : DataW H} {p : List MemPlace}
    (hv : Value.okWide Try.prog W r b0 22 v) (h : DataW.Trod enc Try.prog W 0 (fun _ => true) held 22 v d p) :
    ∃ (A : Option Addr) (n c : Nat) (l : List Ac), v = .slice A n c ∧ n ≤ c ∧ c ≤ 9223372036854775807 ∧ (A = none → c = 0) ∧ AL W W.heap.size A n l := by
  obtain ⟨A, n, c, rfl⟩ := okWide_slice Try.underlying22 hv
  obtain ⟨fuel, hf⟩ := h
  simp only [Value.cells] at hf
  rcases open_slice Try.underlying22 hf with ⟨h0, -⟩ | ⟨a, len, cap, m, fu, D, Pl, h0, -, hl, hm, hmm, -, hx⟩
  · simp only [List.cons.injEq, Value.slice.injEq, and_true] at h0
    obtain ⟨rfl, rfl, rfl⟩ := h0
    exact ⟨none, 0, 0, [], rfl, by omega, by omega, fun _ => rfl, rfl, by simp, by omega⟩
  · simp only [List.cons.injEq, Value.slice.injEq, and_true] at h0
    obtain ⟨rfl, rfl, rfl⟩ := h0
    simp only [if_true] at hmm
    have hm' : c ≤ 9223372036854775807 := by unfold maxLen at hm; omega
    obtain ⟨b, o, s⟩ := a
    have hfirst : 0 < n → s = none ∧ b < W.heap.size := by
      intro hn
      obtain ⟨cs', h1, _⟩ := hx 0 (by omega)
      rw [cellsAct] at h1
      obtain ⟨_, hlen, hcell⟩ := World.cells?_some h1
      have c0 := hcell 0 (by omega)
      rw [show ((⟨b, o, s⟩ : Addr).add (0 * 3)).add 0 = ⟨b, o, s⟩ by simp [Addr.add], List.getElem?_eq_getElem (by omega)] at c0
      exact cell_in c0
    have each : ∀ i, i < n → ∃ t : Ac, s = none ∧ b < W.heap.size ∧ (0 ≤ t.k ∧ t.k ≤ 255) ∧ W.cell? ⟨b, o + i * 3, none⟩ = some (.int .u8 t.k) ∧ W.cell? ⟨b, o + i * 3 + 1, none⟩ = some (.int .i64 t.a) ∧ W.cell? ⟨b, o + i * 3 + 2, none⟩ = some (.int .i64 t.n) := by
      intro i hi
      obtain ⟨cs', h1, h2⟩ := hx i (by omega)
      rw [cellsAct] at h1
      obtain ⟨_, hlen, hcell⟩ := World.cells?_some h1
      obtain ⟨y0, y1, y2, k, -, -, g0, g1, g2⟩ := trod_struct3 Try.underlying34 h2
      match cs', hlen with
      | [v0, v1, v2], _ =>
        simp [cells3, cells5] at g0 g1 g2
        obtain ⟨x0, e0, -, w0⟩ := DataW.trod_int Try.underlying5 g0
        obtain ⟨x1, e1, -, w1⟩ := DataW.trod_int Try.underlying3 g1
        obtain ⟨x2, e2, -, w2⟩ := DataW.trod_int Try.underlying3 g2
        have c0 := hcell 0 (by omega)
        have c1 := hcell 1 (by omega)
        have c2 := hcell 2 (by omega)
        simp only [List.cons.injEq, and_true] at e0 e1 e2
        subst e0 e1 e2
        obtain ⟨hs', hb'⟩ := hfirst (by omega)
        subst hs'
        simp [add_plain] at c0 c1 c2
        exact ⟨⟨x0, x1, x2⟩, rfl, hb', bounds_u8 w0, c0, c1, c2⟩
    obtain ⟨T, hT⟩ := choose_lt each
    refine ⟨some ⟨b, o, s⟩, n, c, (List.range n).map T, rfl, hl, hm', by simp, by simp, fun t ht => ?_, fun hn => ?_⟩
    · obtain ⟨i, hi, rfl⟩ := List.mem_map.1 ht
      exact (hT i (List.mem_range.1 hi)).2.2.1
    · obtain ⟨rfl, hb, -⟩ := hT 0 hn
      refine ⟨b, o, rfl, hb, fun j hj => ?_⟩
      obtain ⟨-, -, -, hh⟩ := hT j hj
      have e : ((List.range n).map T).getD j default = T j := by simp [List.getD, hj]
      rw [e]
      exact hh
theorem open_u8 {H : Type} {enc : TypeId × Value → H} {W : World} {r : Reach} {b0 : Nat} {held : Bool} {v : Value} {d : DataW H} {p : List MemPlace}
    (hv : Value.okWide Try.prog W r b0 5 v) (h : DataW.Trod enc Try.prog W 0 (fun _ => true) held 5 v d p) : ∃ x, v = .int .u8 x ∧ 0 ≤ x ∧ x ≤ 255 := by
  obtain ⟨id, rfl⟩ := okWide_int Try.underlying5 hv
  obtain ⟨f1, hf1⟩ := h
  obtain ⟨id', e1, -, w1⟩ := DataW.trod_int Try.underlying5 hf1
  simp only [Value.cells, List.cons.injEq, Value.int.injEq, true_and, and_true] at e1
  subst e1
  exact ⟨id, rfl, bounds_u8 w1⟩
theorem open_i64 {H : Type} {enc : TypeId × Value → H} {W : World} {r : Reach} {b0 : Nat} {held : Bool} {v : Value} {d : DataW H} {p : List MemPlace}
    (hv : Value.okWide Try.prog W r b0 3 v) (h : DataW.Trod enc Try.prog W 0 (fun _ => true) held 3 v d p) : ∃ x, v = .int .i64 x ∧ -9223372036854775808 ≤ x ∧ x ≤ 9223372036854775807 := by
  obtain ⟨id, rfl⟩ := okWide_int Try.underlying3 hv
  obtain ⟨f1, hf1⟩ := h
  obtain ⟨id', e1, -, w1⟩ := DataW.trod_int Try.underlying3 hf1
  simp only [Value.cells, List.cons.injEq, Value.int.injEq, true_and, and_true] at e1
  subst e1
  exact ⟨id, rfl, bounds_i64 w1⟩
end

/-! A list's node by its place. -/
section
variable {B rb lb mb N M : Nat} {rows : List (List Nat)}
theorem Rr.spot {W : World} (h : Rr W B rb lb mb N M rows) {l i x : Nat} (hl : l < M) (hi : i < (rowAt rows l).length) (hx : x = (rowAt rows l).getD i 0) :
    x ∈ rows.flatten ∧ listOf rows x = l ∧ posOf rows x = i ∧ x < N := by
  obtain ⟨g, Hg, L⟩ := h
  have hxe : x = (rowAt rows l)[i] := by rw [hx]; simp [List.getD, hi]
  have hxm : x ∈ rowAt rows l := by rw [hxe]; exact List.getElem_mem hi
  have hxf := L.mem hl hxm
  obtain ⟨_, h2, _⟩ := L.listOf_eq hxf
  have h3 := L.lst l hl x hxm
  have e : listOf rows x = l := by omega
  refine ⟨hxf, e, ?_, L.lt x hxf⟩
  unfold posOf
  rw [e, hxe]
  exact List.Nodup.idxOf_getElem (rowAt_nodup (by rw [L.len]; exact hl) L.nodup) i hi
def lenTo (rows : List (List Nat)) : Nat → Nat
  | 0 => 0
  | l + 1 => lenTo rows l + (rowAt rows l).length
theorem lenTo_le : ∀ (rows : List (List Nat)) (l : Nat), l ≤ rows.length → lenTo rows l = (rows.take l).flatten.length
  | rows, 0, _ => by simp [lenTo]
  | rows, l + 1, h => by
    have hl : l < rows.length := by omega
    have e : rowAt rows l = rows[l] := by simp [rowAt, List.getD, hl]
    rw [lenTo, lenTo_le rows l (by omega), List.take_succ_eq_append_getElem hl, List.flatten_append, List.length_append, e]
    simp only [List.flatten_cons, List.flatten_nil, List.append_nil]
theorem Rr.total {W : World} (h : Rr W B rb lb mb N M rows) (l : Nat) (hl : l ≤ M) : lenTo rows l ≤ N := by
  obtain ⟨hlen, -⟩ := h.small
  obtain ⟨hn, hlt⟩ := h.nodup
  rw [lenTo_le rows l (by omega)]
  have h1 : (rows.take l).flatten.length ≤ rows.flatten.length := by
    conv => rhs; rw [← List.take_append_drop l rows, List.flatten_append, List.length_append]
    omega
  have h2 := nodup_len N rows.flatten hn hlt
  omega
theorem firstI_drop {r : List Nat} {i : Nat} (hi : i < r.length) : firstI (r.drop i) = ((r.getD i 0 : Nat) : Int) := by
  rw [List.drop_eq_getElem_cons hi]
  simp [firstI, List.getD, hi]
theorem firstI_end {r : List Nat} {i : Nat} (hi : r.length ≤ i) : firstI (r.drop i) = -1 := by
  rw [List.drop_of_length_le hi]; rfl
theorem lastI_take {r : List Nat} {i : Nat} (hi : i < r.length) : lastI (r.take (i + 1)) = ((r.getD i 0 : Nat) : Int) := by
  rw [List.take_succ_eq_append_getElem hi]
  cases h : r.take i with
  | nil => simp [lastI, lastOf, List.getD, hi]
  | cons a t =>
    simp only [List.cons_append, lastI, lastOf_append, lastOf]
    simp [List.getD, hi]
end
end Go.Proofs.Ytpcmfgkbfamdoaa
