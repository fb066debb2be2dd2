/- A part of the proof of a law of roundel: contracts of functions and lemmas, each true as it stands; no condition beyond those that its theorems state. -/
import Derived.Test.YtnlcbilmalfjaaaRd
import Derived.Test.YtnlcbilmalfjaaaRp
import Derived.Test.YtnlcbilmalfjaaaPl
import Derived.Test.YtnlcbilmalfjaaaOp
import Derived.Lib.SmallJoins
namespace Go.Proofs.Ytnlcbilmalfjaaa
set_option linter.unusedSimpArgs false
set_option linter.unusedVariables false
open Go.RowKit

theorem RNew_bad (n m : Int) (h : n < 1 ∨ 64 < n ∨ m < 1 ∨ 64 < m) (W : World) :
    Calls Try.prog 19 #[.int .i64 n, .int .i64 m] W fun e W' => e = .returned (.tuple #[.agg #[.int .i64 0, .slice none 0 0], .int .i64 14]) ∧ Ext W W' := by
  go_enter Try.func19, Try.ntmps19
  by_cases h1 : n < 1
  · go_wp2
    (try simp only [Exit.inBlock, Exit.then])
    refine bodyPost_ret (v := .tuple #[.agg #[.int .i64 0, .slice none 0 0], .int .i64 14]) (by rw [results_cell_tmp rfl]; go_simp) rfl ?_
    exact ⟨rfl, (Ext.refl W).alloc _⟩
  · by_cases h2 : 64 < n
    · have h1' : 1 ≤ n := by omega
      go_wp2
      (try simp only [Exit.inBlock, Exit.then])
      refine bodyPost_ret (v := .tuple #[.agg #[.int .i64 0, .slice none 0 0], .int .i64 14]) (by rw [results_cell_tmp rfl]; go_simp) rfl ?_
      exact ⟨rfl, (Ext.refl W).alloc _⟩
    · have h1' : 1 ≤ n := by omega
      have h2' : n ≤ 64 := by omega
      by_cases h3 : m < 1
      · go_wp2
        (try simp only [Exit.inBlock, Exit.then])
        refine bodyPost_ret (v := .tuple #[.agg #[.int .i64 0, .slice none 0 0], .int .i64 14]) (by rw [results_cell_tmp rfl]; go_simp) rfl ?_
        exact ⟨rfl, (Ext.refl W).alloc _⟩
      · have h4 : 64 < m := by omega
        have h3' : 1 ≤ m := by omega
        go_wp2
        (try simp only [Exit.inBlock, Exit.then])
        refine bodyPost_ret (v := .tuple #[.agg #[.int .i64 0, .slice none 0 0], .int .i64 14]) (by rw [results_cell_tmp rfl]; go_simp) rfl ?_
        exact ⟨rfl, (Ext.refl W).alloc _⟩

section
variable {B rb lb mb N M : Nat} {rows : List (List Nat)} {L : Nat → Prop} {T : Nat → Int}
theorem RDrop_any (v : Value) (node : Int) (W0 W : World) (H0 : Rr W0 B rb lb mb N M rows) (hL : ∀ x, W.heap.size ≤ x → L x) (H : RefL W L v N T rows) :
    Calls Try.prog 21 #[v, .int .i64 node] W fun e W' => ∃ v', e = .returned (.tuple #[v', .int .i64 (dropS N rows node).2]) ∧ RefL W' L v' N T (dropS N rows node).1 ∧ Ext W W' := by
  obtain ⟨s1, s2, s3⟩ := H0.small
  by_cases p2 : 0 ≤ node ∧ node < (N : Int)
  · obtain ⟨m, rfl⟩ := Int.eq_ofNat_of_zero_le p2.1
    have hm : m < N := by omega
    by_cases p3 : m ∈ rows.flatten
    · have hs : dropS N rows (m : Int) = (rows.set (listOf rows m) ((rowAt rows (listOf rows m)).take (posOf rows m) ++ (rowAt rows (listOf rows m)).drop (posOf rows m + 1)), 0) := by
        unfold dropS
        rw [if_pos p2, if_pos (by simpa using p3)]
        rfl
      rw [hs]
      exact rdrop_in v _ _ m hm p3 rfl rfl (by omega) (s3 _) W hL H
    · have hs : dropS N rows (m : Int) = (rows, 10) := by
        unfold dropS
        rw [if_pos p2, if_neg (by simpa using p3)]
      rw [hs]
      exact (rdrop_free v m hm p3 W H).mono (fun e W' h => ⟨v, h.1, H.ext h.2, h.2⟩)
  · have hs : dropS N rows node = (rows, 14) := by
      unfold dropS
      rw [if_neg p2]
    rw [hs]
    exact (rdrop_out v node p2 W H).mono (fun e W' h => ⟨v, h.1, H.ext h.2, h.2⟩)
theorem RPut_any (v : Value) (core node tag : Int) (W0 W : World) (H0 : Rr W0 B rb lb mb N M rows) (hL : ∀ x, W.heap.size ≤ x → L x) (H : RefL W L v N T rows) :
    Calls Try.prog 22 #[v, .int .i64 core, .int .i64 node, .int .i64 tag] W fun e W' => ∃ v', e = .returned (.tuple #[v', .int .i64 (laneS N rows T core node tag).2]) ∧ RefL W' L v' N (laneT N rows T core node tag) (laneS N rows T core node tag).1 ∧ Ext W W' := by
  obtain ⟨s1, s2, s3⟩ := H0.small
  by_cases p : (0 ≤ core ∧ core < (M : Int)) ∧ (0 ≤ node ∧ node < (N : Int))
  · obtain ⟨⟨pc, pc'⟩, pn, pn'⟩ := p
    obtain ⟨l, rfl⟩ := Int.eq_ofNat_of_zero_le pc
    obtain ⟨m, rfl⟩ := Int.eq_ofNat_of_zero_le pn
    by_cases p3 : m ∈ rows.flatten
    · have hs := laneS_held (T := T) H0 tag (show l < M by omega) (show m < N by omega) p3
      rw [laneT_bad (by rw [hs]; simp), hs]
      exact (rput_held v l m tag (by omega) (by omega) p3 W H).mono (fun e W' h => ⟨v, h.1, H.ext h.2, h.2⟩)
    · have hs := laneS_in (T := T) H0 tag (show l < M by omega) (show m < N by omega) p3
      rw [laneT_in (by rw [hs]), hs]
      exact rput_in (fun (i : Nat) => if (i : Int) = (m : Int) then tag else T i) v l m tag (by omega) (by omega) (s3 _) (by omega) p3 (fun x hx => if_neg (fun h => p3 (by rw [← (show x = m by omega)]; exact hx))) (if_pos rfl) W hL H
  · have hs := laneS_out (T := T) H0 tag p
    rw [laneT_bad (by rw [hs]; simp), hs]
    exact (rput_out v core node tag (by rw [s1]; exact p) W H).mono (fun e W' h => ⟨v, h.1, H.ext h.2, h.2⟩)
end

structure Ac where
  d : Bool
  a : Int
  n : Int
  t : Int
instance : Inhabited Ac := ⟨⟨false, 0, 0, 0⟩⟩

/-- A slice of acts in memory that was there from the first. -/
def AL (W : World) (B : Nat) (A : Option Addr) (n : Nat) (l : List Ac) : Prop :=
  l.length = n ∧ (0 < n → ∃ x o, A = some ⟨x, o, none⟩ ∧ x < B ∧ ∀ j, j < n → W.cell? ⟨x, o + j * 4, none⟩ = some (.bool (l.getD j default).d) ∧ W.cell? ⟨x, o + j * 4 + 1, none⟩ = some (.int .i64 (l.getD j default).a) ∧ W.cell? ⟨x, o + j * 4 + 2, none⟩ = some (.int .i64 (l.getD j default).n) ∧ W.cell? ⟨x, o + j * 4 + 3, none⟩ = some (.int .i64 (l.getD j default).t))

section
open Go.ChangeShapes Go.WideShapes Go.ChangeAt Go.Joins Go.Deep
theorem cellsAct : Try.prog.cellsOf 48 = 4 := by kernel_rfl

theorem open_al {H : Type} {enc : TypeId × Value → H} {W : World} {r : Reach} {b0 : Nat} {held : Bool} {v : Value} {d : DataW H} {p : List MemPlace}
    (hv : Value.okWide Try.prog W r b0 41 v) (h : DataW.Trod enc Try.prog W 0 (fun _ => true) held 41 v d p) :
    ∃ (A : Option Addr) (n c : Nat) (l : List Ac), v = .slice A n c ∧ n ≤ c ∧ c ≤ 9223372036854775807 ∧ (A = none → c = 0) ∧ AL W W.heap.size A n l := by
  obtain ⟨A, n, c, rfl⟩ := okWide_slice Try.underlying41 hv
  obtain ⟨fuel, hf⟩ := h
  simp only [Value.cells] at hf
  rcases open_slice Try.underlying41 hf with ⟨h0, -⟩ | ⟨a, len, cap, m, fu, D, Pl, h0, -, hl, hm, hmm, -, hx⟩
  · simp only [List.cons.injEq, Value.slice.injEq, and_true] at h0
    obtain ⟨rfl, rfl, rfl⟩ := h0
    exact ⟨none, 0, 0, [], rfl, by omega, by omega, fun _ => rfl, rfl, by omega⟩
  · simp only [List.cons.injEq, Value.slice.injEq, and_true] at h0
    obtain ⟨rfl, rfl, rfl⟩ := h0
    simp only [if_true] at hmm
    have hm' : c ≤ 9223372036854775807 := by unfold maxLen at hm; omega
    obtain ⟨b, o, s⟩ := a
    have hfirst : 0 < n → s = none ∧ b < W.heap.size := by
      intro hn
      obtain ⟨cs', h1, _⟩ := hx 0 (by omega)
      rw [cellsAct] at h1
      obtain ⟨_, hlen, hcell⟩ := World.cells?_some h1
      have c0 := hcell 0 (by omega)
      rw [show ((⟨b, o, s⟩ : Addr).add (0 * 4)).add 0 = ⟨b, o, s⟩ by simp [Addr.add], List.getElem?_eq_getElem (by omega)] at c0
      exact cell_in c0
    have each : ∀ i, i < n → ∃ t : Ac, s = none ∧ b < W.heap.size ∧ W.cell? ⟨b, o + i * 4, none⟩ = some (.bool t.d) ∧ W.cell? ⟨b, o + i * 4 + 1, none⟩ = some (.int .i64 t.a) ∧ W.cell? ⟨b, o + i * 4 + 2, none⟩ = some (.int .i64 t.n) ∧ W.cell? ⟨b, o + i * 4 + 3, none⟩ = some (.int .i64 t.t) := by
      intro i hi
      obtain ⟨cs', h1, h2⟩ := hx i (by omega)
      rw [cellsAct] at h1
      obtain ⟨_, hlen, hcell⟩ := World.cells?_some h1
      obtain ⟨y0, y1, y2, y3, k, -, -, g0, g1, g2, g3⟩ := Go.Joins.trod_struct4 Try.underlying48 h2
      match cs', hlen with
      | [v0, v1, v2, v3], _ =>
        simp [cells3, cells4] at g0 g1 g2 g3
        obtain ⟨x0, e0, -⟩ := DataW.trod_bool Try.underlying4 g0
        obtain ⟨x1, e1, -, w1⟩ := DataW.trod_int Try.underlying3 g1
        obtain ⟨x2, e2, -, w2⟩ := DataW.trod_int Try.underlying3 g2
        obtain ⟨x3, e3, -, w3⟩ := DataW.trod_int Try.underlying3 g3
        have c0 := hcell 0 (by omega)
        have c1 := hcell 1 (by omega)
        have c2 := hcell 2 (by omega)
        have c3 := hcell 3 (by omega)
        simp only [List.cons.injEq, and_true] at e0 e1 e2 e3
        subst e0 e1 e2 e3
        obtain ⟨hs', hb'⟩ := hfirst (by omega)
        subst hs'
        simp [add_plain] at c0 c1 c2 c3
        exact ⟨⟨x0, x1, x2, x3⟩, rfl, hb', c0, c1, c2, c3⟩
    obtain ⟨T, hT⟩ := choose_lt each
    refine ⟨some ⟨b, o, s⟩, n, c, (List.range n).map T, rfl, hl, hm', by simp, by simp, fun hn => ?_⟩
    obtain ⟨rfl, hb, -⟩ := hT 0 hn
    refine ⟨b, o, rfl, hb, fun j hj => ?_⟩
    obtain ⟨-, -, hh⟩ := hT j hj
    have e : ((List.range n).map T).getD j default = T j := by simp [List.getD, hj]
    rw [e]
    exact hh
end
end Go.Proofs.Ytnlcbilmalfjaaa
