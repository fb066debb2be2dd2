/- A part of the proof of a law of roundel: contracts of functions and lemmas, each true as it stands; no condition beyond those that its theorems state. -/
import Derived.Test.YtnlcbilmalfjaaaPl
import Derived.Laws.AppendOwnNone
import Derived.Laws.ResultCell
import Derived.Laws.Rows
import Derived.Deep.RegionLaw
namespace Go.Proofs.Ytnlcbilmalfjaaa
set_option linter.unusedSimpArgs false
set_option linter.unusedVariables false
open Go.RowKit

theorem results_cell1 {fn : Func} {p : Tmp} {ty : TypeId} {P : Program} {w : World} {tmps : Array Value} {a : Addr} {v : Value} (h : fn.results = #[.cell p ty]) (hp : tmps.getD p undef = .pointer (some a)) (hl : (loadVar ty a).run P w = .ok v w) :
    (results fn tmps).run P w = .ok v w := by
  have hp' : tmps[p]?.getD undef = .pointer (some a) := by simpa using hp
  simp [results, h, hp', asAddr, hl]

/-- A slice that the call itself made, in blocks from base on: n elements of sz cells. -/
abbrev OwnS (W : World) (base : Nat) (e : TypeId) (sz : Nat) (v : Value) (n : Nat) (xs : List Value) : Prop := W.ownsRow base e sz v n xs
theorem OwnS.ext {w w' : World} {base sz n : Nat} {e : TypeId} {v : Value} {l : List Value} (h : OwnS w base e sz v n l) (he : Ext w w') : OwnS w' base e sz v n l :=
  World.ownsRow.kept h (row := none) ⟨he.os, he.tape, he.output, he.size, fun k hk _ => he.block k hk⟩ (by cases v.ownBlock <;> simp)
theorem OwnS.nil {W : World} {base sz g : Nat} {e : TypeId} (hb : base ≤ g) (hg : W.heap[g]? = some (.cells #[] e (0, 0))) : OwnS W base e sz (.slice (some ⟨g, 0, none⟩) 0 0) 0 [] :=
  ⟨by simp, .inr ⟨g, 0, #[], rfl, hb, hg, Nat.le_refl _, by unfold maxLen; omega, by simp, by simp⟩⟩
theorem OwnS.base_le {W : World} {base sz n : Nat} {e : TypeId} {v : Value} {xs : List Value} (h : OwnS W base e sz v n xs) : ∀ k, v.ownBlock = some k → base ≤ k := fun k hk => (World.ownsRow.lt h k hk).1
theorem OwnS.cells {W : World} {base sz n : Nat} {e : TypeId} {v : Value} {xs : List Value} (h : OwnS W base e sz v n xs) :
    ∃ A c, v = .slice A n c ∧ n ≤ c ∧ c ≤ 9223372036854775807 ∧ (A = none → c = 0) ∧ (0 < n → ∃ g, A = some ⟨g, 0, none⟩ ∧ base ≤ g ∧ g < W.heap.size ∧ (∀ j, j < n * sz → W.cell? ⟨g, j, none⟩ = some (xs.getD j undef)) ∧ ∀ j, W.frozen? ⟨g, j, none⟩ = false) := by
  rcases h.2 with ⟨hv, hn⟩ | ⟨g, cap, cur, hv, hg, hh, hnc, hcm, hcs, htk⟩
  · exact ⟨none, 0, by rw [hv, hn], by omega, by omega, fun _ => rfl, by omega⟩
  · refine ⟨some ⟨g, 0, none⟩, cap, hv, hnc, by unfold maxLen at hcm; omega, by simp, fun hn => ⟨g, rfl, hg, (Array.getElem?_eq_some_iff.1 hh).1, fun j hj => ?_, fun j => frozen_of_row W g j cur e hh⟩⟩
    rw [cell_of_row W g j cur e (0, 0) hh]
    have e1 : (cur.toList.take (n * sz))[j]? = xs[j]? := by rw [htk]
    have hl : j < xs.length := by rw [h.1]; exact hj
    rw [List.getElem?_take_of_lt hj, List.getElem?_eq_getElem hl] at e1
    simpa [List.getD, List.getElem?_eq_getElem hl] using e1

section
variable {w : World} {base sz n m : Nat} {t ty e : TypeId} {z : Value} {bytes : Nat} {v : Value} {xs ys : List Value} {A : Option Addr} {c : Nat}
theorem run_append_sz (ht : Try.prog.underlying t = some (.slice e)) (hi : (Try.prog.info? e).map (fun i => (i.zero, i.size, i.bytes)) = some (some z, sz, bytes)) (hzs : z.cells.size = sz) (hsz : 0 < sz) (hby : bytes ≤ 1000)
    (hown : OwnS w base e sz v n xs) (hc : A = none → c = 0) (hm : ys.length = m * sz)
    (hr : 0 < m → ∃ y oy, A = some ⟨y, oy, none⟩ ∧ ∀ j, j < m * sz → w.cell? ⟨y, oy + j, none⟩ = some (ys.getD j undef)) (h1 : ∀ u ∈ ys, u.oneCell' = true)
    (hl : n + m ≤ 100000) (hB : base ≤ w.heap.size) :
    ∃ v' w', (Builtin.append_ #[t, t] ty #[v, .slice A m c]).run Try.prog w = .ok v' w' ∧ OwnS w' base e sz v' (n + m) (xs ++ ys) ∧ w.grownBy w' v.ownBlock := by
  obtain ⟨i0, hi0, hz0, hz1, hz2⟩ := info_parts hi
  rcases A with _ | ad
  · have hm0 : m = 0 := by
      rcases Nat.eq_zero_or_pos m with h0 | h0
      · exact h0
      · obtain ⟨b, o, h, _⟩ := hr h0
        cases h
    subst hm0
    have hc0 := hc rfl
    subst hc0
    have hy : ys = [] := List.eq_nil_of_length_eq_zero (by rw [hm]; simp)
    subst hy
    exact ⟨v, w, run_append_owned_none (P := Try.prog) (w := w) base t ty e i0 sz ht hi0 v n xs hown, by simpa using hown, World.grownBy.refl _ _⟩
  · obtain ⟨v', w', h2, h3, h4, _, _⟩ := run_append_own_at (P := Try.prog) w base t ty e i0 z sz bytes ht hi0 hz0 hz1 hz2 hzs hsz v n xs hown ad m c ys hm (fun j u hu => by
      have hj : j < ys.length := (List.getElem?_eq_some_iff.1 hu).1
      rw [hm] at hj
      have hm1 : 0 < m := by
        rcases Nat.eq_zero_or_pos m with h0 | h0
        · rw [h0] at hj; simp at hj
        · exact h0
      obtain ⟨b, o, h, hcell⟩ := hr hm1
      injection h with h
      subst h
      rw [Addr.add_mid, hcell j hj, ← hu]
      simp [List.getD, hu]) h1 (by unfold maxLen; omega) (by
        have : (n + m) * bytes ≤ 100000 * 1000 := Nat.mul_le_mul hl hby
        omega) hB
    exact ⟨v', w', h2, h3, h4⟩
variable {ops : Array Oper} {rest : List Oper} {o : Oper} {a : Act} {K : Act → World → Prop} {Q : Exit → Act → World → Prop}
theorem wp_append_sz (s x : Operand) (ho : o.op = .call { callee := .builtin .append, args := #[s, x], argTypes := #[t, t] })
    (ht : Try.prog.underlying t = some (.slice e)) (hi : (Try.prog.info? e).map (fun i => (i.zero, i.size, i.bytes)) = some (some z, sz, bytes)) (hzs : z.cells.size = sz) (hsz : 0 < sz) (hby : bytes ≤ 1000)
    (hs : a.eval s = v) (hown : OwnS w base e sz v n xs) (hx : a.eval x = .slice A m c) (hc : A = none → c = 0) (hm : ys.length = m * sz)
    (hr : 0 < m → ∃ y oy, A = some ⟨y, oy, none⟩ ∧ ∀ j, j < m * sz → w.cell? ⟨y, oy + j, none⟩ = some (ys.getD j undef)) (h1 : ∀ u ∈ ys, u.oneCell' = true)
    (hl : n + m ≤ 100000) (hB : base ≤ w.heap.size)
    (h : ∀ v' w', OwnS w' base e sz v' (n + m) (xs ++ ys) → w.grownBy w' v.ownBlock → K (a.put o.dst v') w') : o.wp Try.prog a w K Q := by
  obtain ⟨v', w', hrun, h2, h3⟩ := run_append_sz (ty := o.type) ht hi hzs hsz hby hown hc hm hr h1 hl hB
  unfold Oper.wp execOp
  simp only [ho, resolve, invoke, builtin, Sem.run_bind, Sem.run_pure, Result.andThen_ok, List.map_toArray, List.map_cons, List.map_nil, hs, hx, hrun]
  exact h v' w' h2 h3
theorem wpList_append_sz (hgd : o.guard = none) (s x : Operand) (ho : o.op = .call { callee := .builtin .append, args := #[s, x], argTypes := #[t, t] })
    (ht : Try.prog.underlying t = some (.slice e)) (hi : (Try.prog.info? e).map (fun i => (i.zero, i.size, i.bytes)) = some (some z, sz, bytes)) (hzs : z.cells.size = sz) (hsz : 0 < sz) (hby : bytes ≤ 1000)
    (hs : a.eval s = v) (hown : OwnS w base e sz v n xs) (hx : a.eval x = .slice A m c) (hc : A = none → c = 0) (hm : ys.length = m * sz)
    (hr : 0 < m → ∃ y oy, A = some ⟨y, oy, none⟩ ∧ ∀ j, j < m * sz → w.cell? ⟨y, oy + j, none⟩ = some (ys.getD j undef)) (h1 : ∀ u ∈ ys, u.oneCell' = true)
    (hl : n + m ≤ 100000) (hB : base ≤ w.heap.size)
    (h : ∀ v' w', OwnS w' base e sz v' (n + m) (xs ++ ys) → w.grownBy w' v.ownBlock → wpList Try.prog ops Q rest (a.put o.dst v') w') : wpList Try.prog ops Q (o :: rest) a w :=
  wpList_plain hgd fun _ hK => wp_append_sz s x ho ht hi hzs hsz hby hs hown hx hc hm hr h1 hl hB fun v' w' h2 h3 => hK _ _ (h v' w' h2 h3)
theorem step_append_sz {E : Prop} (hgd : o.guard = none) (s x : Operand) (ho : o.op = .call { callee := .builtin .append, args := #[s, x], argTypes := #[t, t] })
    (ht : Try.prog.underlying t = some (.slice e)) (hi : (Try.prog.info? e).map (fun i => (i.zero, i.size, i.bytes)) = some (some z, sz, bytes)) (hzs : z.cells.size = sz) (hsz : 0 < sz) (hby : bytes ≤ 1000)
    (hs : a.eval s = v) (hown : OwnS w base e sz v n xs) (hx : a.eval x = .slice A m c) (hc : A = none → c = 0) (hm : ys.length = m * sz)
    (hr : 0 < m → ∃ y oy, A = some ⟨y, oy, none⟩ ∧ ∀ j, j < m * sz → w.cell? ⟨y, oy + j, none⟩ = some (ys.getD j undef)) (h1 : ∀ u ∈ ys, u.oneCell' = true)
    (hl : n + m ≤ 100000) (hB : base ≤ w.heap.size)
    (h : ∀ v' w', OwnS w' base e sz v' (n + m) (xs ++ ys) → w.grownBy w' v.ownBlock → K (a.put o.dst v') w') : if Region.wanted o (yielded ops a.tmps) = true then Oper.wp Try.prog o a w K Q else E := by
  have hw : Region.wanted o (yielded ops a.tmps) = true := by simp [Region.wanted, hgd]
  rw [if_pos hw]
  exact wp_append_sz s x ho ht hi hzs hsz hby hs hown hx hc hm hr h1 hl hB h
end

/-! Rows of nodes and their tags. -/
def pairs (T : Nat → Int) : List Nat → List Value
  | [] => []
  | x :: r => .int .i64 (x : Int) :: .int .i64 (T x) :: pairs T r
theorem pairs_len (T : Nat → Int) : ∀ r, (pairs T r).length = r.length * 2
  | [] => rfl
  | x :: r => by simp [pairs, pairs_len T r]; omega
theorem pairs_one (T : Nat → Int) : ∀ r, ∀ u ∈ pairs T r, u.oneCell' = true
  | [], u, h => by cases h
  | x :: r, u, h => by
    simp only [pairs, List.mem_cons] at h
    rcases h with rfl | rfl | h
    · rfl
    · rfl
    · exact pairs_one T r u h
theorem pairs_append (T : Nat → Int) (a b : List Nat) : pairs T (a ++ b) = pairs T a ++ pairs T b := by
  induction a with
  | nil => rfl
  | cons x a ih => simp [pairs, ih]
theorem pairs_node (T : Nat → Int) : ∀ (r : List Nat) (i : Nat), i < r.length → (pairs T r).getD (i * 2) undef = .int .i64 ((r.getD i 0 : Nat) : Int)
  | x :: r, 0, _ => rfl
  | x :: r, i + 1, h => by
    have := pairs_node T r i (by simpa using h)
    rw [show (i + 1) * 2 = i * 2 + 1 + 1 by omega]
    simpa [pairs] using this
theorem pairs_tag (T : Nat → Int) : ∀ (r : List Nat) (i : Nat), i < r.length → (pairs T r).getD (i * 2 + 1) undef = .int .i64 (T (r.getD i 0))
  | x :: r, 0, _ => rfl
  | x :: r, i + 1, h => by
    have := pairs_tag T r i (by simpa using h)
    rw [show (i + 1) * 2 + 1 = i * 2 + 1 + 1 + 1 by omega]
    simpa [pairs] using this
theorem pairs_congr {T T' : Nat → Int} : ∀ {r : List Nat}, (∀ x ∈ r, T x = T' x) → pairs T r = pairs T' r
  | [], _ => rfl
  | x :: r, h => by simp only [pairs]; rw [h x (by simp), pairs_congr (fun y hy => h y (by simp [hy]))]

/-- A row of the document's lanes, in blocks of L. -/
def RowL (W : World) (L : Nat → Prop) (A : Option Addr) (n c : Nat) (T : Nat → Int) (r : List Nat) : Prop :=
  r.length = n ∧ n ≤ c ∧ c ≤ 9223372036854775807 ∧ (A = none → c = 0) ∧ (0 < n → ∃ y, A = some ⟨y, 0, none⟩ ∧ L y ∧ ∀ i, i < n → W.cell? ⟨y, i * 2, none⟩ = some (.int .i64 ((r.getD i 0 : Nat) : Int)) ∧ W.cell? ⟨y, i * 2 + 1, none⟩ = some (.int .i64 (T (r.getD i 0))))
/-- The document's lanes. -/
def RefL (W : World) (L : Nat → Prop) (v : Value) (N : Nat) (T : Nat → Int) (rows : List (List Nat)) : Prop :=
  ∃ A n c, v = .agg #[.int .i64 (N : Int), .slice A n c] ∧ rows.length = n ∧ n ≤ c ∧ c ≤ 9223372036854775807 ∧ (A = none → c = 0) ∧
    (0 < n → ∃ x, A = some ⟨x, 0, none⟩ ∧ L x ∧ ∀ j, j < n → ∃ GA gn gc, W.cell? ⟨x, j, none⟩ = some (.slice GA gn gc) ∧ RowL W L GA gn gc T (rowAt rows j))
theorem getD_memN {r : List Nat} {i : Nat} (h : i < r.length) : r.getD i 0 ∈ r := by
  have : r.getD i 0 = r[i] := by simp [List.getD, h]
  rw [this]; exact List.getElem_mem _
section
variable {W W' : World} {L L' : Nat → Prop} {A : Option Addr} {n c N : Nat} {T T' : Nat → Int} {r : List Nat} {v : Value} {rows : List (List Nat)}
theorem RowL.kept (h : RowL W L A n c T r) (hb : ∀ x, L x → x < W.heap.size → W'.heap[x]? = W.heap[x]?) : RowL W' L A n c T r := by
  refine ⟨h.1, h.2.1, h.2.2.1, h.2.2.2.1, fun hn => ?_⟩
  obtain ⟨y, rfl, hy, hc⟩ := h.2.2.2.2 hn
  exact ⟨y, rfl, hy, fun i hi => ⟨(World.cell?_of_block (a := ⟨y, _, none⟩) (hb y hy (block_lt_of_cell (hc i hi).1))).trans (hc i hi).1, (World.cell?_of_block (a := ⟨y, _, none⟩) (hb y hy (block_lt_of_cell (hc i hi).1))).trans (hc i hi).2⟩⟩
theorem RefL.kept (h : RefL W L v N T rows) (hb : ∀ x, L x → x < W.heap.size → W'.heap[x]? = W.heap[x]?) : RefL W' L v N T rows := by
  obtain ⟨A, n, c, rfl, h1, h2, h3, h4, h5⟩ := h
  refine ⟨A, n, c, rfl, h1, h2, h3, h4, fun hn => ?_⟩
  obtain ⟨x, rfl, hx, hc⟩ := h5 hn
  refine ⟨x, rfl, hx, fun j hj => ?_⟩
  obtain ⟨GA, gn, gc, k1, k2⟩ := hc j hj
  exact ⟨GA, gn, gc, (World.cell?_of_block (a := ⟨x, j, none⟩) (hb x hx (block_lt_of_cell k1))).trans k1, k2.kept hb⟩
theorem RowL.ext (h : RowL W L A n c T r) (he : Ext W W') : RowL W' L A n c T r := h.kept (fun _ _ hx => he.blk hx)
theorem RefL.ext (h : RefL W L v N T rows) (he : Ext W W') : RefL W' L v N T rows := h.kept (fun _ _ hx => he.blk hx)
theorem RowL.mono (h : RowL W L A n c T r) (hp : ∀ x, L x → x < W.heap.size → L' x) : RowL W L' A n c T r := by
  refine ⟨h.1, h.2.1, h.2.2.1, h.2.2.2.1, fun hn => ?_⟩
  obtain ⟨y, rfl, hy, hc⟩ := h.2.2.2.2 hn
  exact ⟨y, rfl, hp y hy (block_lt_of_cell (hc 0 hn).1), hc⟩
theorem RefL.mono (h : RefL W L v N T rows) (hp : ∀ x, L x → x < W.heap.size → L' x) : RefL W L' v N T rows := by
  obtain ⟨A, n, c, rfl, h1, h2, h3, h4, h5⟩ := h
  refine ⟨A, n, c, rfl, h1, h2, h3, h4, fun hn => ?_⟩
  obtain ⟨x, rfl, hx, hc⟩ := h5 hn
  refine ⟨x, rfl, ?_, fun j hj => ?_⟩
  · obtain ⟨GA, gn, gc, k1, k2⟩ := hc 0 hn
    exact hp x hx (block_lt_of_cell k1)
  · obtain ⟨GA, gn, gc, k1, k2⟩ := hc j hj
    exact ⟨GA, gn, gc, k1, k2.mono hp⟩
theorem RowL.tags (h : RowL W L A n c T r) (ht : ∀ x ∈ r, T x = T' x) : RowL W L A n c T' r := by
  refine ⟨h.1, h.2.1, h.2.2.1, h.2.2.2.1, fun hn => ?_⟩
  obtain ⟨y, rfl, hy, hc⟩ := h.2.2.2.2 hn
  exact ⟨y, rfl, hy, fun i hi => ⟨(hc i hi).1, by rw [← ht _ (getD_memN (by rw [h.1]; exact hi))]; exact (hc i hi).2⟩⟩
theorem RefL.tags (h : RefL W L v N T rows) (ht : ∀ x ∈ rows.flatten, T x = T' x) : RefL W L v N T' rows := by
  obtain ⟨A, n, c, rfl, h1, h2, h3, h4, h5⟩ := h
  refine ⟨A, n, c, rfl, h1, h2, h3, h4, fun hn => ?_⟩
  obtain ⟨x, rfl, hx, hc⟩ := h5 hn
  refine ⟨x, rfl, hx, fun j hj => ?_⟩
  obtain ⟨GA, gn, gc, k1, k2⟩ := hc j hj
  exact ⟨GA, gn, gc, k1, k2.tags (fun x hx => ht x (rowAt_mem (by omega) hx))⟩
/-- A row of the call's own, as the document's. -/
theorem OwnS.rowL {base : Nat} (h : OwnS W base 72 2 v n (pairs T r)) (hn : r.length = n) (hL : ∀ x, base ≤ x → L x) : ∃ A c, v = .slice A n c ∧ RowL W L A n c T r := by
  obtain ⟨A, c, hv, h1, h2, h3, h4⟩ := h.cells
  refine ⟨A, c, hv, hn, h1, h2, h3, fun hp => ?_⟩
  obtain ⟨g, hA, hg, _, hc, _⟩ := h4 hp
  refine ⟨g, hA, hL g hg, fun i hi => ⟨?_, ?_⟩⟩
  · rw [hc _ (by omega), pairs_node T r i (by omega)]
  · rw [hc _ (by omega), pairs_tag T r i (by omega)]
end
theorem infoN : (Try.prog.info? 72).map (fun i => (i.zero, i.size, i.bytes)) = some (some (.agg #[.int .i64 0, .int .i64 0]), 2, 16) := by kernel_rfl
theorem infoRow : (Try.prog.info? 69).map (fun i => (i.zero, i.size, i.bytes)) = some (some (.slice none 0 0), 1, 24) := by kernel_rfl
end Go.Proofs.Ytnlcbilmalfjaaa
