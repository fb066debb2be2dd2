/- A part of the proof of a law of roundel: contracts of functions and lemmas, each true as it stands; no condition beyond those that its theorems state. -/
import Derived.Test.YtpcmfgkbfamdoaaL
import Derived.Laws.AppendOwnNone
import Derived.Deep.RegionLaw
namespace Go.Proofs.Ytpcmfgkbfamdoaa
set_option linter.unusedSimpArgs false
set_option linter.unusedVariables false
open Go.RowKit

/-- A slice of one-cell elements that the call itself made, in blocks from base on. -/
def OwnV (W : World) (base : Nat) (e : TypeId) (v : Value) (xs : List Value) : Prop := W.ownsRow base e 1 v xs.length xs

theorem OwnV.ext {w w' : World} {base : Nat} {e : TypeId} {v : Value} {l : List Value} (h : OwnV w base e v l) (he : Ext w w') : OwnV w' base e v l :=
  World.ownsRow.kept h (row := none) ⟨he.os, he.tape, he.output, he.size, fun k hk _ => he.block k hk⟩ (by cases v.ownBlock <;> simp)
/-- The literal of no elements. -/
theorem OwnV.nil {W : World} {base g : Nat} {e : TypeId} (hb : base ≤ g) (hg : W.heap[g]? = some (.cells #[] e (0, 0))) : OwnV W base e (.slice (some ⟨g, 0, none⟩) 0 0) [] :=
  ⟨rfl, .inr ⟨g, 0, #[], rfl, hb, hg, Nat.le_refl _, by unfold maxLen; omega, rfl, rfl⟩⟩
theorem OwnV.mono {W : World} {base base' : Nat} {e : TypeId} {v : Value} {xs : List Value} (h : OwnV W base e v xs) (hb : base' ≤ base) : OwnV W base' e v xs := by
  rcases h.2 with h0 | ⟨g, cap, cur, hv, hg, r⟩
  · exact ⟨h.1, .inl h0⟩
  · exact ⟨h.1, .inr ⟨g, cap, cur, hv, Nat.le_trans hb hg, r⟩⟩
theorem OwnV.base_le {W : World} {base : Nat} {e : TypeId} {v : Value} {xs : List Value} (h : OwnV W base e v xs) : ∀ k, v.ownBlock = some k → base ≤ k := fun k hk => (World.ownsRow.lt h k hk).1
/-- Its cells. -/
theorem OwnV.cells {W : World} {base : Nat} {e : TypeId} {v : Value} {xs : List Value} (h : OwnV W base e v xs) :
    ∃ A c, v = .slice A xs.length c ∧ xs.length ≤ c ∧ c ≤ 9223372036854775807 ∧ (A = none → c = 0) ∧ (0 < xs.length → ∃ g, A = some ⟨g, 0, none⟩ ∧ base ≤ g ∧ g < W.heap.size ∧ (∀ j, j < xs.length → W.cell? ⟨g, j, none⟩ = some (xs.getD j undef)) ∧ ∀ j, W.frozen? ⟨g, j, none⟩ = false) := by
  rcases h.2 with ⟨hv, hn⟩ | ⟨g, cap, cur, hv, hg, hh, hnc, hcm, hcs, htk⟩
  · exact ⟨none, 0, by rw [hv, hn], by omega, by omega, fun _ => rfl, by omega⟩
  · refine ⟨some ⟨g, 0, none⟩, cap, hv, hnc, by unfold maxLen at hcm; omega, by simp, fun hn => ⟨g, rfl, hg, (Array.getElem?_eq_some_iff.1 hh).1, fun j hj => ?_, fun j => frozen_of_row W g j cur e hh⟩⟩
    rw [cell_of_row W g j cur e (0, 0) hh]
    have e1 : (cur.toList.take (xs.length * 1))[j]? = xs[j]? := by rw [htk]
    rw [Nat.mul_one, List.getElem?_take_of_lt hj, List.getElem?_eq_getElem hj] at e1
    simpa [List.getD, List.getElem?_eq_getElem hj] using e1

theorem run_append_vals {w : World} {base : Nat} {t ty e : TypeId} {z : Value} {bytes : Nat} (ht : Try.prog.underlying t = some (.slice e)) (hi : (Try.prog.info? e).map (fun i => (i.zero, i.size, i.bytes)) = some (some z, 1, bytes)) (hzs : z.cells.size = 1) (hby : bytes ≤ 1000)
    {v : Value} {xs : List Value} (hown : OwnV w base e v xs) {A : Option Addr} {m c : Nat} {ys : List Value} (hc : A = none → c = 0) (hm : ys.length = m)
    (hr : 0 < m → ∃ y oy, A = some ⟨y, oy, none⟩ ∧ ∀ j, j < m → w.cell? ⟨y, oy + j, none⟩ = some (ys.getD j undef)) (h1 : ∀ u ∈ ys, u.oneCell' = true)
    (hl : xs.length + m ≤ 100000) (hB : base ≤ w.heap.size) :
    ∃ v' w', (Builtin.append_ #[t, t] ty #[v, .slice A m c]).run Try.prog w = .ok v' w' ∧ OwnV w' base e v' (xs ++ ys) ∧ w.grownBy w' v.ownBlock := by
  obtain ⟨i0, hi0, hz0, hz1, hz2⟩ := info_parts hi
  subst hm
  rcases A with _ | ad
  · have hl' : ys = [] := by
      rcases Nat.eq_zero_or_pos ys.length with h0 | h0
      · exact List.eq_nil_of_length_eq_zero h0
      · obtain ⟨b, o, h, _⟩ := hr h0
        cases h
    subst hl'
    have hc0 := hc rfl
    subst hc0
    exact ⟨v, w, run_append_owned_none (P := Try.prog) (w := w) base t ty e i0 1 ht hi0 v xs.length xs hown, by simpa using hown, World.grownBy.refl _ _⟩
  · obtain ⟨v', w', h2, h3, h4, _, _⟩ := run_append_own_at (P := Try.prog) w base t ty e i0 z 1 bytes ht hi0 hz0 hz1 hz2 hzs (by decide) v xs.length xs hown ad ys.length c ys (by simp) (fun j u hu => by
      have hj : j < ys.length := (List.getElem?_eq_some_iff.1 hu).1
      obtain ⟨b, o, h, hcell⟩ := hr (by omega)
      injection h with h
      subst h
      rw [Addr.add_mid, hcell j hj, ← hu]
      simp [List.getD, List.getElem?_eq_getElem hj]) h1 (by unfold maxLen; omega) (by
        have : (xs.length + ys.length) * bytes ≤ 100000 * 1000 := Nat.mul_le_mul hl hby
        omega) hB
    exact ⟨v', w', h2, by unfold OwnV; simpa using h3, h4⟩

theorem wp_append_vals {w : World} {o : Oper} {a : Act} {K : Act → World → Prop} {Q : Exit → Act → World → Prop} (s x : Operand) {t : TypeId} (ho : o.op = .call { callee := .builtin .append, args := #[s, x], argTypes := #[t, t] })
    {base : Nat} {e : TypeId} {z : Value} {bytes : Nat} (ht : Try.prog.underlying t = some (.slice e)) (hi : (Try.prog.info? e).map (fun i => (i.zero, i.size, i.bytes)) = some (some z, 1, bytes)) (hzs : z.cells.size = 1) (hby : bytes ≤ 1000)
    {v : Value} {xs : List Value} (hs : a.eval s = v) (hown : OwnV w base e v xs) {A : Option Addr} {m c : Nat} {ys : List Value} (hx : a.eval x = .slice A m c) (hc : A = none → c = 0) (hm : ys.length = m)
    (hr : 0 < m → ∃ y oy, A = some ⟨y, oy, none⟩ ∧ ∀ j, j < m → w.cell? ⟨y, oy + j, none⟩ = some (ys.getD j undef)) (h1 : ∀ u ∈ ys, u.oneCell' = true)
    (hl : xs.length + m ≤ 100000) (hB : base ≤ w.heap.size)
    (h : ∀ v' w', OwnV w' base e v' (xs ++ ys) → w.grownBy w' v.ownBlock → K (a.put o.dst v') w') : o.wp Try.prog a w K Q := by
  obtain ⟨v', w', hrun, h2, h3⟩ := run_append_vals (ty := o.type) ht hi hzs hby hown hc hm hr h1 hl hB
  unfold Oper.wp execOp
  simp only [ho, resolve, invoke, builtin, Sem.run_bind, Sem.run_pure, Result.andThen_ok, List.map_toArray, List.map_cons, List.map_nil, hs, hx, hrun]
  exact h v' w' h2 h3
theorem wpList_append_vals {w : World} {ops : Array Oper} {rest : List Oper} {o : Oper} {a : Act} {Q : Exit → Act → World → Prop} (hgd : o.guard = none) (s x : Operand) {t : TypeId} (ho : o.op = .call { callee := .builtin .append, args := #[s, x], argTypes := #[t, t] })
    {base : Nat} {e : TypeId} {z : Value} {bytes : Nat} (ht : Try.prog.underlying t = some (.slice e)) (hi : (Try.prog.info? e).map (fun i => (i.zero, i.size, i.bytes)) = some (some z, 1, bytes)) (hzs : z.cells.size = 1) (hby : bytes ≤ 1000)
    {v : Value} {xs : List Value} (hs : a.eval s = v) (hown : OwnV w base e v xs) {A : Option Addr} {m c : Nat} {ys : List Value} (hx : a.eval x = .slice A m c) (hc : A = none → c = 0) (hm : ys.length = m)
    (hr : 0 < m → ∃ y oy, A = some ⟨y, oy, none⟩ ∧ ∀ j, j < m → w.cell? ⟨y, oy + j, none⟩ = some (ys.getD j undef)) (h1 : ∀ u ∈ ys, u.oneCell' = true)
    (hl : xs.length + m ≤ 100000) (hB : base ≤ w.heap.size)
    (h : ∀ v' w', OwnV w' base e v' (xs ++ ys) → w.grownBy w' v.ownBlock → wpList Try.prog ops Q rest (a.put o.dst v') w') : wpList Try.prog ops Q (o :: rest) a w :=
  wpList_plain hgd fun _ hK => wp_append_vals s x ho ht hi hzs hby hs hown hx hc hm hr h1 hl hB fun v' w' h2 h3 => hK _ _ (h v' w' h2 h3)
theorem step_append_vals {w : World} {ops : Array Oper} {o : Oper} {a : Act} {K : Act → World → Prop} {Q : Exit → Act → World → Prop} {E : Prop} (hgd : o.guard = none) (s x : Operand) {t : TypeId} (ho : o.op = .call { callee := .builtin .append, args := #[s, x], argTypes := #[t, t] })
    {base : Nat} {e : TypeId} {z : Value} {bytes : Nat} (ht : Try.prog.underlying t = some (.slice e)) (hi : (Try.prog.info? e).map (fun i => (i.zero, i.size, i.bytes)) = some (some z, 1, bytes)) (hzs : z.cells.size = 1) (hby : bytes ≤ 1000)
    {v : Value} {xs : List Value} (hs : a.eval s = v) (hown : OwnV w base e v xs) {A : Option Addr} {m c : Nat} {ys : List Value} (hx : a.eval x = .slice A m c) (hc : A = none → c = 0) (hm : ys.length = m)
    (hr : 0 < m → ∃ y oy, A = some ⟨y, oy, none⟩ ∧ ∀ j, j < m → w.cell? ⟨y, oy + j, none⟩ = some (ys.getD j undef)) (h1 : ∀ u ∈ ys, u.oneCell' = true)
    (hl : xs.length + m ≤ 100000) (hB : base ≤ w.heap.size)
    (h : ∀ v' w', OwnV w' base e v' (xs ++ ys) → w.grownBy w' v.ownBlock → K (a.put o.dst v') w') : if Region.wanted o (yielded ops a.tmps) = true then Oper.wp Try.prog o a w K Q else E := by
  have hw : Region.wanted o (yielded ops a.tmps) = true := by simp [Region.wanted, hgd]
  rw [if_pos hw]
  exact wp_append_vals s x ho ht hi hzs hby hs hown hx hc hm hr h1 hl hB h
end Go.Proofs.Ytpcmfgkbfamdoaa
