/- A part of the proof of a law of roundel: contracts of functions and lemmas, each true as it stands; no condition beyond those that its theorems state. -/
import Derived.Test.YtohgckdkkeiggaaM
import Derived.Laws.AppendOwnNone
namespace Go.Proofs.Ytohgckdkkeiggaa
set_option linter.unusedSimpArgs false
set_option linter.unusedVariables false
open Go.RowKit Go.Maps

/-- A slice of whole numbers that the law itself made, in blocks from base on. -/
def OwnI (W : World) (base : Nat) (v : Value) (l : List Int) : Prop := W.ownsRow base 3 1 v l.length (l.map (Value.int .i64))
theorem info3 : (Try.prog.info? 3).map (fun i => (i.zero, i.size, i.bytes)) = some (some (.int .i64 0), 1, 8) := by kernel_rfl

/-- append(out, x...) onto a row of the law's own, from whatever slice of whole numbers. -/
theorem wpList_append_ints {w : World} {ops : Array Oper} {rest : List Oper} {o : Oper} {a : Act} {Q : Exit → Act → World → Prop} (hgd : o.guard = none) (s x : Operand)
    (ho : o.op = .call { callee := .builtin .append, args := #[s, x], argTypes := #[47, 47] })
    (base : Nat) (v : Value) (l : List Int) (hs : a.eval s = v) (hown : OwnI w base v l)
    (A : Option Addr) (m c : Nat) (l' : List Int) (hx : a.eval x = .slice A m c) (hc : A = none → c = 0) (hm : l'.length = m)
    (hr : 0 < m → ∃ y oy, A = some ⟨y, oy, none⟩ ∧ ∀ j, j < m → w.cell? ⟨y, oy + j, none⟩ = some (.int .i64 (l'.getD j 0)))
    (hl : l.length + m ≤ 100000) (hB : base ≤ w.heap.size)
    (h : ∀ v' w', OwnI w' base v' (l ++ l') → w.grownBy w' v.ownBlock → wpList Try.prog ops Q rest (a.put o.dst v') w') : wpList Try.prog ops Q (o :: rest) a w := by
  obtain ⟨i0, hi0, hz0, hz1, hz2⟩ := info_parts info3
  subst hm
  rcases A with _ | ad
  · have hl' : l' = [] := by
      rcases Nat.eq_zero_or_pos l'.length with h0 | h0
      · exact List.eq_nil_of_length_eq_zero h0
      · obtain ⟨b, o, h, _⟩ := hr h0
        cases h
    subst hl'
    have hc0 := hc rfl
    subst hc0
    refine wpList_append_own_none hgd s x 47 ho base 3 i0 1 Try.underlying47 hi0 v l.length (l.map (Value.int .i64)) hs hown hx ?_
    exact h v w (by simpa using hown) (World.grownBy.refl _ _)
  · refine wpList_append_own_at _ hgd s x 47 ho base 3 i0 (.int .i64 0) 1 8 Try.underlying47 hi0 hz0 hz1 hz2 rfl (by decide) v l.length (l.map (Value.int .i64)) hs hown ad l'.length c (l'.map (Value.int .i64)) hx (by simp) ?_ ?_ (by unfold maxLen; omega) (by omega) hB ?_
    · intro j u hu
      have hj : j < l'.length := by
        have := (List.getElem?_eq_some_iff.1 hu).1
        simpa using this
      obtain ⟨b, o, h, hcell⟩ := hr (by omega)
      injection h with h
      subst h
      rw [Addr.add_mid, hcell j hj, ← hu]
      simp [List.getD, List.getElem?_eq_getElem hj]
    · intro u hu
      obtain ⟨x, _, rfl⟩ := List.mem_map.1 hu
      rfl
    · intro v' w' hown1 hg _ hat
      refine h v' w' ?_ hg
      unfold OwnI
      simpa using hown1
end Go.Proofs.Ytohgckdkkeiggaa
