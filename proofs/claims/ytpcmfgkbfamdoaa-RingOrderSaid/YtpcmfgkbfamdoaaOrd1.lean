/- A part of the proof of a law of roundel: contracts of functions and lemmas, each true as it stands; no condition beyond those that its theorems state. -/
import Derived.Test.YtpcmfgkbfamdoaaIs
import Derived.Deep.RegionLawGrows
namespace Go.Proofs.Ytpcmfgkbfamdoaa
set_option linter.unusedSimpArgs false
set_option linter.unusedVariables false
open Go.RowKit

theorem OwnV.one {W : World} {base g : Nat} {e : TypeId} {x : Value} (hb : base ≤ g) (hg : W.heap[g]? = some (.cells #[x] e (0, 0))) : OwnV W base e (.slice (some ⟨g, 0, none⟩) 1 1) [x] :=
  ⟨rfl, .inr ⟨g, 1, #[x], rfl, hb, hg, Nat.le_refl _, by unfold maxLen; omega, rfl, rfl⟩⟩

/-- The rows of the law: the one the walk fills, behind an empty one. -/
def two (a b : List Nat) : List (List Nat) := [a, b]
theorem two0 (a b : List Nat) : rowAt (two a b) 0 = a := rfl
theorem two1r (a b : List Nat) : rowAt (two a b) 1 = b := rfl
theorem two_flat (a b : List Nat) : (two a b).flatten = a ++ b := by simp [two]

theorem push_new (Wl : List Nat) (i : Nat) (lead : Bool) (h : i < 64) (hn : i ∉ Wl) :
    pushS 64 (two [] Wl) 1 (i : Int) lead = (two [] (if lead then i :: Wl else Wl ++ [i]), 0) := by
  unfold pushS
  rw [if_pos (by simp [two]), if_pos (by omega), if_neg (by rw [two_flat]; simpa using hn)]
  rfl
theorem drop_new {W : World} {B rb lb mb : Nat} {Wl : List Nat} (h : Rr W B rb lb mb 64 2 (two [] Wl)) (k : Nat) (hk : k < Wl.length) :
    dropS 64 (two [] Wl) ((Wl.getD k 0 : Nat) : Int) = (two [] (Wl.take k ++ Wl.drop (k + 1)), 0) ∧ Wl.getD k 0 < 64 ∧ Wl.getD k 0 ∉ Wl.take k ++ Wl.drop (k + 1) := by
  obtain ⟨m1, m2, m3, m4⟩ := h.spot (l := 1) (i := k) (x := Wl.getD k 0) (by omega) (by rw [two1r]; exact hk) (by rw [two1r])
  obtain ⟨x, hx⟩ : ∃ x, x = Wl.getD k 0 := ⟨_, rfl⟩
  have hd := h.nodup.1
  rw [two_flat, List.nil_append] at hd
  have hsp : Wl = Wl.take k ++ x :: Wl.drop (k + 1) := by
    have e : Wl[k] = x := by rw [hx]; simp [List.getD, hk]
    have := List.take_append_drop k Wl
    rw [List.drop_eq_getElem_cons hk, e] at this
    exact this.symm
  rw [← hx] at m1 m2 m3 m4 ⊢
  refine ⟨?_, m4, ?_⟩
  · unfold dropS
    rw [if_pos ⟨by omega, by omega⟩, if_pos (by simpa using m1), Int.toNat_natCast, m2, m3, two1r]
    rfl
  · rw [hsp] at hd
    have h1 := List.nodup_append.1 hd
    have h2 := List.nodup_cons.1 h1.2.1
    intro hm
    rcases List.mem_append.1 hm with h3 | h3
    · exact h1.2.2 x h3 x (by simp) rfl
    · exact h2.1 h3
theorem push_old (Wl : List Nat) (x : Nat) (h : x < 64) (hn : x ∉ Wl) : pushS 64 (two [] Wl) 0 (x : Int) false = (two [x] Wl, 0) := by
  unfold pushS
  rw [if_pos (by simp [two]), if_pos (by omega), if_neg (by rw [two_flat]; simpa using hn)]
  rfl
theorem list_old (Wl : List Nat) (x : Nat) : listS (two [x] Wl) (x : Int) = 0 := by
  unfold listS
  rw [if_pos ⟨by omega, by rw [two_flat]; simp⟩, Int.toNat_natCast]
  simp [listOf, two, List.findIdx_cons]

/-- want[:k:k]. -/
theorem head_run (y gn gc k : Nat) (hk : k ≤ gn) (hgc : gn ≤ gc) : (∀ w, (Instr.slice 41 (.slice (some ⟨y, 0, none⟩) gn gc) none (some (.int .i64 (k : Int))) (some (.int .i64 (k : Int)))).run Try.prog w = .ok (.slice (some ⟨y, 0, none⟩) k k) w) ∧
    (∀ w, (Instr.sliceAt 41 (.slice (some ⟨y, 0, none⟩) gn gc) none (some (.int .i64 (k : Int))) (some (.int .i64 (k : Int)))).run Try.prog w = .ok (.slice (some ⟨y, 0, none⟩) k k) w) := by
  have h1 : ∀ w, (Instr.slice 41 (.slice (some ⟨y, 0, none⟩) gn gc) none (some (.int .i64 (k : Int))) (some (.int .i64 (k : Int)))).run Try.prog w = .ok (.slice (some ⟨y, 0, none⟩) k k) w := by
    intro w
    rw [Go.run_slice_hm (P := Try.prog) w 41 (some ⟨y, 0, none⟩) gn gc Try.underlying41 .i64 .i64 (k : Int) (k : Int) (by omega) (by omega) (by omega)]
    simp [go_sem, sliced, Addr.add]
  refine ⟨h1, fun w => ?_⟩
  rw [run_sliceAt_slice (P := Try.prog) w 41 _ _ _ _ Try.underlying41]
  exact h1 w

/-- append(want[:k:k], want[k+1:]...). -/
theorem cut_run (w : World) (y k m c : Nat) (AX : Option Addr) (pre suf : List Nat) (hp : pre.length = k) (hs : suf.length = m) (hsm : k + m ≤ 100)
    (h1 : ∀ j, j < k → w.cell? ⟨y, j, none⟩ = some (.int .i64 ((pre.getD j 0 : Nat) : Int)))
    (h2 : 0 < m → ∃ z oz, AX = some ⟨z, oz, none⟩ ∧ ∀ j, j < m → w.cell? ⟨z, oz + j, none⟩ = some ((vals suf).getD j undef)) (ty : TypeId) :
    ∃ v' w', (Builtin.append_ #[41, 41] ty #[.slice (some ⟨y, 0, none⟩) k k, .slice AX m c]).run Try.prog w = .ok v' w' ∧ Ext w w' ∧ ∃ A c', v' = .slice A (k + m) c' ∧ RowAt w' (fun x => x = y ∨ w.heap.size ≤ x) A (k + m) c' (pre ++ suf) := by
  obtain ⟨i0, hi, hz0, hz1, hz2⟩ := info_parts (P := Try.prog) (e := 3) (z := .int .i64 0) (size := 1) (bytes := 8) rfl
  by_cases hm : m = 0
  · subst hm
    have hn : suf = [] := List.eq_nil_of_length_eq_zero hs
    subst hn
    have hr : (Builtin.append_ #[41, 41] ty #[.slice (some ⟨y, 0, none⟩) k k, .slice AX 0 c]).run Try.prog w = .ok (.slice (some ⟨y, 0, none⟩) k k) w := by
      rcases AX with _ | ad
      · simp [Builtin.append_, run_underlying Try.underlying41, sizeOf, typeInfo, hi, Builtin.lenOf, Builtin.firstCells, storeCells]
      · have := run_append_room_cells (P := Try.prog) w 41 ty 3 _ Try.underlying41 hi y 0 k k ad 0 c [] (by simp) (by simp) (by simp) (by omega) (by simp) (by simp)
        simpa [World.setCells] using this
    refine ⟨_, _, hr, Ext.refl _, _, k, rfl, ?_⟩
    simp only [Nat.add_zero, List.append_nil]
    refine ⟨hp, Nat.le_refl _, by omega, by simp, fun _ => ⟨y, rfl, .inl rfl, h1⟩⟩
  · obtain ⟨z, oz, rfl, h3⟩ := h2 (by omega)
    obtain ⟨v', w', hr, r1, r2⟩ := run_append_arg_grows (P := Try.prog) w 41 ty 3 i0 (.int .i64 0) 1 8 Try.underlying41 hi hz0 hz1 hz2 rfl (by omega) ⟨y, 0, none⟩ k k (vals pre) (by rw [vals_len, hp]; omega) (fun j u hu => by
        have hj : j < k := by have := (List.getElem?_eq_some_iff.1 hu).1; rwa [vals_len, hp] at this
        have := vals_get pre j (by omega)
        rw [Addr.add_mid, Nat.zero_add, h1 j hj, ← this, ← hu]
        simp [List.getD, hu]) ⟨z, oz, none⟩ m c (vals suf) (by rw [vals_len, hs]; omega) (fun j u hu => by
        have hj : j < m := by have := (List.getElem?_eq_some_iff.1 hu).1; rwa [vals_len, hs] at this
        rw [Addr.add_mid, h3 j hj, ← hu]
        simp [List.getD, hu]) (by omega) (by unfold maxLen; omega) (by omega)
    have ho : OwnV w' w.heap.size 3 v' (vals (pre ++ suf)) := by
      unfold OwnV
      have e : vals (pre ++ suf) = vals pre ++ vals suf := by simp [vals]
      rw [vals_len, List.length_append, hp, hs, e]
      exact r1
    obtain ⟨A, c', hv, hrow⟩ := ho.row (L := fun x => x = y ∨ w.heap.size ≤ x) (fun x hx => .inr hx)
    rw [List.length_append, hp, hs] at hv hrow
    exact ⟨v', w', hr, ⟨r2.os, r2.tape, r2.output, r2.size, fun k hk => r2.block k hk (by simp)⟩, A, c', hv, hrow⟩
theorem tmod_nat (a : Int) (n : Nat) (h0 : 0 ≤ a) (hn : 0 < n) : ∃ k : Nat, a.tmod (n : Int) = (k : Int) ∧ k < n := by
  obtain ⟨m, rfl⟩ := Int.eq_ofNat_of_zero_le h0
  exact ⟨m % n, by rfl, Nat.mod_lt _ hn⟩
theorem wpList_append_run {w w' : World} {ops : Array Oper} {rest : List Oper} {o : Oper} {a : Act} {Q : Exit → Act → World → Prop} (hgd : o.guard = none) (s x : Operand) {t : TypeId} (ho : o.op = .call { callee := .builtin .append, args := #[s, x], argTypes := #[t, t] })
    {v1 v2 v' : Value} (hs : a.eval s = v1) (hx : a.eval x = v2) (hrun : (Builtin.append_ #[t, t] o.type #[v1, v2]).run Try.prog w = .ok v' w') (h : wpList Try.prog ops Q rest (a.put o.dst v') w') : wpList Try.prog ops Q (o :: rest) a w :=
  wpList_plain hgd fun K hK => by
    unfold Oper.wp execOp
    simp only [ho, resolve, invoke, builtin, Sem.run_bind, Sem.run_pure, Result.andThen_ok, List.map_toArray, List.map_cons, List.map_nil, hs, hx, hrun]
    exact hK _ _ h
theorem rowI_1 (a b : List Nat) : rowI (two a b) 1 = b := rowI_in (two a b) 1
theorem rowI_0 (a b : List Nat) : rowI (two a b) 0 = a := rowI_in (two a b) 0
theorem RowAt.rc {W W' : World} {L : Nat → Prop} {lb mb : Nat} {A : Option Addr} {n c : Nat} {r : List Nat} (h : RowAt W L A n c r) (C : Rc lb mb W W') (h1 : ∀ x, L x → x ≠ lb ∧ x ≠ mb) : RowAt W' L A n c r := h.kept fun x hL hx => C.blk x hx (h1 x hL).1 (h1 x hL).2
end Go.Proofs.Ytpcmfgkbfamdoaa
