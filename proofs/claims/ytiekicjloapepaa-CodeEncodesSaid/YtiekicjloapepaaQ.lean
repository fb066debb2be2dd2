/- A part of the proof of a law of roundel: contracts of functions and lemmas, each true as it stands; no condition beyond those that its theorems state. -/
import Derived.Test.YtiekicjloapepaaN
import Derived.Laws.AppendOwnNone
namespace Go.Proofs.Ytiekicjloapepaa
set_option linter.unusedSimpArgs false
set_option linter.unusedVariables false
open Go.RowKit

/-- append(out, x...) onto a row of the call's own, from whatever slice of bytes. -/
theorem wpList_append_rd {w : World} {ops : Array Oper} {rest : List Oper} {o : Oper} {a : Act} {Q : Exit → Act → World → Prop} (hgd : o.guard = none) (s x : Operand)
    (ho : o.op = .call { callee := .builtin .append, args := #[s, x], argTypes := #[27, 27] })
    (B : Nat) (v : Value) (l : List Int) (hs : a.eval s = v) (hown : OwnB w B v l)
    (A : Option Addr) (m c : Nat) (l' : List Int) (hx : a.eval x = .slice A m c) (hc : A = none → c = 0) (hr : Rd w A m l')
    (hl : l.length + m ≤ 100000) (hB : B ≤ w.heap.size)
    (h : ∀ v' w', OwnB w' B v' (l ++ l') → Below B w w' → wpList Try.prog ops Q rest (a.put o.dst v') w') : wpList Try.prog ops Q (o :: rest) a w := by
  obtain ⟨i0, hi0, hz0, hz1, hz2⟩ := info_parts info5
  have hm := hr.1
  subst hm
  rcases A with _ | ad
  · have hl' : l' = [] := by
      rcases Nat.eq_zero_or_pos l'.length with h0 | h0
      · exact List.eq_nil_of_length_eq_zero h0
      · obtain ⟨b, o, h, _⟩ := hr.2.2 h0
        cases h
    subst hl'
    have hc0 := hc rfl
    subst hc0
    refine wpList_append_own_none hgd s x 27 ho B 5 i0 1 Try.underlying27 hi0 v l.length (l.map (Value.int .u8)) hs hown hx ?_
    exact h v w (by simpa using hown) (Below.refl _ _)
  · refine wpList_append_own_at _ hgd s x 27 ho B 5 i0 (.int .u8 0) 1 1 Try.underlying27 hi0 hz0 hz1 hz2 rfl (by decide) v l.length (l.map (Value.int .u8)) hs hown ad l'.length c (l'.map (Value.int .u8)) hx (by simp) ?_ ?_ (by unfold maxLen; omega) (by omega) hB ?_
    · intro j u hu
      have hj : j < l'.length := by
        have := (List.getElem?_eq_some_iff.1 hu).1
        simpa using this
      obtain ⟨b, o, h, _, hcell⟩ := hr.2.2 (by omega)
      injection h with h
      subst h
      rw [Addr.add_mid, hcell j hj, ← hu]
      simp [List.getD, List.getElem?_eq_getElem hj]
    · intro u hu
      obtain ⟨x, _, rfl⟩ := List.mem_map.1 hu
      rfl
    · intro v' w' hown1 hg _ hat
      refine h v' w' ?_ ((Below.refl _ _).grown hg hB (fun k hk => (World.ownsRow.lt hown k hk).1))
      unfold OwnB
      simpa using hown1

theorem beNum_cons (x : Int) (l : List Int) : beNum (x :: l) = x * 256 ^ l.length + beNum l := by
  have key : ∀ (l : List Int) (a : Int), l.foldl (fun n x => n * 256 + x) a = a * 256 ^ l.length + beNum l := by
    intro l
    induction l with
    | nil => intro a; simp [beNum]
    | cons y l ih =>
      intro a
      simp only [List.foldl_cons, List.length_cons]
      rw [ih, show beNum (y :: l) = List.foldl (fun n x => n * 256 + x) (0 * 256 + y) l from rfl, ih, Int.pow_succ]
      simp [Int.add_mul, Int.mul_assoc, Int.mul_comm, Int.add_assoc]
  have := key l x
  rw [show beNum (x :: l) = List.foldl (fun n x => n * 256 + x) (0 * 256 + x) l from rfl]
  simpa using this

theorem beL_beNum : ∀ (l : List Int), (∀ x ∈ l, 0 ≤ x ∧ x ≤ 255) → beL l.length (beNum l).toNat = l
  | [], _ => rfl
  | x :: l, h => by
    have hx := h x (by simp)
    have hl : ∀ y ∈ l, 0 ≤ y ∧ y ≤ 255 := fun y hy => h y (by simp [hy])
    have ih := beL_beNum l hl
    have hb := beNum_bound l.length l rfl hl
    obtain ⟨a, rfl⟩ := Int.eq_ofNat_of_zero_le hx.1
    obtain ⟨b, hb'⟩ := Int.eq_ofNat_of_zero_le hb.1
    have hlt : b < 256 ^ l.length := by
      have := hb.2
      rw [hb', show (256 : Int) = ((256 : Nat) : Int) from rfl, ← Int.natCast_pow] at this
      exact Int.ofNat_lt.1 this
    have e : (beNum ((a : Int) :: l)).toNat = a * 256 ^ l.length + b := by
      rw [beNum_cons, hb', show (256 : Int) = ((256 : Nat) : Int) from rfl, ← Int.natCast_pow, ← Int.natCast_mul, ← Int.natCast_add, Int.toNat_natCast]
    rw [hb', Int.toNat_natCast] at ih
    simp only [List.length_cons, beL, e]
    have hpos : 0 < 256 ^ l.length := Nat.pow_pos (by omega)
    have e1 : (a * 256 ^ l.length + b) / 256 ^ l.length % 256 = a := by
      rw [Nat.mul_comm, Nat.mul_add_div hpos, Nat.div_eq_of_lt hlt, Nat.add_zero, Nat.mod_eq_of_lt (by omega)]
    have e2 : beL l.length (a * 256 ^ l.length + b) = beL l.length b := by
      have key : ∀ (k N c : Nat), beL k (c * 256 ^ k + N) = beL k N := by
        intro k
        induction k with
        | zero => intro N c; rfl
        | succ k ihk =>
          intro N c
          simp only [beL]
          have hp : 0 < 256 ^ k := Nat.pow_pos (by omega)
          have q : c * 256 ^ (k + 1) + N = (c * 256) * 256 ^ k + N := by rw [Nat.pow_succ, Nat.mul_assoc, Nat.mul_comm 256 (256 ^ k)]
          rw [q, ihk, Nat.mul_comm (c * 256), Nat.mul_add_div hp, Nat.mul_comm c, Nat.mul_add_mod]
      exact key _ _ _
    rw [e1, e2, ih]

theorem dec_good {op : Nat} {l : List Int} {n : Nat} (hop : isOp op = true) (hl : l.length = n) (hb : ∀ x ∈ l, 0 ≤ x ∧ x ≤ 255) (hs : 1 + wa op + wb op + wm op ≤ n) (h0 : l.getD 0 0 = (op : Int)) :
    goodB op (fA op l) (fB op l) (fM op l) = true ∧ encL op (fA op l) (fB op l) (fM op l) = l.take (1 + wa op + wb op + wm op).toNat ∧ 0 ≤ fM op l ∧ fM op l < 18446744073709551616 := by
  have ha := wa_in op
  have hb' := wb_in op
  have hm := wm_in op
  obtain ⟨na, ea⟩ : ∃ na : Nat, wa op = na := ⟨(wa op).toNat, by omega⟩
  obtain ⟨nb, eb⟩ : ∃ nb : Nat, wb op = nb := ⟨(wb op).toNat, by omega⟩
  obtain ⟨nm, em⟩ : ∃ nm : Nat, wm op = nm := ⟨(wm op).toNat, by omega⟩
  obtain ⟨x, t, rfl⟩ : ∃ x t, l = x :: t := by
    cases l with
    | nil => simp at hl; omega
    | cons x t => exact ⟨x, t, rfl⟩
  have hx : x = op := by simpa [List.getD] using h0
  have htl : t.length = n - 1 := by simp at hl; omega
  have ht : ∀ y ∈ t, 0 ≤ y ∧ y ≤ 255 := fun y hy => hb y (by simp [hy])
  have lA : (t.take na).length = na := by rw [List.length_take]; omega
  have lB : ((t.drop na).take nb).length = nb := by rw [List.length_take, List.length_drop]; omega
  have lM : (((t.drop na).drop nb).take nm).length = nm := by rw [List.length_take, List.length_drop, List.length_drop]; omega
  have hA : ∀ y ∈ t.take na, 0 ≤ y ∧ y ≤ 255 := fun y hy => ht y (List.mem_of_mem_take hy)
  have hB : ∀ y ∈ (t.drop na).take nb, 0 ≤ y ∧ y ≤ 255 := fun y hy => ht y (List.mem_of_mem_drop (List.mem_of_mem_take hy))
  have hM : ∀ y ∈ ((t.drop na).drop nb).take nm, 0 ≤ y ∧ y ≤ 255 := fun y hy => ht y (List.mem_of_mem_drop (List.mem_of_mem_drop (List.mem_of_mem_take hy)))
  have bA := beNum_bound na _ lA hA
  have bB := beNum_bound nb _ lB hB
  have bM := beNum_bound nm _ lM hM
  have fa : fA op (x :: t) = beNum (t.take na) := by simp [fA, ea]
  have fb : fB op (x :: t) = beNum ((t.drop na).take nb) := by simp [fB, ea, eb]
  have fm : fM op (x :: t) = beNum (((t.drop na).drop nb).take nm) := by simp [fM, ea, eb, em]
  rw [fa, fb, fm]
  have g1 : fitsB (beNum (t.take na)) (wa op) = true := by simp [fitsB, ea, bA]
  have g2 : fitsB (beNum ((t.drop na).take nb)) (wb op) = true := by simp [fitsB, eb, bB]
  have m8 : nm = 0 ∨ nm = 8 := by omega
  refine ⟨?_, ?_, bM.1, ?_⟩
  · simp only [goodB, hop, g1, g2, Bool.true_and, Bool.or_eq_true, decide_eq_true_eq]
    rcases m8 with e | e
    · right
      subst e
      simp [beNum]
    · left
      omega
  · simp only [encL, ea, eb, em, Int.toNat_natCast]
    have q1 := beL_beNum _ hA
    have q2 := beL_beNum _ hB
    have q3 := beL_beNum _ hM
    rw [lA] at q1
    rw [lB] at q2
    rw [lM] at q3
    rw [q1, q2, q3, show (1 + (na : Int) + (nb : Int) + (nm : Int)).toNat = 1 + (na + (nb + nm)) by omega, hx, Nat.add_comm 1, List.take_succ_cons, List.take_add, List.take_add]
    simp
  · rcases m8 with e | e
    · subst e
      simp [beNum]
    · subst e
      simpa using bM.2
end Go.Proofs.Ytiekicjloapepaa
