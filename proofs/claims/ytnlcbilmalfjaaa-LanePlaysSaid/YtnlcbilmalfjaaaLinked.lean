/- A part of the proof of a law of roundel: contracts of functions and lemmas, each true as it stands; no condition beyond those that its theorems state. -/
import Derived.Test.YtnlcbilmalfjaaaLink
namespace Go.Proofs.Ytnlcbilmalfjaaa
set_option linter.unusedSimpArgs false
set_option linter.unusedVariables false

def rowAt (rows : List (List Nat)) (l : Nat) : List Nat := rows.getD l []

structure Linked (N M : Nat) (rows : List (List Nat)) (g : G) : Prop where
  len : rows.length = M
  ring : ∀ l, l < M → chain g (N + l) (rowAt rows l) (N + l)
  lst : ∀ l, l < M → ∀ x ∈ rowAt rows l, g.lst x = (l : Int)
  ends : ∀ l, l < M → g.lst (N + l) = (l : Int)
  many : ∀ l, l < M → g.many l = ((rowAt rows l).length : Int)
  free : ∀ n, n < N → n ∉ rows.flatten → g.lst n = -1
  nodup : rows.flatten.Nodup
  lt : ∀ x ∈ rows.flatten, x < N

theorem rowAt_split (rows : List (List Nat)) (l : Nat) (h : l < rows.length) : rows = rows.take l ++ rowAt rows l :: rows.drop (l + 1) := by
  have e : rowAt rows l = rows[l] := by simp [rowAt, List.getD, h]
  rw [e]
  have := List.take_append_drop l rows
  rw [List.drop_eq_getElem_cons h] at this
  exact this.symm
theorem rowAt_mem {rows : List (List Nat)} {l x : Nat} (h : l < rows.length) (hx : x ∈ rowAt rows l) : x ∈ rows.flatten := by
  rw [rowAt_split rows l h]
  simp [hx]
theorem mem_rowAt {rows : List (List Nat)} {x : Nat} (hx : x ∈ rows.flatten) : ∃ l, l < rows.length ∧ x ∈ rowAt rows l := by
  obtain ⟨r, hr, hxr⟩ := List.mem_flatten.1 hx
  obtain ⟨l, hl, rfl⟩ := List.getElem_of_mem hr
  exact ⟨l, hl, by simpa [rowAt, List.getD, hl] using hxr⟩
theorem rowAt_nodup {rows : List (List Nat)} {l : Nat} (h : l < rows.length) (hn : rows.flatten.Nodup) : (rowAt rows l).Nodup := by
  rw [rowAt_split rows l h] at hn
  simp only [List.flatten_append, List.flatten_cons] at hn
  exact (List.nodup_append.1 (List.nodup_append.1 hn).2.1).1
theorem rowAt_set_same (rows : List (List Nat)) (l : Nat) (r : List Nat) (h : l < rows.length) : rowAt (rows.set l r) l = r := by
  simp [rowAt, List.getD, h]
theorem rowAt_set_other (rows : List (List Nat)) (l l' : Nat) (r : List Nat) (h : l' ≠ l) : rowAt (rows.set l r) l' = rowAt rows l' := by
  simp [rowAt, List.getD, List.getElem?_set_ne (Ne.symm h)]
theorem set_split (rows : List (List Nat)) (l : Nat) (r : List Nat) (h : l < rows.length) : rows.set l r = rows.take l ++ r :: rows.drop (l + 1) := by
  rw [List.set_eq_take_append_cons_drop, if_pos h]
theorem put_perm {rows : List (List Nat)} {l : Nat} (h : l < rows.length) {p q : List Nat} (hr : rowAt rows l = p ++ q) (node : Nat) : (rows.set l (p ++ node :: q)).flatten.Perm (node :: rows.flatten) := by
  rw [set_split rows l _ h]
  conv => rhs; rw [rowAt_split rows l h, hr]
  simp only [List.flatten_append, List.flatten_cons, List.append_assoc, List.cons_append]
  rw [← List.append_assoc, ← List.append_assoc]
  exact List.perm_middle
theorem drop_perm {rows : List (List Nat)} {l : Nat} (h : l < rows.length) {p q : List Nat} {x : Nat} (hr : rowAt rows l = p ++ x :: q) : rows.flatten.Perm (x :: (rows.set l (p ++ q)).flatten) := by
  have z := put_perm (rows := rows.set l (p ++ q)) (l := l) (by simpa using h) (p := p) (q := q) (rowAt_set_same rows l _ h) x
  rw [List.set_set] at z
  have e : rows.set l (p ++ x :: q) = rows := by
    rw [set_split rows l _ h, ← hr]
    exact (rowAt_split rows l h).symm
  rwa [e] at z

section
variable {N M : Nat} {rows : List (List Nat)} {g : G}
theorem Linked.mem (h : Linked N M rows g) {l x : Nat} (hl : l < M) (hx : x ∈ rowAt rows l) : x ∈ rows.flatten := rowAt_mem (by rw [h.len]; exact hl) hx
theorem Linked.rlt (h : Linked N M rows g) {l x : Nat} (hl : l < M) (hx : x ∈ rowAt rows l) : x < N := h.lt x (h.mem hl hx)
theorem Linked.ringL (h : Linked N M rows g) {l x : Nat} (hl : l < M) (hx : x ∈ (N + l) :: rowAt rows l) : g.lst x = (l : Int) := by
  rcases List.mem_cons.1 hx with rfl | hx
  · exact h.ends l hl
  · exact h.lst l hl x hx
theorem Linked.ringLt (h : Linked N M rows g) {l x : Nat} (hl : l < M) (hx : x ∈ (N + l) :: rowAt rows l) : x < N + M := by
  rcases List.mem_cons.1 hx with rfl | hx
  · omega
  · have := h.rlt hl hx
    omega
theorem Linked.apart (h : Linked N M rows g) {l l' x y : Nat} (hl : l < M) (hl' : l' < M) (hne : l' ≠ l) (hx : x ∈ (N + l) :: rowAt rows l) (hy : y ∈ (N + l') :: rowAt rows l') : y ≠ x := by
  intro e
  subst e
  have h1 := h.ringL hl hx
  have h2 := h.ringL hl' hy
  omega
theorem Linked.ringNodup (h : Linked N M rows g) {l : Nat} (hl : l < M) : ((N + l) :: rowAt rows l).Nodup :=
  List.nodup_cons.2 ⟨fun hm => by have := h.rlt hl hm; omega, rowAt_nodup (by rw [h.len]; exact hl) h.nodup⟩
theorem headOf_mem (e : Nat) (p q : List Nat) : headOf e q ∈ e :: (p ++ q) := by
  cases q <;> simp [headOf]
theorem lastOf_mem' (e : Nat) (p q : List Nat) : lastOf e p ∈ e :: (p ++ q) := by
  rcases List.mem_cons.1 (lastOf_mem e p) with h | h
  · rw [h]; simp
  · simp [h]

theorem Linked.put (h : Linked N M rows g) {l node : Nat} {p q : List Nat} (hl : l < M) (hr : rowAt rows l = p ++ q) (hn : node < N) (hf : node ∉ rows.flatten) :
    Linked N M (rows.set l (p ++ node :: q)) (putG g (lastOf (N + l) p) node l) ∧ g.lst (lastOf (N + l) p) = (l : Int) ∧ lastOf (N + l) p < N + M ∧ g.nx (lastOf (N + l) p) < N + M := by
  have hlr : l < rows.length := by rw [h.len]; exact hl
  have hring := h.ring l hl
  have hrn := h.ringNodup hl
  rw [hr] at hring hrn
  have hnx : g.nx (lastOf (N + l) p) = headOf (N + l) q := chain_head ((chain_append g _ p q _).1 hring).2
  have hat : lastOf (N + l) p ∈ (N + l) :: rowAt rows l := by rw [hr]; exact lastOf_mem' _ p q
  have hhd : headOf (N + l) q ∈ (N + l) :: rowAt rows l := by rw [hr]; exact headOf_mem _ p q
  have hnr : ∀ l', l' < M → ∀ y ∈ (N + l') :: rowAt rows l', y ≠ node := fun l' hl' y hy e => by
    subst e
    rcases List.mem_cons.1 hy with e | hy
    · omega
    · exact hf (h.mem hl' hy)
  have hperm := put_perm hlr hr node
  refine ⟨⟨by rw [List.length_set]; exact h.len, fun l' hl' => ?_, fun l' hl' x hx => ?_, fun l' hl' => ?_, fun l' hl' => ?_, fun n hn' hnf => ?_, ?_, fun x hx => ?_⟩, h.ringL hl hat, h.ringLt hl hat, by rw [hnx]; exact h.ringLt hl hhd⟩
  · by_cases e : l' = l
    · subst e
      rw [rowAt_set_same _ _ _ hlr]
      exact chain_put hring hrn (fun hm => hnr l' hl' node (by rw [hr]; exact hm) rfl)
    · rw [rowAt_set_other _ _ _ _ e]
      refine chain_kept (h.ring l' hl') (fun x hx => ?_) (fun x hx => ?_) ?_
      · simp only [putG]
        rw [upd_other _ _ (h.apart hl hl' e hat hx), upd_other _ _ (hnr l' hl' x hx)]
      · simp only [putG]
        rw [hnx, upd_other _ _ (h.apart hl hl' e hhd (List.mem_cons_of_mem _ hx)), upd_other _ _ (hnr l' hl' x (List.mem_cons_of_mem _ hx))]
      · simp only [putG]
        rw [hnx, upd_other _ _ (h.apart hl hl' e hhd (by simp)), upd_other _ _ (hnr l' hl' _ (by simp))]
  · simp only [putG]
    by_cases e : l' = l
    · subst e
      rw [rowAt_set_same _ _ _ hlr] at hx
      by_cases ex : x = node
      · rw [ex, upd_same]
        exact h.ringL hl hat
      · rw [upd_other _ _ ex]
        refine h.lst l' hl x ?_
        rw [hr]
        simp [ex] at hx
        simp [hx]
    · rw [rowAt_set_other _ _ _ _ e] at hx
      rw [upd_other _ _ (hnr l' hl' x (by simp [hx]))]
      exact h.lst l' hl' x hx
  · simp only [putG]
    rw [upd_other _ _ (hnr l' hl' _ (by simp))]
    exact h.ends l' hl'
  · simp only [putG]
    by_cases e : l' = l
    · subst e
      rw [rowAt_set_same _ _ _ hlr, upd_same, h.many l' hl, hr]
      simp
      omega
    · rw [rowAt_set_other _ _ _ _ e, upd_other _ _ e]
      exact h.many l' hl'
  · have hm : n ≠ node ∧ n ∉ rows.flatten := by
      have := hperm.mem_iff (a := n)
      simp only [List.mem_cons] at this
      rw [this] at hnf
      exact not_or.1 hnf
    simp only [putG]
    rw [upd_other _ _ hm.1]
    exact h.free n hn' hm.2
  · exact hperm.nodup_iff.2 (List.nodup_cons.2 ⟨hf, h.nodup⟩)
  · have := (hperm.mem_iff (a := x)).1 hx
    rcases List.mem_cons.1 this with rfl | hx
    · exact hn
    · exact h.lt x hx

theorem Linked.drop (h : Linked N M rows g) {l x : Nat} {p q : List Nat} (hl : l < M) (hr : rowAt rows l = p ++ x :: q) :
    Linked N M (rows.set l (p ++ q)) (dropG g x l) ∧ g.lst x = (l : Int) ∧ x < N ∧ g.nx x = headOf (N + l) q ∧ g.pv x = lastOf (N + l) p ∧ g.nx x < N + M ∧ g.pv x < N + M ∧ 0 < g.many l := by
  have hlr : l < rows.length := by rw [h.len]; exact hl
  have hring := h.ring l hl
  have hrn := h.ringNodup hl
  rw [hr] at hring hrn
  obtain ⟨-, -, hpv, hc⟩ := (chain_append g _ p (x :: q) _).1 hring
  have hnx : g.nx x = headOf (N + l) q := chain_head hc
  have hat : lastOf (N + l) p ∈ (N + l) :: rowAt rows l := by rw [hr]; exact lastOf_mem' _ p _
  have hhd : headOf (N + l) q ∈ (N + l) :: rowAt rows l := by
    rw [hr]
    cases q <;> simp [headOf]
  have hxr : x ∈ rowAt rows l := by rw [hr]; simp
  have hxr' : x ∈ (N + l) :: rowAt rows l := by simp [hxr]
  have hperm := drop_perm hlr hr
  have hnd : x ∉ (rows.set l (p ++ q)).flatten ∧ (rows.set l (p ++ q)).flatten.Nodup := List.nodup_cons.1 (hperm.nodup_iff.1 h.nodup)
  have hmany := h.many l hl
  rw [hr] at hmany
  refine ⟨⟨by rw [List.length_set]; exact h.len, fun l' hl' => ?_, fun l' hl' y hy => ?_, fun l' hl' => ?_, fun l' hl' => ?_, fun n hn' hnf => ?_, hnd.2, fun y hy => ?_⟩, h.lst l hl x hxr, h.rlt hl hxr, hnx, hpv, by rw [hnx]; exact h.ringLt hl hhd, by rw [hpv]; exact h.ringLt hl hat, by rw [hmany]; simp; omega⟩
  · by_cases e : l' = l
    · subst e
      rw [rowAt_set_same _ _ _ hlr]
      exact chain_drop hring hrn
    · rw [rowAt_set_other _ _ _ _ e]
      refine chain_kept (h.ring l' hl') (fun y hy => ?_) (fun y hy => ?_) ?_
      · simp only [dropG]
        rw [hpv, upd_other _ _ (h.apart hl hl' e hxr' hy), upd_other _ _ (h.apart hl hl' e hat hy)]
      · simp only [dropG]
        rw [hnx, upd_other _ _ (h.apart hl hl' e hxr' (List.mem_cons_of_mem _ hy)), upd_other _ _ (h.apart hl hl' e hhd (List.mem_cons_of_mem _ hy))]
      · simp only [dropG]
        rw [hnx, upd_other _ _ (h.apart hl hl' e hxr' (by simp)), upd_other _ _ (h.apart hl hl' e hhd (by simp))]
  · simp only [dropG]
    have hyx : y ≠ x := fun e' => hnd.1 (e' ▸ rowAt_mem (by rw [List.length_set, h.len]; exact hl') hy)
    rw [upd_other _ _ hyx]
    by_cases e : l' = l
    · subst e
      rw [rowAt_set_same _ _ _ hlr] at hy
      refine h.lst l' hl y ?_
      rw [hr]
      rcases List.mem_append.1 hy with hy | hy <;> simp [hy]
    · rw [rowAt_set_other _ _ _ _ e] at hy
      exact h.lst l' hl' y hy
  · simp only [dropG]
    have := h.rlt hl hxr
    rw [upd_other _ _ (by omega)]
    exact h.ends l' hl'
  · simp only [dropG]
    by_cases e : l' = l
    · subst e
      rw [rowAt_set_same _ _ _ hlr, upd_same, hmany]
      simp
      omega
    · rw [rowAt_set_other _ _ _ _ e, upd_other _ _ e]
      exact h.many l' hl'
  · simp only [dropG]
    by_cases e : n = x
    · rw [e, upd_same]
    · rw [upd_other _ _ e]
      refine h.free n hn' (fun hm => ?_)
      rcases List.mem_cons.1 ((hperm.mem_iff (a := n)).1 hm) with e' | hm
      · exact e e'
      · exact hnf hm
  · exact h.lt y ((hperm.mem_iff (a := y)).2 (List.mem_cons_of_mem _ hy))

/-- Lists without nodes. -/
def newG (N M : Nat) : G := { lst := fun i => if i < N then -1 else ((i - N : Nat) : Int), nx := fun i => i, pv := fun i => i, many := fun _ => 0 }
theorem Linked.fresh (N M : Nat) : Linked N M (List.replicate M []) (newG N M) := by
  have hr : ∀ l, rowAt (List.replicate M ([] : List Nat)) l = [] := fun l => by
    simp only [rowAt, List.getD, List.getElem?_replicate]
    split <;> rfl
  have hf : (List.replicate M ([] : List Nat)).flatten = [] := by simp
  refine ⟨by simp, fun l hl => ?_, fun l hl x hx => ?_, fun l hl => ?_, fun l hl => ?_, fun n hn _ => ?_, by rw [hf]; simp, fun x hx => by rw [hf] at hx; cases hx⟩
  · rw [hr]; exact ⟨rfl, rfl⟩
  · rw [hr] at hx; cases hx
  · simp [newG]
  · rw [hr]; rfl
  · simp [newG, hn]

/-! What is read. -/
def told (N x : Nat) : Int := if x < N then (x : Int) else -1
theorem told_no {N x : Nat} (h : ¬ x < N) : told N x = -1 := by unfold told; rw [if_neg h]
def firstI : List Nat → Int
  | [] => -1
  | x :: _ => (x : Int)
def lastI : List Nat → Int
  | [] => -1
  | x :: r => (lastOf x r : Int)
theorem told_head {q : List Nat} {l : Nat} (hq : ∀ x ∈ q, x < N) : told N (headOf (N + l) q) = firstI q := by
  cases q with
  | nil => exact told_no (by simp [headOf])
  | cons x q => simp [headOf, told, firstI, hq x (by simp)]
theorem told_last {p : List Nat} {l : Nat} (hp : ∀ x ∈ p, x < N) : told N (lastOf (N + l) p) = lastI p := by
  cases p with
  | nil => exact told_no (by simp [lastOf])
  | cons x p =>
    have := hp _ (lastOf_mem x p)
    simp [lastOf, told, lastI, this]
theorem Linked.first (h : Linked N M rows g) {l : Nat} (hl : l < M) : told N (g.nx (N + l)) = firstI (rowAt rows l) ∧ g.nx (N + l) < N + M := by
  have e := chain_head (h.ring l hl)
  refine ⟨by rw [e]; exact told_head (fun x hx => h.rlt hl hx), ?_⟩
  rw [e]
  exact h.ringLt hl (headOf_mem _ [] _)
theorem Linked.last (h : Linked N M rows g) {l : Nat} (hl : l < M) : g.pv (N + l) = lastOf (N + l) (rowAt rows l) ∧ told N (g.pv (N + l)) = lastI (rowAt rows l) ∧ g.pv (N + l) < N + M := by
  have e := chain_last (h.ring l hl)
  refine ⟨e, by rw [e]; exact told_last (fun x hx => h.rlt hl hx), ?_⟩
  rw [e]
  refine h.ringLt hl ?_
  have := lastOf_mem' (N + l) (rowAt rows l) []
  simpa using this
theorem Linked.next (h : Linked N M rows g) {l x : Nat} {p q : List Nat} (hl : l < M) (hr : rowAt rows l = p ++ x :: q) : told N (g.nx x) = firstI q ∧ told N (g.pv x) = lastI p := by
  obtain ⟨-, -, -, h1, h2, -⟩ := h.drop hl hr
  refine ⟨by rw [h1]; exact told_head (fun y hy => h.rlt hl (by rw [hr]; simp [hy])), by rw [h2]; exact told_last (fun y hy => h.rlt hl (by rw [hr]; simp [hy]))⟩
end
end Go.Proofs.Ytnlcbilmalfjaaa
