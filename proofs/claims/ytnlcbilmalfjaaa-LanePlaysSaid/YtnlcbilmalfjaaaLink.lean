/- A part of the proof of a law of roundel: contracts of functions and lemmas, each true as it stands; no condition beyond those that its theorems state. -/
import Derived.Test.YtnlcbilmalfjaaaL
namespace Go.Proofs.Ytnlcbilmalfjaaa
set_option linter.unusedSimpArgs false
set_option linter.unusedVariables false

/-- What stands about each node, and how many each list has. -/
structure G where
  lst : Nat → Int
  nx : Nat → Nat
  pv : Nat → Nat
  many : Nat → Int

def upd {α : Type} (f : Nat → α) (k : Nat) (v : α) : Nat → α := fun i => if i = k then v else f i
theorem upd_same {α : Type} (f : Nat → α) (k : Nat) (v : α) : upd f k v k = v := by simp [upd]
theorem upd_other {α : Type} (f : Nat → α) {k i : Nat} (v : α) (h : i ≠ k) : upd f k v i = f i := by simp [upd, h]

def seg (g : G) : Nat → List Nat → Prop
  | _, [] => True
  | a, x :: r => g.nx a = x ∧ g.pv x = a ∧ seg g x r
def lastOf : Nat → List Nat → Nat
  | a, [] => a
  | _, x :: r => lastOf x r
def headOf (e : Nat) : List Nat → Nat
  | [] => e
  | x :: _ => x
/-- From a by way of r to e. -/
def chain (g : G) : Nat → List Nat → Nat → Prop
  | a, [], e => g.nx a = e ∧ g.pv e = a
  | a, x :: r, e => g.nx a = x ∧ g.pv x = a ∧ chain g x r e

theorem lastOf_append (a : Nat) (p q : List Nat) : lastOf a (p ++ q) = lastOf (lastOf a p) q := by
  induction p generalizing a with
  | nil => rfl
  | cons x p ih => exact ih x
theorem lastOf_mem (a : Nat) (p : List Nat) : lastOf a p ∈ a :: p := by
  induction p generalizing a with
  | nil => simp [lastOf]
  | cons x p ih => exact List.mem_cons_of_mem _ (ih x)
theorem chain_append (g : G) (a : Nat) (p q : List Nat) (e : Nat) : chain g a (p ++ q) e ↔ seg g a p ∧ chain g (lastOf a p) q e := by
  induction p generalizing a with
  | nil => simp [seg, lastOf]
  | cons x p ih => simp only [List.cons_append, chain, seg, lastOf, ih, and_assoc]
theorem chain_last {g : G} {a e : Nat} {r : List Nat} (h : chain g a r e) : g.pv e = lastOf a r := by
  induction r generalizing a with
  | nil => exact h.2
  | cons x r ih => exact ih h.2.2
theorem chain_head {g : G} {a e : Nat} {r : List Nat} (h : chain g a r e) : g.nx a = headOf e r := by
  cases r with
  | nil => exact h.1
  | cons x r => exact h.1

theorem seg_kept {g g' : G} {a : Nat} {p : List Nat} (h : seg g a p) (h1 : ∀ x, x ∈ a :: p → x ≠ lastOf a p → g'.nx x = g.nx x) (h2 : ∀ x, x ∈ p → g'.pv x = g.pv x) (hn : (a :: p).Nodup) : seg g' a p := by
  induction p generalizing a with
  | nil => trivial
  | cons x p ih =>
    have hax : a ≠ lastOf a (x :: p) := by
      intro e
      have := lastOf_mem x p
      simp only [lastOf] at e
      rw [← e] at this
      exact (List.nodup_cons.1 hn).1 this
    refine ⟨(h1 a (by simp) hax).trans h.1, (h2 x (by simp)).trans h.2.1, ih h.2.2 (fun y hy hne => h1 y (List.mem_cons_of_mem _ hy) hne) (fun y hy => h2 y (List.mem_cons_of_mem _ hy)) (List.nodup_cons.1 hn).2⟩
theorem chain_kept {g g' : G} {a e : Nat} {r : List Nat} (h : chain g a r e) (h1 : ∀ x, x ∈ a :: r → g'.nx x = g.nx x) (h2 : ∀ x, x ∈ r → g'.pv x = g.pv x) (h3 : g'.pv e = g.pv e) : chain g' a r e := by
  induction r generalizing a with
  | nil => exact ⟨(h1 a (by simp)).trans h.1, h3.trans h.2⟩
  | cons x r ih => exact ⟨(h1 a (by simp)).trans h.1, (h2 x (by simp)).trans h.2.1, ih h.2.2 (fun y hy => h1 y (List.mem_cons_of_mem _ hy)) (fun y hy => h2 y (List.mem_cons_of_mem _ hy))⟩

def putG (g : G) (at_ node l : Nat) : G :=
  { lst := upd g.lst node (g.lst at_), nx := upd (upd g.nx node (g.nx at_)) at_ node, pv := upd (upd g.pv node at_) (g.nx at_) node, many := upd g.many l (g.many l + 1) }
def dropG (g : G) (x l : Nat) : G :=
  { lst := upd g.lst x (-1), nx := upd (upd g.nx (g.pv x) (g.nx x)) x x, pv := upd (upd g.pv (g.nx x) (g.pv x)) x x, many := upd g.many l (g.many l - 1) }

/-- A node put behind what p ends with. -/
theorem chain_put {g : G} {a : Nat} {p q : List Nat} {node l : Nat} (h : chain g a (p ++ q) a) (hn : (a :: (p ++ q)).Nodup) (hx : node ∉ a :: (p ++ q)) : chain (putG g (lastOf a p) node l) a (p ++ node :: q) a := by
  rw [chain_append] at h ⊢
  obtain ⟨h1, h2⟩ := h
  have hlm := lastOf_mem a p
  have hnl : node ≠ lastOf a p := fun e => by
    rw [← e] at hlm
    simp only [List.mem_cons, List.mem_append, not_or] at hx hlm
    rcases hlm with h | h
    · exact hx.1 h
    · exact hx.2.1 h
  have hnp : (a :: p).Nodup := by
    rw [← List.cons_append] at hn
    exact (List.nodup_append.1 hn).1
  have hdis : ∀ x ∈ a :: p, ∀ y ∈ q, x ≠ y := by
    rw [← List.cons_append] at hn
    exact (List.nodup_append.1 hn).2.2
  have hnq : node ∉ q := fun h => hx (by simp [h])
  have hna : node ≠ a := fun h => hx (by simp [h])
  have hnpp : node ∉ p := fun h => hx (by simp [h])
  have hap : a ∉ p := (List.nodup_cons.1 hnp).1
  have haq : ∀ y ∈ q, a ≠ y := hdis a (by simp)
  have hnext : g.nx (lastOf a p) = headOf a q := chain_head h2
  have hnn : node ≠ headOf a q := by
    cases q with
    | nil => exact hna
    | cons y q => exact fun e => hnq (by simp [headOf] at e; simp [e])
  refine ⟨seg_kept h1 (fun x hm hne => ?_) (fun x hm => ?_) hnp, ?_, ?_, ?_⟩
  · have hxn : x ≠ node := fun e => (List.mem_cons.1 (e ▸ hm)).elim hna hnpp
    simp only [putG]
    rw [upd_other _ _ hne, upd_other _ _ hxn]
  · have hxn : x ≠ node := fun e => hnpp (e ▸ hm)
    have hxh : x ≠ headOf a q := by
      cases q with
      | nil => exact fun e => hap (by simp only [headOf] at e; exact e ▸ hm)
      | cons y q => exact hdis x (List.mem_cons_of_mem _ hm) y (by simp)
    simp only [putG]
    rw [hnext, upd_other _ _ hxh, upd_other _ _ hxn]
  · simp only [putG]
    rw [upd_same]
  · simp only [putG]
    rw [hnext, upd_other _ _ hnn, upd_same]
  · cases q with
    | nil =>
      simp only [headOf] at hnext
      refine ⟨?_, ?_⟩
      · simp only [putG]
        rw [upd_other _ _ hnl, upd_same, hnext]
      · simp only [putG]
        rw [hnext, upd_same]
    | cons y q =>
      simp only [headOf] at hnext
      obtain ⟨k1, k2, k3⟩ := h2
      have hqn : (y :: q).Nodup := by
        rw [← List.cons_append] at hn
        exact (List.nodup_append.1 hn).2.1
      refine ⟨?_, ?_, chain_kept k3 (fun x hm => ?_) (fun x hm => ?_) ?_⟩
      · simp only [putG]
        rw [upd_other _ _ hnl, upd_same, hnext]
      · simp only [putG]
        rw [hnext, upd_same]
      · have hxn : x ≠ node := fun e => hnq (e ▸ hm)
        have hxl : x ≠ lastOf a p := fun e => hdis _ hlm x hm e.symm
        simp only [putG]
        rw [upd_other _ _ hxl, upd_other _ _ hxn]
      · have hxn : x ≠ node := fun e => hnq (by rw [← e]; exact List.mem_cons_of_mem _ hm)
        have hxy : x ≠ y := fun e => (List.nodup_cons.1 hqn).1 (e ▸ hm)
        simp only [putG]
        rw [hnext, upd_other _ _ hxy, upd_other _ _ hxn]
      · simp only [putG]
        rw [hnext, upd_other _ _ (haq y (by simp)), upd_other _ _ (Ne.symm hna)]

/-- A node taken out. -/
theorem chain_drop {g : G} {a : Nat} {p q : List Nat} {x l : Nat} (h : chain g a (p ++ x :: q) a) (hn : (a :: (p ++ x :: q)).Nodup) : chain (dropG g x l) a (p ++ q) a := by
  rw [chain_append] at h ⊢
  obtain ⟨h1, hnx, hpv, h2⟩ := h
  have hlm := lastOf_mem a p
  have hn' : ((a :: p) ++ (x :: q)).Nodup := by simpa using hn
  obtain ⟨hnp, hnq, hdis⟩ := List.nodup_append.1 hn'
  have hap : a ∉ p := (List.nodup_cons.1 hnp).1
  have hxq : x ∉ q := (List.nodup_cons.1 hnq).1
  have hxl : lastOf a p ≠ x := hdis _ hlm x (by simp)
  have hax : a ≠ x := hdis a (by simp) x (by simp)
  have hnext : g.nx x = headOf a q := chain_head h2
  have hhx : headOf a q ≠ x := by
    cases q with
    | nil => exact hax
    | cons y q => exact fun e => hxq (by simp [headOf] at e; simp [e])
  refine ⟨seg_kept h1 (fun y hm hne => ?_) (fun y hm => ?_) hnp, ?_⟩
  · have hyx : y ≠ x := hdis y hm x (by simp)
    simp only [dropG]
    rw [hpv, upd_other _ _ hyx, upd_other _ _ hne]
  · have hyx : y ≠ x := hdis y (List.mem_cons_of_mem _ hm) x (by simp)
    have hyh : y ≠ headOf a q := by
      cases q with
      | nil => exact fun e => hap (by simp only [headOf] at e; exact e ▸ hm)
      | cons z q => exact hdis y (List.mem_cons_of_mem _ hm) z (by simp [headOf])
    simp only [dropG]
    rw [hnext, upd_other _ _ hyx, upd_other _ _ hyh]
  · cases q with
    | nil =>
      simp only [headOf] at hnext
      refine ⟨?_, ?_⟩
      · simp only [dropG]
        rw [hpv, upd_other _ _ hxl, upd_same, hnext]
      · simp only [dropG]
        rw [hnext, upd_other _ _ hax, upd_same, hpv]
    | cons y q =>
      simp only [headOf] at hnext
      obtain ⟨k1, k2, k3⟩ := h2
      have hqn := (List.nodup_cons.1 hnq).2
      have hyx : y ≠ x := fun e => hxq (by simp [e])
      refine ⟨?_, ?_, chain_kept k3 (fun z hm => ?_) (fun z hm => ?_) ?_⟩
      · simp only [dropG]
        rw [hpv, upd_other _ _ hxl, upd_same, hnext]
      · simp only [dropG]
        rw [hnext, upd_other _ _ hyx, upd_same, hpv]
      · have hzx : z ≠ x := fun e => hxq (e ▸ hm)
        have hzl : z ≠ lastOf a p := fun e => hdis _ hlm z (List.mem_cons_of_mem _ hm) e.symm
        simp only [dropG]
        rw [hpv, upd_other _ _ hzx, upd_other _ _ hzl]
      · have hzx : z ≠ x := fun e => hxq (by rw [← e]; exact List.mem_cons_of_mem _ hm)
        have hzy : z ≠ y := fun e => (List.nodup_cons.1 hqn).1 (e ▸ hm)
        simp only [dropG]
        rw [hnext, upd_other _ _ hzx, upd_other _ _ hzy]
      · have hay : a ≠ y := hdis a (by simp) y (by simp)
        simp only [dropG]
        rw [hnext, upd_other _ _ hax, upd_other _ _ hay]
end Go.Proofs.Ytnlcbilmalfjaaa
