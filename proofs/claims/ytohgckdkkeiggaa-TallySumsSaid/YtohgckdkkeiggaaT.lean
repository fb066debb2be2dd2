/- A part of the proof of a law of roundel: contracts of functions and lemmas, each true as it stands; no condition beyond those that its theorems state. -/
import Derived.Test.YtohgckdkkeiggaaQ
namespace Go.Proofs.Ytohgckdkkeiggaa
set_option linter.unusedSimpArgs false
set_option linter.unusedVariables false
open Go.RowKit Go.Maps

/-- How a bool reads in a map. -/
def boolElem (v : Value) : Option (DataW Unit × List MemPlace) :=
  match v with
  | .bool b => some (.lit (.bool b), [])
  | _ => none
theorem boolElem_inv {v : Value} {x : Bool} {ps : List MemPlace} (h : boolElem v = some (.lit (.bool x), ps)) : v = .bool x := by
  unfold boolElem at h
  split at h
  · simp at h
    rw [h.1]
  · simp at h
theorem zero4 (w : World) : (zeroValue 4).run Try.prog w = .ok (.bool false) w := by kernel_rfl
theorem makes54 (w : World) : (Instr.makeMap 54 none).run Try.prog w = .ok (.map (some w.heap.size)) (w.alloc (.map #[] 0)) := by simp [Instr.makeMap, go_sem]

/-- A set of whole numbers: a map of the law's own. -/
def BSet (W : World) (mb m : Nat) (P : Int → Bool) : Prop :=
  ∃ D : DataW Unit, W.ownsMap Try.prog 3 boolElem mb m D ∧ ∀ k, I64 k → D.atKey (.int .i64 k) (.lit (.bool false)) = .lit (.bool (P k))

theorem BSet.made (W : World) : BSet (W.alloc (.map #[] 0)) W.heap.size 0 (fun _ => false) :=
  ⟨.map [], World.ownsMap_made W Try.prog 3 boolElem, fun _ _ => rfl⟩
theorem BSet.lt {W : World} {mb m : Nat} {P : Int → Bool} (h : BSet W mb m P) : mb < W.heap.size := h.elim fun _ h => h.1.lt
theorem BSet.kept {W W' : World} {mb m : Nat} {P : Int → Bool} (h : BSet W mb m P) (hb : W'.heap[mb]? = W.heap[mb]?) : BSet W' mb m P := by
  obtain ⟨D, ⟨es, clock, h1, r⟩, h2⟩ := h
  exact ⟨D, ⟨es, clock, hb.trans h1, r⟩, h2⟩
theorem BSet.mono {W : World} {mb m m' : Nat} {P : Int → Bool} (h : BSet W mb m P) (hm : m ≤ m') : BSet W mb m' P :=
  h.elim fun D h => ⟨D, h.1.mono hm, h.2⟩
theorem BSet.look {W : World} {mb m : Nat} {P : Int → Bool} (h : BSet W mb m P) (k : Int) (hk : I64 k) : (Instr.lookup 54 (.map (some mb)) (.int .i64 k) false).run Try.prog W = .ok (.bool (P k)) W := by
  obtain ⟨D, h1, h2⟩ := h
  obtain ⟨v, ps, hr, hv⟩ := h1.lookup law3 Try.underlying54 (zero4 W) (zd := .lit (.bool false)) (zp := []) rfl (key3 hk)
  rw [h2 k hk] at hv
  rw [hr, boolElem_inv hv]
theorem BSet.update {W : World} {mb m : Nat} {P : Int → Bool} (h : BSet W mb m P) (k : Int) (hk : I64 k) (hm : m ≤ 100000) :
    ∃ W', (Instr.mapUpdate 54 (.map (some mb)) (.int .i64 k) (.bool true)).run Try.prog W = .ok () W' ∧ BSet W' mb (m + 1) (fun x => if x = k then true else P x) ∧ W.grownBy W' (some mb) := by
  obtain ⟨D, h1, h2⟩ := h
  obtain ⟨W', hr, ho, hg⟩ := h1.update law3 Try.underlying54 (by unfold maxLen; omega) (val := .bool true) (d := .lit (.bool true)) (ps := []) (key3 hk) rfl
  refine ⟨W', hr, ⟨_, ho, fun x hx => ?_⟩, hg⟩
  by_cases e : x = k
  · subst e
    rw [atKey_put_same h1.isMap (law3.key (key3 hk))]
    simp
  · rw [atKey_put_other (by simp [e]), h2 x hx]
    simp [e]

/-- A tally where one other block is written. -/
theorem Tal.grown {W W' : World} {own : Own} {B b m : Nat} {F : Nat → Int → Int} {T : Int} (h : Tal W own B b m F T) {x : Nat} (hg : W.grownBy W' (some x)) (hb : b ≠ x) (ho : own x = none) : Tal W' own B b m F T := by
  have hbk : W'.heap[b]? = W.heap[b]? := hg.block b h.sits.lt (by simp [hb])
  exact ⟨⟨h.sits.tag, h.sits.base, Nat.lt_of_lt_of_le h.sits.lt hg.size, fun j => (World.frozen?_of_block (a := ⟨b, j, none⟩) hbk).trans (h.sits.frz j), fun y t hy => Nat.lt_of_lt_of_le (h.sits.old y t hy) hg.size, h.sits.low⟩,
    fun i hi => (h.book i hi).kept h.sits.old (fun j _ _ => World.cell?_of_block (a := ⟨b, j, none⟩) hbk) (fun y key hy => hg.block y (h.sits.old _ _ hy) (fun e => by
      simp only [Option.some.injEq] at e
      rw [e, ho] at hy
      cases hy)) (fun _ _ => rfl), (World.cell?_of_block (a := ⟨b, 24, none⟩) hbk).trans h.total, h.bnd, h.bndT⟩

theorem wpList_mapUpdate_set {w : World} {ops : Array Oper} {rest : List Oper} {o : Oper} {a : Act} {Q : Exit → Act → World → Prop} (hg : o.guard = none) (m x v : Operand) (hop : o.op = Op.mapUpdate 54 m x v)
    {mb n : Nat} {P : Int → Bool} {k : Int} (hm : a.eval m = .map (some mb)) (hx : a.eval x = .int .i64 k) (hv : a.eval v = .bool true) (h : BSet w mb n P) (hk : I64 k) (hn : n ≤ 100000)
    (hK : ∀ w', BSet w' mb (n + 1) (fun x => if x = k then true else P x) → w.grownBy w' (some mb) → wpList Try.prog ops Q rest (a.put o.dst undef) w') : wpList Try.prog ops Q (o :: rest) a w := by
  refine wpList_plain hg fun K' hK' => ?_
  obtain ⟨w', hrun, r1, r2⟩ := h.update k hk hn
  unfold Oper.wp
  simp [execOp, hop, hm, hx, hv, hrun, Result.andThen]
  exact hK' _ _ (hK w' r1 r2)

/-! The plain law. -/
def inT (S : Int → Bool) (t : Tk) : Int := if t.idle = false ∧ S t.thread = true then 1 else 0
def inI (S : Int → Bool) (t : Tk) : Int := if t.idle = true ∧ S t.core = true then 1 else 0
def inB (S : Int → Bool) (t : Tk) : Int := if t.idle = false ∧ S t.core = true then 1 else 0
theorem inT_bnd (S : Int → Bool) (t : Tk) : 0 ≤ inT S t ∧ inT S t ≤ (1 : Nat) := by unfold inT; split <;> simp
theorem inI_bnd (S : Int → Bool) (t : Tk) : 0 ≤ inI S t ∧ inI S t ≤ (1 : Nat) := by unfold inI; split <;> simp
theorem inB_bnd (S : Int → Bool) (t : Tk) : 0 ≤ inB S t ∧ inB S t ≤ (1 : Nat) := by unfold inB; split <;> simp
def addS (S : Int → Bool) (k : Int) : Int → Bool := fun x => if x = k then true else S x
theorem inT_add (S : Int → Bool) (k : Int) (h : S k = false) (l : List Tk) (n : Nat) : sumTo (fun _ => inT (addS S k)) l n = sumTo (fun _ => inT S) l n + sumTo (is0 k 0) l n := by
  rw [← sumTo_add]
  refine sumTo_congr _ _ _ _ (fun j _ => ?_)
  generalize l.getD j default = t
  have hj : (0 : Int) ≤ (j : Int) := by omega
  unfold inT is0 addS
  by_cases e : t.thread = k
  · subst e
    cases t.idle <;> simp [h]
  · cases t.idle <;> simp [e]
theorem inI_add (S : Int → Bool) (k : Int) (h : S k = false) (l : List Tk) (n : Nat) : sumTo (fun _ => inI (addS S k)) l n = sumTo (fun _ => inI S) l n + sumTo (fun _ => is3 k) l n := by
  rw [← sumTo_add]
  refine sumTo_congr _ _ _ _ (fun j _ => ?_)
  generalize l.getD j default = t
  unfold inI is3 addS
  by_cases e : t.core = k
  · subst e
    cases t.idle <;> simp [h]
  · cases t.idle <;> simp [e]
theorem inB_add (S : Int → Bool) (k : Int) (h : S k = false) (l : List Tk) (n : Nat) : sumTo (fun _ => inB (addS S k)) l n = sumTo (fun _ => inB S) l n + sumTo (fun _ => is2 k) l n := by
  rw [← sumTo_add]
  refine sumTo_congr _ _ _ _ (fun j _ => ?_)
  generalize l.getD j default = t
  unfold inB is2 addS
  by_cases e : t.core = k
  · subst e
    cases t.idle <;> simp [h]
  · cases t.idle <;> simp [e]
theorem in_none (l : List Tk) (n : Nat) : sumTo (fun _ => inT (fun _ => false)) l n = 0 ∧ sumTo (fun _ => inI (fun _ => false)) l n = 0 ∧ sumTo (fun _ => inB (fun _ => false)) l n = 0 :=
  ⟨sumTo_zero _ _ _ (fun j _ => by simp [inT]), sumTo_zero _ _ _ (fun j _ => by simp [inI]), sumTo_zero _ _ _ (fun j _ => by simp [inB])⟩
theorem sumTo_one (l : List Tk) : ∀ n : Nat, sumTo (fun _ _ => 1) l n = n
  | 0 => rfl
  | n + 1 => by simp only [sumTo]; rw [sumTo_one l n]; omega
theorem all_step {l : List Tk} {j : Nat} {t : Tk} (hg : t = l.getD j default) {S1 S1' S2 S2' : Int → Bool} (h : ∀ i, i < j → ((l.getD i default).idle = false → S1 (l.getD i default).thread = true) ∧ S2 (l.getD i default).core = true)
    (m1 : ∀ x, S1 x = true → S1' x = true) (m2 : ∀ x, S2 x = true → S2' x = true) (n1 : t.idle = false → S1' t.thread = true) (n2 : S2' t.core = true) :
    ∀ i, i < j + 1 → ((l.getD i default).idle = false → S1' (l.getD i default).thread = true) ∧ S2' (l.getD i default).core = true := by
  intro i hi
  by_cases e : i = j
  · subst e
    rw [← hg]
    exact ⟨n1, n2⟩
  · exact ⟨fun hh => m1 _ ((h i (by omega)).1 hh), m2 _ (h i (by omega)).2⟩
theorem addS_mono (S : Int → Bool) (k x : Int) (h : S x = true) : addS S k x = true := by unfold addS; split <;> simp [h]
theorem addS_same (S : Int → Bool) (k : Int) : addS S k k = true := by simp [addS]
/-- All that is seen is all. -/
theorem in_all (S1 S2 : Int → Bool) (l : List Tk) (n : Nat) (h : ∀ i, i < n → ((l.getD i default).idle = false → S1 (l.getD i default).thread = true) ∧ S2 (l.getD i default).core = true) :
    sumTo (fun _ => inT S1) l n = sumTo (fun _ => inB S2) l n ∧ sumTo (fun _ => inT S1) l n + sumTo (fun _ => inI S2) l n = n := by
  constructor
  · refine sumTo_congr _ _ _ _ (fun j hj => ?_)
    have := h j hj
    revert this
    generalize l.getD j default = t
    rintro ⟨h1, h2⟩
    unfold inT inB
    cases hi : t.idle
    · simp [h1 hi, h2]
    · simp
  · rw [← sumTo_add]
    refine Eq.trans (sumTo_congr _ (fun _ _ => 1) _ _ (fun j hj => ?_)) (sumTo_one l n)
    have := h j hj
    revert this
    generalize l.getD j default = t
    rintro ⟨h1, h2⟩
    unfold inT inI
    cases hi : t.idle
    · simp [h1 hi]
    · simp [h2]
end Go.Proofs.Ytohgckdkkeiggaa
