/- A part of the proof of a law of roundel: contracts of functions and lemmas, each true as it stands; no condition beyond those that its theorems state. -/
import Derived.Test.YtnlcbilmalfjaaaT
import Derived.StillTail
import Derived.Sort.QuietThIn
import Derived.Sort.BigQuietIn
namespace Go.Proofs.Ytnlcbilmalfjaaa
set_option linter.unusedSimpArgs false
set_option linter.unusedVariables false
open Go.RowKit Go.Shelf
section
variable {P : Program} {n : Nat} {ops : Array Oper} {md : Region.Mode} {C : World → Prop} {Q : Exit → Act → World → Prop}

def noDefer (ops : Array Oper) : Bool := ops.all fun o => match o.op with
  | .defer _ => false
  | _ => true
theorem noDefer_spec (h : noDefer ops = true) {i : Nat} {o : Oper} (ho : ops[i]? = some o) (c : Call) : o.op ≠ .defer c := by
  intro e
  have h1 := Array.all_eq_true_iff_forall_mem.1 h o (Array.mem_of_getElem? ho)
  rw [e] at h1
  cases h1

/-! In a round an operation that is no defer statement is carried out as elsewhere. -/
theorem oper_inRound {r : Nat} {o : Oper} {a : Act} {w : World} {K : Act → World → Prop} (hd : ∀ c, o.op ≠ .defer c) (h : o.wpIn Fence.wide n P a w K Q) : o.wpIn (Fence.wide.inRound r) n P a w K Q := by
  refine ⟨h.1, ?_⟩
  have h2 := h.2
  rw [Fence.wide_round, Oper.semAt_none] at h2
  rw [Fence.inRound_round, Oper.semAt_some r a.eval o hd]
  exact h2
theorem opAt_inRound {r i : Nat} {K K' : Act → World → Prop} {a : Act} {w : World} (hn : noDefer ops = true) (hK : ∀ a w, K a w → K' a w) (h : wpOpIn Fence.wide n P ops Q i K a w) : wpOpIn (Fence.wide.inRound r) n P ops Q i K' a w := by
  refine wpOpIn_mono hK ?_
  unfold wpOpIn at h ⊢
  cases ho : ops[i]? with
  | none => rw [ho] at h; exact h
  | some o =>
    rw [ho] at h
    dsimp only at h ⊢
    by_cases hw : Region.wanted o (yielded ops a.tmps) = true
    · rw [if_pos hw] at h ⊢
      exact oper_inRound (noDefer_spec hn ho) h
    · rw [if_neg hw] at h ⊢
      exact h
theorem any_inRound {r : Nat} (hn : noDefer ops = true) : ∀ (f : Nat) (listed : Array Bool) (a : Act) (w : World), wpAnyIn Fence.wide n P md ops Q f listed a w → wpAnyIn (Fence.wide.inRound r) n P md ops Q f listed a w
  | 0, _, _, _, h => h
  | f + 1, _, _, _, h => ⟨h.1, fun i hi => opAt_inRound hn (fun a w => any_inRound hn f _ a w) (h.2 i hi)⟩

/-- A region in a round that but reads, its callees too: one walk. -/
theorem region_quiet_round {id r : Nat} {a : Act} {w : World} {l : List Oper} (hm : P.follows .mixedOrders = true) (hB : Region.lexB .any l.toArray = true) (hn : noDefer l.toArray = true)
    (h : wpQuietIn Fence.wide n P l.toArray (fun w' => ∃ n, w' = w.drewN n) (fun a' => ∀ w', (∃ n, w' = w.drewN n) → Q .normal a' w') l a) : (Code.region id l.toArray true).wpIn (Fence.wide.inRound r) n P Q a w := by
  simp only [Region.lexB, Bool.and_eq_true] at hB
  refine wpIn_region_any hm (any_inRound hn _ _ _ _ (wpAnyIn_of_quiet (C := fun w' => ∃ n, w' = w.drewN n) (Q := fun a' => ∀ w', (∃ n, w' = w.drewN n) → Q .normal a' w') rfl (fun _ w' hw' h => h w' hw') _ _ _ _ ⟨1, rfl⟩ ?_))
  have z := wpAnyQIn_lex (F := Fence.wide) (n := n) (C := fun w' => ∃ n, w' = w.drewN n) (md := .any) hB.1 l 0 (Array.replicate l.toArray.size false) a (by simp) (by simpa using hB.2) h
  simpa using z

/-! The same where what but reads is the region's head, and the rest stands behind all of it in its own order. -/
def headAny (n : Nat) (P : Program) (md : Region.Mode) (ops : Array Oper) (C : World → Prop) (k : Nat) (L : Array Bool → Act → Prop) : Nat → Array Bool → Act → Prop
  | 0, listed, a => L listed a
  | f + 1, listed, a => Region.ready md ops listed ≠ [] ∧ ∀ i ∈ Region.ready md ops listed, i < k ∧ qOpIn Fence.wide n P ops C i (headAny n P md ops C k L f (listed.setIfInBounds i true)) a

theorem any_of_head {k g : Nat} {L : Array Bool → Act → Prop} (hL : ∀ listed a w, C w → L listed a → wpAnyIn Fence.wide n P md ops Q g listed a w) :
    ∀ (f : Nat) (listed : Array Bool) (a : Act) (w : World), C w → headAny n P md ops C k L f listed a → wpAnyIn Fence.wide n P md ops Q (f + g) listed a w
  | 0, listed, a, w, hC, h => by rw [Nat.zero_add]; exact hL _ _ _ hC h
  | f + 1, listed, a, w, hC, h => by
    rw [Nat.add_right_comm]
    exact ⟨fun h0 => absurd h0 h.1, fun i hi => wpOpIn_of_qOpIn rfl hC (fun a' w' hC' h' => any_of_head hL f _ a' w' hC' h') (h.2 i hi).2⟩

theorem head_first {k i : Nat} {oi : Oper} {v : Value} {L : Array Bool → Act → Prop} (hi : ops[i]? = some oi) (hsel : ∀ (j : Nat) (o : Oper) cs b, ops[j]? = some o → o.op ≠ .select cs b)
    (hs : Region.sinkB md ops k = true) (hc : Region.chainB md ops k = true) (hk : k < ops.size) (hik : i < k) (hend : ∀ listed a, L listed a → ∀ j ∈ Region.ready md ops listed, k ≤ j) :
    ∀ (f : Nat) (listed : Array Bool) (a : Act), HeadInv md ops k listed →
      (∀ j oj, ops[j]? = some oj → j ≠ i → listed.getD j true = false → (∀ e ∈ oj.after, Region.binds md e = true → e.on ≠ i) → oi.apart ops oj = true) →
      i ∈ Region.ready md ops listed → YieldsQuiet Fence.wide n P ops C oi v a →
      headAny n P md ops C k L f (listed.setIfInBounds i true) (a.put oi.dst v) → headAny n P md ops C k L (f + 1) listed a := by
  intro f
  induction f with
  | zero =>
    intro listed a inv _ hr hy H
    refine ⟨fun e => (by rw [e] at hr; cases hr), fun j hj => ?_⟩
    have hjk : j < k := by
      refine Nat.lt_of_not_le fun hle => ?_
      exact tail_waits hs hc hk inv _ i rfl hik (mem_ready.1 hr).1 j hle hj
    refine ⟨hjk, ?_⟩
    by_cases e : j = i
    · subst e
      exact hy.qOpIn hi H
    · have := hend _ _ H j (ready_mono hj e)
      omega
  | succ f ih =>
    intro listed a inv hfree hr hy H
    refine ⟨fun e => (by rw [e] at hr; cases hr), fun j hj => ?_⟩
    have hjk : j < k := by
      refine Nat.lt_of_not_le fun hle => ?_
      exact tail_waits hs hc hk inv _ i rfl hik (mem_ready.1 hr).1 j hle hj
    refine ⟨hjk, ?_⟩
    by_cases e : j = i
    · subst e
      exact hy.qOpIn hi H
    · obtain ⟨hjun, oj, hoj, hall⟩ := mem_ready.1 hj
      have hno : ∀ x ∈ oj.after, Region.binds md x = true → x.on ≠ i := fun x hx hb he => by
        have h1 := hall x hx hb
        rw [he, getD_both (mem_ready.1 hr).1] at h1
        cases h1
      have hq := qOpIn_put hoj (hfree j oj hoj e hjun hno) (fun cs b => hsel i oi cs b hi) (fun cs b => hsel j oj cs b hoj) hy (H.2 j (ready_mono hj e)).2
      refine qOpIn_mono (fun a' hh => ih (listed.setIfInBounds j true) a' (inv.set hj hjk) (fun m om hm hmi hun hno' => hfree m om hm hmi ?_ hno') (ready_mono hr (Ne.symm e)) hh.1 ?_) hq
      · by_cases hjm : j = m
        · subst hjm
          exact hjun
        · rwa [getD_set_ne true hjm] at hun
      · rw [Array.setIfInBounds_comm _ _ e]
        exact hh.2

theorem any_of_order : ∀ (l : List Oper) (k : Nat) (listed : Array Bool) (a : Act) (w : World), (∀ j, l[j]? = ops[k + j]?) → Region.seqB md ops l.length k listed = true → wpListIn Fence.wide n P ops Q l a w → wpAnyIn Fence.wide n P md ops Q l.length listed a w
  | [], _, _, _, _, _, hB, h => ⟨by simpa [Region.seqB] using hB, h⟩
  | o :: l, k, listed, a, w, hl, hB, h => by
    have h0 : ops[k]? = some o := by simpa using (hl 0).symm
    simp only [List.length_cons, Region.seqB, Bool.and_eq_true, decide_eq_true_eq] at hB
    refine ⟨fun e => (by rw [hB.1] at e; cases e), fun i hi => ?_⟩
    rw [hB.1] at hi
    obtain rfl : i = k := by simpa using hi
    refine wpOpIn_mono (K := wpListIn Fence.wide n P ops Q l) (fun a' w' h' => any_of_order l (i + 1) _ a' w' (fun j => by have := hl (j + 1); simpa [Nat.add_assoc, Nat.add_comm 1 j] using this) hB.2 h') ?_
    unfold wpOpIn
    simp only [h0]
    exact h

theorem head_lex {k g : Nat} {Lq : Act → Prop} (hsel : Region.noSelect ops = true) (hs : Region.sinkB md ops k = true) (hc : Region.chainB md ops k = true) (hk : k < ops.size) :
    ∀ (l : List Oper) (m : Nat) (listed : Array Bool) (a : Act), (∀ j, j < l.length → l[j]? = ops[m + j]?) → m + l.length = k → HeadInv md ops k listed → Region.lexHead md ops g l.length m listed = true →
      wpQuietIn Fence.wide n P ops C Lq l a → headAny n P md ops C k (fun listed' a' => Region.seqB md ops g k listed' = true ∧ Lq a') l.length listed a
  | [], m, listed, a, _, hm, _, hB, h => by
    obtain rfl : m = k := by simpa using hm
    exact ⟨by simpa [Region.lexHead] using hB, h⟩
  | o :: l, m, listed, a, hl, hm, inv, hB, h => by
    have h0 : ops[m]? = some o := by simpa using (hl 0 (by simp)).symm
    simp only [List.length_cons, Region.lexHead, Bool.and_eq_true] at hB
    obtain ⟨⟨hr, hf⟩, hB'⟩ := hB
    have hmk : m < k := by simp only [List.length_cons] at hm; omega
    have hr' : m ∈ Region.ready md ops listed := by simpa using hr
    have hq : qOpIn Fence.wide n P ops C m (wpQuietIn Fence.wide n P ops C Lq l) a := by unfold qOpIn; simp only [h0]; exact h
    obtain ⟨v, hy, hK⟩ := yieldsQuiet_of_qOpIn h0 hq
    exact head_first h0 (Region.noSelect_spec hsel) hs hc hk hmk (fun listed' a' hL => seqB_ready hL.1) l.length listed a inv (Region.free_spec h0 hf) hr' hy
      (head_lex hsel hs hc hk l (m + 1) _ _ (fun j hj => by have := hl (j + 1) (by simp; omega); simpa [Nat.add_assoc, Nat.add_comm 1 j] using this) (by simp only [List.length_cons] at hm; omega) (inv.set hr' hmk) hB' hK)

theorem region_tail_round {id r : Nat} {a : Act} {w : World} {l : List Oper} (k : Nat) (hm : P.follows .mixedOrders = true) (hB : Region.lexTailB .any l.toArray k = true) (hn : noDefer l.toArray = true)
    (h : wpQuietIn Fence.wide n P l.toArray (fun w' => ∃ n, w' = w.drewN n) (fun a' => ∀ w', (∃ n, w' = w.drewN n) → wpListIn Fence.wide n P l.toArray Q (l.drop k) a' w') (l.take k) a) : (Code.region id l.toArray true).wpIn (Fence.wide.inRound r) n P Q a w := by
  simp only [Region.lexTailB, Bool.and_eq_true, decide_eq_true_eq] at hB
  obtain ⟨⟨⟨⟨hsel, hk⟩, hs⟩, hc⟩, hlex⟩ := hB
  have hk' : k < l.length := by simpa using hk
  have htl : (l.take k).length = k := by simp; omega
  have hdl : (l.drop k).length = l.toArray.size - k := by simp
  have H := head_lex (md := .any) (g := l.toArray.size - k) hsel hs hc hk (l.take k) 0 (Array.replicate l.toArray.size false) a (fun j hj => by
    have hj' : j < k := by rw [htl] at hj; exact hj
    simp [hj']) (by simpa using htl) ⟨by simp, fun j oj _ hl => (by rw [getD_replicate_false] at hl; cases hl), fun t _ ht => getD_in (by simpa using ht) (getD_replicate_false _ _)⟩ (by rw [htl]; exact hlex) h
  refine wpIn_region_any hm (any_inRound hn _ _ _ _ ?_)
  have z := any_of_head (C := fun w' => ∃ n, w' = w.drewN n) (Q := Q) (g := l.toArray.size - k) (fun listed a' w' hC hL => by
    have y := any_of_order (md := .any) (n := n) (P := P) (Q := Q) (l.drop k) k listed a' w' (fun j => by simp [List.getElem?_drop]) (by rw [hdl]; exact hL.1) (hL.2 w' hC)
    rwa [hdl] at y) _ _ _ { w with drawn := w.drawn + 1 } ⟨1, rfl⟩ H
  have e : k + (l.toArray.size - k) = l.toArray.size := by omega
  rw [htl, e] at z
  exact z
theorem region_tail_plain {id : Nat} {a : Act} {w : World} {l : List Oper} (k : Nat) (hm : P.follows .mixedOrders = true) (hB : Region.lexTailB .any l.toArray k = true)
    (h : wpQuietIn Fence.wide n P l.toArray (fun w' => ∃ n, w' = w.drewN n) (fun a' => ∀ w', (∃ n, w' = w.drewN n) → wpListIn Fence.wide n P l.toArray Q (l.drop k) a' w') (l.take k) a) : (Code.region id l.toArray true).wp P Q a w := by
  simp only [Region.lexTailB, Bool.and_eq_true, decide_eq_true_eq] at hB
  obtain ⟨⟨⟨⟨hsel, hk⟩, hs⟩, hc⟩, hlex⟩ := hB
  have hk' : k < l.length := by simpa using hk
  have htl : (l.take k).length = k := by simp; omega
  have hdl : (l.drop k).length = l.toArray.size - k := by simp
  have H := head_lex (md := .any) (g := l.toArray.size - k) hsel hs hc hk (l.take k) 0 (Array.replicate l.toArray.size false) a (fun j hj => by
    have hj' : j < k := by rw [htl] at hj; exact hj
    simp [hj']) (by simpa using htl) ⟨by simp, fun j oj _ hl => (by rw [getD_replicate_false] at hl; cases hl), fun t _ ht => getD_in (by simpa using ht) (getD_replicate_false _ _)⟩ (by rw [htl]; exact hlex) h
  refine (wpIn_wide (n := n)).1 (wpIn_region_any hm ?_)
  have z := any_of_head (C := fun w' => ∃ n, w' = w.drewN n) (Q := Q) (g := l.toArray.size - k) (fun listed a' w' hC hL => by
    have y := any_of_order (md := .any) (n := n) (P := P) (Q := Q) (l.drop k) k listed a' w' (fun j => by simp [List.getElem?_drop]) (by rw [hdl]; exact hL.1) (hL.2 w' hC)
    rwa [hdl] at y) _ _ _ { w with drawn := w.drawn + 1 } ⟨1, rfl⟩ H
  have e : k + (l.toArray.size - k) = l.toArray.size := by omega
  rw [htl, e] at z
  exact z

theorem region_quiet_plain {id : Nat} {a : Act} {w : World} {l : List Oper} (hm : P.follows .mixedOrders = true) (hB : Region.lexB .any l.toArray = true)
    (h : wpQuietIn Fence.wide n P l.toArray (fun w' => ∃ n, w' = w.drewN n) (fun a' => ∀ w', (∃ n, w' = w.drewN n) → Q .normal a' w') l a) : (Code.region id l.toArray true).wp P Q a w :=
  (wpIn_wide (n := n)).1 (wpIn_region_quiet_lit rfl hm hB h)

/-- A world that has at most new blocks. -/
structure ExtW (V : World) where
  w : World
  ext : Ext V w
instance {V : World} : Nonempty (ExtW V) := ⟨⟨V, Ext.refl V⟩⟩
/-- A region that but reads, whose callees make memory: one walk. -/
theorem region_quiet_ext {id : Nat} {a : Act} {w : World} {l : List Oper} (hm : P.follows .mixedOrders = true) (hB : Region.lexB .any l.toArray = true)
    (h : wpQuietIn Fence.wide n P l.toArray (fun w' => ∃ u : ExtW w, w' = u.w) (fun a' => ∀ w', (∃ u : ExtW w, w' = u.w) → Q .normal a' w') l a) : (Code.region id l.toArray true).wp P Q a w := by
  refine (wpIn_wide (n := n)).1 (wpIn_region_quiet (C := fun w' => ∃ u : ExtW w, w' = u.w) rfl hm hB ⟨⟨_, (Ext.refl w).drew⟩, rfl⟩ ?_)
  simpa using h
end
end Go.Proofs.Ytnlcbilmalfjaaa
