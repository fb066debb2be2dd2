/- A part of the proof of a law of roundel: contracts of functions and lemmas, each true as it stands; no condition beyond those that its theorems state. -/
import Derived.Test.YtnlcbilmalfjaaaS
namespace Go.Proofs.Ytnlcbilmalfjaaa
set_option linter.unusedSimpArgs false
set_option linter.unusedVariables false
open Go.RowKit Go.Shelf
attribute [local go_sem] Oper.semAt_some

theorem round_any {m m' : Nat} {P : Program} {l : Nat} {f : FuncId} {tmps : Array Value} {assign body : Code} {w : World} {R : Ending → World → Prop}
    (h : RoundIn Fence.wide m P l f tmps assign body w R) : RoundIn Fence.wide m' P l f tmps assign body w R := ⟨h.1, fun c cs _ => h.2 c cs (fun _ e => nomatch e)⟩
theorem yield_any {m : Nat} (m' : Nat) {P : Program} {l : Nat} {args : Array Value} {W : World} {R : Ending → World → Prop} (h : YieldAt Fence.wide m P l args W R) : YieldAt Fence.wide m' P l args W R :=
  h.elim fun fn h => h.elim fun tmps h => h.elim fun assign h => h.elim fun body h => ⟨fn, tmps, assign, body, h.1, round_any h.2⟩
theorem calls_any {n m : Nat} {P : Program} {f : FuncId} {args : Array Value} {w : World} {R : Ending → World → Prop} (h : CallsIn Fence.wide m P f args w R) : CallsIn Fence.wide n P f args w R := callsIn_wide.2 (callsIn_wide.1 h)

/-- What a function that hands on the numbers of a row promises to whoever ranges over it: in order; all of them, or those up to the one at which it was told to end. The one who ranges keeps all blocks of cells but ob, and what the function's own loops lay. -/
def Gives (g : Nat) (lb : Array Value) (ob : Nat) (ok : Nat → Prop) (row : List Nat) (w : World) : Prop :=
  ∀ (n l : Nat) (J Jx : List Nat → World → Prop) (W : World), Ext w W → OwnFrom W.heap.size J → OwnFrom W.heap.size Jx →
    (∀ pre x W1, ok x → J pre W1 → YieldAt Fence.wide 5 Try.prog l #[.int .i64 (x : Int)] W1 fun e W' => ∃ b, e = .returned (.bool b) ∧
      ((b = true ∧ J (pre ++ [x]) W' ∧ Kc ob W1 W' ∧ KeepsFrom W.heap.size W1 W') ∨ (b = false ∧ Jx (pre ++ [x]) W' ∧ KeepsFrom W.heap.size W1 W'))) →
    J [] W → CallsIn Fence.wide n Try.prog g (#[.func (.yield l) #[] #[]] ++ lb) W fun e W' => (∃ v, e = .returned v) ∧ (J row W' ∨ ∃ pre, pre <+: row ∧ Jx pre W')

theorem own_abides {β : Type} {B : Nat} {J : β → World → Prop} (h : OwnFrom B J) : AbidesFrom B J := fun s W W' row hs hg hr => h s W W' row hs hg (fun r e => by
  obtain ⟨h1, o, h2, h3⟩ := hr r e
  exact ⟨h1, o, h2, Obj.not_cells_of_walk h3⟩)

section
variable {B rb lb mb N M : Nat} {rows : List (List Nat)}
theorem nodes_gives (z : Int) (ob b1 b2 : Nat) (w : World) (row : List Nat) (hrow : row = rowI rows z) (hM : 0 < M) (hR : Rr w B rb lb mb N M rows)
    (hb1 : w.cell? ⟨b1, 0, none⟩ = some (.pointer (some ⟨rb, 0, none⟩))) (hb2 : w.cell? ⟨b2, 0, none⟩ = some (.int .i64 z)) (n1 : rb ≠ ob) (n2 : lb ≠ ob) (n3 : mb ≠ ob) (n4 : b1 ≠ ob) :
    Gives 33 #[.pointer (some ⟨b1, 0, none⟩), .pointer (some ⟨b2, 0, none⟩)] ob (fun x => x < N) row w := fun n l J Jx W hW hJ hJx hY h0 =>
  (calls_any (m := 6) (nodes1_in 6 (by omega) z ob l b1 b2 W row hrow J Jx (own_abides hJ) hM (hR.kept hW) ((Ext.cell hW (p := ⟨b1, 0, none⟩) (block_lt_of_cell hb1)).trans hb1) ((Ext.cell hW (p := ⟨b2, 0, none⟩) (block_lt_of_cell hb2)).trans hb2) n1 n2 n3 n4
    (fun pre x W1 hj _ hx => (hY pre x W1 hx hj).mono (fun e W' h => by
      obtain ⟨b, rfl, ⟨rfl, h1, h2, h3⟩ | ⟨rfl, h1, h3⟩⟩ := h
      · exact .inl ⟨rfl, h1, h2⟩
      · exact .inr ⟨rfl, h1⟩)) h0)).mono (fun e W' h => ⟨h.1, by
      obtain ⟨-, ⟨ys, rfl, h⟩ | h⟩ := h
      · exact .inl h
      · exact .inr h⟩)
end

theorem kc_loop {ob : Nat} {W : World} {l : Nat} {o : Obj} (o' : Obj) (h : W.heap[l]? = some o) (hc : o.isCells = false) : Kc ob W (W.putObj l o') := ⟨by simp [World.putObj], fun k x hk hx _ => by
  have hne : k ≠ l := fun e => by subst e; rw [h] at hk; cases hk; rw [hc] at hx; cases hx
  exact (World.putObj_heap_other hne).trans hk⟩
theorem keepsFrom_put {B l : Nat} {W : World} (o : Obj) (h : l < B) : KeepsFrom B W (W.putObj l o) := KeepsFrom.of_grownBy (grownBy_putObj' W l o) (fun j e => by cases e; exact h)

/-- A range over a function that so gives. -/
theorem wpIn_gives {n : Nat} {g : Operand} {ps : Array Tmp} {assign body : Code} {Q : Exit → Act → World → Prop} {a : Act} {w w0 : World} {gf : Nat} {lb : Array Value} {ob : Nat} {ok : Nat → Prop} {row : List Nat}
    (hseq : Gives gf lb ob ok row w0) (hb0 : Ext w0 w) (hg : a.eval g = .func (.func gf) #[] lb) (eg : ∀ args w, (callFunc gf args).run Try.prog w = .ok (.enter gf args) w) (hps : ps.size = 1)
    (I : List Nat → World → Prop) (Ix : Code → List Nat → World → Prop) (hI : OwnFrom w.heap.size I) (hIx : ∀ c, OwnFrom w.heap.size (Ix c)) (h0 : I [] w) (a₁ : Nat → Act)
    (hassign : ∀ (l : Nat) (x : Nat) (W : World) (K : Act → World → Prop), K (a₁ x) W →
      assign.wpIn (Fence.wide.inRound l) 5 Try.prog (Exit.then K (fun _ _ _ => False)) { tmps := (ps.zip #[.int .i64 (x : Int)]).foldl (fun t (p, v) => t.setIfInBounds p v) a.tmps, defers := [] } W)
    (hbody : ∀ (l : Nat) (pre : List Nat) (x : Nat) (W : World), ok x → I pre W → body.wpIn (Fence.wide.inRound l) 5 Try.prog (ownPostG w.heap.size (Kc ob) I Ix (pre ++ [x]) W) (a₁ x) W)
    (hdone : ∀ (D : Nat) (W : World), w.heap.size ≤ D → I row W → W.heap[D]? = some (.deferred (some [])) → Q .normal { a with defers := { target := .collected D, args := #[] } :: a.defers } W)
    (hstop : ∀ (D : Nat) (c : Code) (pre : List Nat) (W : World), w.heap.size ≤ D → pre <+: row → Ix c pre W → W.heap[D]? = some (.deferred (some [])) → c.wpIn Fence.wide n Try.prog Q { a with defers := { target := .collected D, args := #[] } :: a.defers } W) :
    (Code.rangeFunc g ps assign body).wpIn Fence.wide n Try.prog Q a w := by
  refine wpIn_rangeFunc (fun fn _ => ?_)
  let lp : LoopState → Option Code → Obj := fun st pe => .loop { state := st, pending := pe, fn, tmps := a.tmps, params := ps, assign, body, defers := w.heap.size }
  have base : ∃ W1, W1 = (w.alloc (.deferred (some []))).alloc (lp .ready none) := ⟨_, rfl⟩
  obtain ⟨W1, e1⟩ := base
  have z1 : W1.heap.size = w.heap.size + 2 := by rw [e1]; simp
  have x1 : Ext w W1 := by rw [e1]; exact ((Ext.refl w).alloc _).alloc _
  have r1 : W1.heap[w.heap.size + 1]? = some (lp .ready none) := by
    rw [e1]
    simpa using World.alloc_heap_new (w.alloc (.deferred (some []))) (lp .ready none)
  have d1 : W1.heap[w.heap.size]? = some (.deferred (some [])) := by
    rw [e1]
    exact (Below.heap_alloc _ _ _ (by simp)).trans (World.alloc_heap_new w _)
  have i1 : I [] W1 := by
    rw [e1]
    exact hI.alloc _ (hI.alloc _ h0)
  -- blocks from W1's end on are beyond the loop's own two
  have up : ∀ {β : Type} {I : β → World → Prop}, OwnFrom w.heap.size I → OwnFrom W1.heap.size I := fun h s X Y r hs hg hr => h s X Y r hs hg (fun k e => ⟨by have := (hr k e).1; omega, (hr k e).2⟩)
  have book : ∀ {k : Nat} {o : Obj}, k < W1.heap.size → OwnFrom W1.heap.size (fun (_ : Unit) W => W.heap[k]? = some o) := fun hk s X Y r hs hg hr =>
    (hg.block _ (Array.getElem?_eq_some_iff.1 hs).1 (fun e => by have := (hr _ e.symm).1; omega)).trans hs
  refine ⟨w.heap.size + 1, [{ target := .collected w.heap.size, args := #[] }], W1, { target := .fn (.func gf) lb, args := #[.func (.yield (w.heap.size + 1)) #[] #[]] }, W1, gf, #[.func (.yield (w.heap.size + 1)) #[] #[]] ++ lb, W1, ?_, ?_, ?_, ?_, (fun h => nomatch h), ?_⟩
  · rw [e1]
    exact run_enterLoop_outer fn a.tmps ps assign body
  · simp only [resolve, hg]
    simp [go_sem]
  · exact fun _ _ => trivial
  · simp [invoke, go_sem, eg]
  refine (hseq (n - 1) (w.heap.size + 1)
    (fun pre W => I pre W ∧ W.heap[w.heap.size + 1]? = some (lp .ready none) ∧ W.heap[w.heap.size]? = some (.deferred (some [])))
    (fun pre W => ∃ c, Ix c pre W ∧ W.heap[w.heap.size + 1]? = some (lp .done (some c)) ∧ W.heap[w.heap.size]? = some (.deferred (some []))) W1 (hb0.trans x1)
    (fun s X Y r hs hg hr => ⟨up hI s X Y r hs.1 hg hr, book (by omega) () X Y r hs.2.1 hg hr, book (by omega) () X Y r hs.2.2 hg hr⟩)
    (fun s X Y r hs hg hr => hs.elim fun c hs => ⟨c, up (hIx c) s X Y r hs.1 hg hr, book (by omega) () X Y r hs.2.1 hg hr, book (by omega) () X Y r hs.2.2 hg hr⟩)
    ?_ ⟨i1, r1, d1⟩).mono ?_
  · -- a round
    rintro pre x W hx ⟨hi, hr, hd⟩
    have lr := (Array.getElem?_eq_some_iff.1 hr).1
    refine ⟨fn, _, assign, body, run_yield (r := { state := .ready, pending := none, fn, tmps := a.tmps, params := ps, assign, body, defers := w.heap.size }) hr hps.symm, roundIn_of_wpIn trivial (hassign _ x W _ ⟨_, run_beginRound hr rfl, ?_⟩)⟩
    obtain ⟨W2, e2⟩ : ∃ W2, W2 = W.putObj (w.heap.size + 1) (lp .busy none) := ⟨_, rfl⟩
    have r2 : W2.heap[w.heap.size + 1]? = some (lp .busy none) := by rw [e2]; exact World.putObj_heap_same lr
    have d2 : W2.heap[w.heap.size]? = some (.deferred (some [])) := by rw [e2]; exact (World.putObj_heap_other (by omega)).trans hd
    have i2 : I pre W2 := by rw [e2]; exact hI.putObj _ hi (by omega) hr rfl
    have k2 : Kc ob W W2 := by rw [e2]; exact kc_loop _ hr rfl
    have f2 : KeepsFrom W1.heap.size W W2 := by rw [e2]; exact keepsFrom_put _ (by omega)
    have shut : ∀ (j : Option Code) (W3 : World), KeepsFrom w.heap.size W2 W3 → ∃ W4, (Instr.endRound (w.heap.size + 1) j).run Try.prog W3 = .ok (.bool j.isNone) W4 ∧
        W4 = W3.putObj (w.heap.size + 1) (lp (if j.isNone then .ready else .done) j) ∧ W3.heap[w.heap.size + 1]? = some (lp .busy none) ∧
        W4.heap[w.heap.size + 1]? = some (lp (if j.isNone then .ready else .done) j) ∧ W4.heap[w.heap.size]? = some (.deferred (some [])) := fun j W3 k3 => by
      have r3 := k3.same _ _ (by omega) r2 rfl
      have d3 := k3.same _ _ (Nat.le_refl _) d2 rfl
      exact ⟨_, run_endRound j r3, rfl, r3, World.putObj_heap_same (Array.getElem?_eq_some_iff.1 r3).1, (World.putObj_heap_other (by omega)).trans d3⟩
    rw [show W.putObj (w.heap.size + 1) _ = W2 from e2.symm]
    refine wpIn_mono (hbody _ pre x W2 hx i2) (fun e a3 W3 hp => ?_)
    have out : ∀ c : Code, KeepsFrom w.heap.size W2 W3 ∧ Ix c (pre ++ [x]) W3 → ∃ v W4, (Instr.endRound (w.heap.size + 1) (some c)).run Try.prog W3 = .ok v W4 ∧ ∃ b, Ending.returned v = .returned (.bool b) ∧
        ((b = true ∧ (I (pre ++ [x]) W4 ∧ W4.heap[w.heap.size + 1]? = some (lp .ready none) ∧ W4.heap[w.heap.size]? = some (.deferred (some []))) ∧ Kc ob W W4 ∧ KeepsFrom W1.heap.size W W4) ∨
         (b = false ∧ (∃ c, Ix c (pre ++ [x]) W4 ∧ W4.heap[w.heap.size + 1]? = some (lp .done (some c)) ∧ W4.heap[w.heap.size]? = some (.deferred (some []))) ∧ KeepsFrom W1.heap.size W W4)) := fun c hc => by
      obtain ⟨W4, h1, h2, h3, h4, h5⟩ := shut (some c) W3 hc.1
      exact ⟨_, W4, h1, false, rfl, .inr ⟨rfl, ⟨c, by rw [h2]; exact (hIx c).putObj _ hc.2 (by omega) h3 rfl, h4, h5⟩, by rw [h2]; exact (f2.trans ⟨hc.1.size, fun k o hk => hc.1.same k o (by omega)⟩).trans (keepsFrom_put _ (by omega))⟩⟩
    cases e with
    | normal =>
      obtain ⟨k3, c3, i3⟩ := hp
      obtain ⟨W4, h1, h2, h3, h4, h5⟩ := shut none W3 k3
      refine ⟨_, W4, h1, true, rfl, .inl ⟨rfl, ⟨by rw [h2]; exact hI.putObj _ i3 (by omega) h3 rfl, h4, h5⟩, ?_, ?_⟩⟩
      · rw [h2]
        exact (k2.trans c3).trans (kc_loop _ h3 rfl)
      · rw [h2]
        exact (f2.trans ⟨k3.size, fun k o hk => k3.same k o (by omega)⟩).trans (keepsFrom_put _ (by omega))
    | ret => exact out .ret hp
    | exit id => exact out (.exit id) hp
    | goto t => exact out (.goto t) hp
    | panic ch => exact hp.elim
    | outgrown => exact hp.elim
  · -- behind it
    rintro e W2 ⟨⟨v, rfl⟩, ⟨hi, hr, hd⟩ | ⟨pre, hp, c, hi, hr, hd⟩⟩
    · exact ⟨none, _, run_endLoop hr (by simp), hdone _ _ (Nat.le_refl _) (hI.putObj _ hi (by omega) hr rfl) ((World.putObj_heap_other (by omega)).trans hd)⟩
    · exact ⟨some c, _, run_endLoop hr (by simp), hstop _ c pre _ (Nat.le_refl _) hp ((hIx c).putObj _ hi (by omega) hr rfl) ((World.putObj_heap_other (by omega)).trans hd)⟩
end Go.Proofs.Ytnlcbilmalfjaaa
