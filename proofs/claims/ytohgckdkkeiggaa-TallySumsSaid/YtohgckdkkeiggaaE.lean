/- A part of the proof of a law of roundel: contracts of functions and lemmas, each true as it stands; no condition beyond those that its theorems state. -/
import Derived.Test.YtohgckdkkeiggaaD
namespace Go.Proofs.Ytohgckdkkeiggaa
set_option linter.unusedSimpArgs false
set_option linter.unusedVariables false
open Go.RowKit Go.Maps

theorem load_any (a : Addr) (n : Int) (w : World) (h : w.cell? a = some (.int .i64 n)) : Calls Try.prog 20 #[.pointer (some a)] w fun e w' => e = .returned (.int .i64 n) ∧ w' = w := by
  have hl := run_call_load (P := Try.prog) Try.func25 (by kernel_rfl) (by kernel_rfl) (by kernel_rfl) .i64 (by kernel_rfl) h
  go_enter Try.func20, Try.ntmps20
  go_wp2
  go_ret
  exact ⟨rfl, rfl⟩

theorem add_any (a : Addr) (n s : Int) (hs : IntKind.i64.wrap (n + 1) = s) (w : World) (h : w.cell? a = some (.int .i64 n)) (hz : w.frozen? a = false) :
    Calls Try.prog 24 #[.pointer (some a), .int .i64 1] w fun e w' => e = .returned (.int .i64 s) ∧ w' = w.setCell a (.int .i64 s) := by
  have hadd := run_call_add (P := Try.prog) Try.func31 (by kernel_rfl) (by kernel_rfl) (by kernel_rfl) .i64 (by kernel_rfl) (y := 1) (s := s) h hz (by rw [← hs]; rfl)
  go_enter Try.func24, Try.ntmps24
  go_wp2
  go_ret
  exact ⟨rfl, rfl⟩

theorem store_any (a : Addr) (x : Value) (n : Int) (w : World) (h : w.cell? a = some x) (hz : w.frozen? a = false) :
    Calls Try.prog 22 #[.pointer (some a), .int .i64 n] w fun e w' => e = .returned (.tuple #[]) ∧ w' = w.setCell a (.int .i64 n) := by
  have hst := run_call_store (P := Try.prog) Try.func30 (by kernel_rfl) (by kernel_rfl) (by kernel_rfl) (by kernel_rfl) (k := .i64) (y := n) h hz
  go_enter Try.func22, Try.ntmps22
  go_wp2
  first | go_end0 | (refine bodyPost_ret (results_none rfl _ _ _) rfl ?_)
  exact ⟨rfl, rfl⟩

/-- F, but at one key. -/
def upd (F : Int → Int) (k v : Int) : Int → Int := fun k' => if k' = k then v else F k'

theorem Live.bump {W : World} {own : Own} {B b off m : Nat} {F : Int → Int} {mb : Nat} {D : DataW Unit} (h : Live W own B b off m F 0 mb D) (hb : own b = none) {c : Nat} {k : Int} (v : Int)
    (hhas : Maps.has D (.int .i64 k) = true) (hat : D.atKey (.int .i64 k) .nil = .lit (.int .i64 (c : Int))) (hc : own c = some (b, off, some k)) (hBc : B ≤ c) (hcell : W.cell? ⟨c, 0, none⟩ = some (.int .i64 (F k))) (hfz : W.frozen? ⟨c, 0, none⟩ = false) :
    Live (W.setCell ⟨c, 0, none⟩ (.int .i64 v)) own B b off m (upd F k v) 0 mb D := by
  have hcb : c ≠ b := fun e => by rw [e, hb] at hc; cases hc
  have hcm : mb ≠ c := fun e => by have := h.tag; rw [e, hc] at this; simp at this
  have hne : ∀ j, (⟨c, 0, none⟩ : Addr) ≠ ⟨b, j, none⟩ := fun j => by simp [hcb]
  refine ⟨(World.cell?_setCell_other _ _ _ _ (hne _)).trans h.done, (World.cell?_setCell_other _ _ _ _ (hne _)).trans h.lock, (World.cell?_setCell_other _ _ _ _ (hne _)).trans h.map, h.base, h.tag, h.owns.setCell hcm _, fun k' hk' => ?_⟩
  by_cases hkk : k' = k
  · subst hkk
    exact .inr ⟨c, hhas, hat, hBc, hc, by rw [show upd F k' v k' = v by simp [upd]]; exact World.cell?_setCell_same _ _ _ hcell, by rw [World.frozen?_setCell]; exact hfz⟩
  · rw [show upd F k v k' = F k' by simp [upd, hkk]]
    rcases h.each k' hk' with e | ⟨c', e1, e2, e3, e4, e5, e6⟩
    · exact .inl e
    · have hcc : c ≠ c' := fun e => by rw [← e, hc] at e4; simp at e4; exact hkk e4.symm
      exact .inr ⟨c', e1, e2, e3, e4, (World.cell?_setCell_other _ _ _ _ (by simp [hcc])).trans e5, by rw [World.frozen?_setCell]; exact e6⟩

theorem Chg.setCtr {own own1 : Own} {B b off : Nat} {W W' : World} (h : Chg own B b off W W') {c : Nat} {k : Int} (hc : own1 c = some (b, off, some k)) (hob : own1 b = none) (ho : ∀ x, x < W.heap.size → own1 x = own x) (v : Value) : Chg own B b off W (W'.setCell ⟨c, 0, none⟩ v) := by
  have hcb : c ≠ b := fun e => by rw [e, hob] at hc; cases hc
  refine ⟨h.os, h.tape, h.output, by have := h.size; simpa using this, fun x hx hb hn => ?_, fun j hj => (World.cell?_setCell_other _ _ _ _ (by simp [hcb])).trans (h.cells j hj), fun j => by rw [World.frozen?_setCell]; exact h.frz j⟩
  have hxc : x ≠ c := fun e => hn (some k) (by rw [← ho x hx, e]; exact hc)
  exact (Below.heap_setCell W' _ _ x hxc).trans (h.blk x hx hb hn)

/-- What every call on a book leaves. -/
def After (own : Own) (B b off m : Nat) (F : Int → Int) (W W' : World) : Prop :=
  ∃ own' : Own, BookAt W' own' B b off m F ∧ Sits W' own' B b ∧ Chg own B b off W W' ∧ (∀ x, x < W.heap.size → own' x = own x)

theorem count_any (own : Own) (B b off m : Nat) (hm : m ≤ 1000000) (F : Int → Int) (k : Int) (hk : I64 k) (W : World) (S : Sits W own B b) (H : BookAt W own B b off m F) (hF : IntKind.i64.wrap (F k + 1) = F k + 1) :
    Calls Try.prog 23 #[.pointer (some ⟨b, off, none⟩), .int .i64 k] W fun e W' => e = .returned (.tuple #[]) ∧ After own B b off (m + 1) (upd F k (F k + 1)) W W' := by
  go_enter Try.func23, Try.ntmps23
  go_wp2_with (first
    | (go_at_call 21; refine (at_any own B b off m hm F k hk W S H).mono ?_; rintro e W1 ⟨c, own1, mb, D, rfl, hL, hhas, hat, S1, hC, ho, hoc, hcc, hcf⟩)
    | (go_at_call 24; refine (add_any ⟨c, 0, none⟩ (F k) (F k + 1) hF W1 hcc hcf).mono ?_; rintro e W2 ⟨rfl, rfl⟩))
  go_end0
  exact ⟨rfl, own1, .inr ⟨mb, D, hL.bump S1.tag _ hhas hat hoc (S1.low _ _ hoc) hcc hcf⟩, S1.setCell _ _, hC.setCtr hoc S1.tag ho _, ho⟩

theorem read_any (own : Own) (B b off m : Nat) (hm : m ≤ 1000000) (F : Int → Int) (k : Int) (hk : I64 k) (W : World) (S : Sits W own B b) (H : BookAt W own B b off m F) :
    Calls Try.prog 19 #[.pointer (some ⟨b, off, none⟩), .int .i64 k] W fun e W' => e = .returned (.int .i64 (F k)) ∧ After own B b off (m + 1) F W W' := by
  go_enter Try.func19, Try.ntmps19
  go_wp2_with (first
    | (go_at_call 21; refine (at_any own B b off m hm F k hk W S H).mono ?_; rintro e W1 ⟨c, own1, mb, D, rfl, hL, hhas, hat, S1, hC, ho, hoc, hcc, hcf⟩)
    | (go_at_call 20; refine (load_any ⟨c, 0, none⟩ (F k) W1 hcc).mono ?_; rintro e W2 ⟨rfl, rfl⟩))
  go_ret
  exact ⟨rfl, own1, .inr ⟨mb, D, hL⟩, S1, hC, ho⟩
end Go.Proofs.Ytohgckdkkeiggaa
