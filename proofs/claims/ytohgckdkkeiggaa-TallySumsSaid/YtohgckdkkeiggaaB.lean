/- A part of the proof of a law of roundel: contracts of functions and lemmas, each true as it stands; no condition beyond those that its theorems state. -/
import Derived.Test.YtohgckdkkeiggaaA
import Derived.Maps.OwnSet
namespace Go.Proofs.Ytohgckdkkeiggaa
set_option linter.unusedSimpArgs false
set_option linter.unusedVariables false
open Go.RowKit Go.Maps

theorem makes37 (w : World) : (Instr.makeMap 37 none).run Try.prog w = .ok (.map (some w.heap.size)) (w.alloc (.map #[] 0)) := by simp [Instr.makeMap, go_sem]

def made (w : World) (b off : Nat) : World :=
  ((((w.setCell ⟨b, off + 1, none⟩ (.int .i32 1)).setCell ⟨b, off + 5, none⟩ (.map (some w.heap.size))).alloc (.map #[] 0)).drew.setCell ⟨b, off, none⟩ (.int .u32 1)).setCell ⟨b, off + 1, none⟩ (.int .i32 0)

set_option maxRecDepth 100000 in
set_option maxHeartbeats 1600000 in
/-- The first call of Once.Do on a book: the closure lays a new map. -/
theorem slow_any (b off : Nat) (pl : Addr) (hpb : ¬ b = pl.block) (x5 : Value) (w : World) (hb : b < w.heap.size) (hp : w.cell? pl = some (.pointer (some ⟨b, off, none⟩)))
    (h0 : w.cell? ⟨b, off, none⟩ = some (.int .u32 0)) (h1 : w.cell? ⟨b, off + 1, none⟩ = some (.int .i32 0)) (h5 : w.cell? ⟨b, off + 5, none⟩ = some x5)
    (f0 : w.frozen? ⟨b, off, none⟩ = false) (f1 : w.frozen? ⟨b, off + 1, none⟩ = false) (f5 : w.frozen? ⟨b, off + 5, none⟩ = false) :
    Calls Try.prog 33 #[.pointer (some ⟨b, off, none⟩), .func (.func 27) #[] #[.pointer (some pl)]] w fun e w' => e = .returned (.tuple #[]) ∧
      w' = made w b off := by
  have hbs : b < ((w.setCell ⟨b, off + 1, none⟩ (.int .i32 1)).setCell ⟨b, off + 5, none⟩ (.map (some w.heap.size))).heap.size := by simpa using hb
  have hl := run_call_load (P := Try.prog) Try.func36 (by kernel_rfl) (by kernel_rfl) (by kernel_rfl) .u32 (by kernel_rfl) (w := w.setCell ⟨b, off + 1, none⟩ (.int .i32 1)) (a := ⟨b, off, none⟩) (x := 0) ((World.cell?_setCell_other _ ⟨b, off + 1, none⟩ ⟨b, off, none⟩ _ (by simp)).trans h0)
  have hp1 : (w.setCell ⟨b, off + 1, none⟩ (.int .i32 1)).cell? pl = some (.pointer (some ⟨b, off, none⟩)) := (World.cell?_setCell_other _ ⟨b, off + 1, none⟩ pl _ (fun h => hpb (by rw [← h]))).trans hp
  have h51 : (w.setCell ⟨b, off + 1, none⟩ (.int .i32 1)).cell? ⟨b, off + 5, none⟩ = some x5 := (World.cell?_setCell_other _ ⟨b, off + 1, none⟩ ⟨b, off + 5, none⟩ _ (by simp)).trans h5
  have hnot : ∀ (x : Bool) (w : World), (Op.unary .not (.bool x)).run Try.prog w = .ok (.bool (!x)) w := fun _ _ => rfl
  have hmk := makes37
  go_enter_defers Try.func33, Try.ntmps33
  go_wp2_with (go_at_call 28; refine (lock_free ⟨b, off + 1, none⟩ _ (by go_simp) (by go_simp)).mono ?_; rintro e w' ⟨rfl, rfl⟩)
  go_wp2
  go_end0
  go_wp2
  -- the door: two deferred calls, the last laid first
  refine leaves_cons (f := 37) (args := #[.pointer (some ⟨b, off, none⟩), .bool true]) (by simp) (by simp [go_sem]) ?_
  refine (store_deferred ⟨b, off, none⟩ (.int .u32 0) .returning _ ?_ ?_).mono ?_
  · rw [World.cell?_alloc_past _ _ _ hbs]
    exact (World.cell?_setCell_other _ ⟨b, off + 5, none⟩ ⟨b, off, none⟩ _ (by simp)).trans ((World.cell?_setCell_other _ ⟨b, off + 1, none⟩ ⟨b, off, none⟩ _ (by simp)).trans h0)
  · rw [World.frozen?_alloc_past _ _ _ hbs]
    simp [f0]
  rintro e u' w'' ⟨rfl, rfl, rfl⟩
  refine leaves_cons (f := 29) (args := #[.pointer (some ⟨b, off + 1, none⟩)]) (by simp [settle]) (by simp [go_sem]) ?_
  refine (unlock_deferred ⟨b, off + 1, none⟩ _ _ ?_ ?_).mono ?_
  · refine (World.cell?_setCell_other _ ⟨b, off, none⟩ ⟨b, off + 1, none⟩ _ (by simp)).trans ?_
    rw [World.cell?_drew, World.cell?_alloc_past _ _ _ hbs]
    exact (World.cell?_setCell_other _ ⟨b, off + 5, none⟩ ⟨b, off + 1, none⟩ _ (by simp)).trans (World.cell?_setCell_same _ _ _ h1)
  · rw [World.frozen?_setCell, World.frozen?_drew, World.frozen?_alloc_past _ _ _ hbs]
    simp [f1]
  rintro e u' w'' ⟨rfl, rfl, rfl⟩
  simp [Leaves, settle, results, Try.results33, made]

set_option maxRecDepth 100000 in
set_option maxHeartbeats 1600000 in
/-- '(*sync.Once).Do', not yet done, the lock free. -/
theorem do_first (b off : Nat) (pl : Addr) (hpb : ¬ b = pl.block) (x5 : Value) (w : World) (hb : b < w.heap.size) (hp : w.cell? pl = some (.pointer (some ⟨b, off, none⟩)))
    (h0 : w.cell? ⟨b, off, none⟩ = some (.int .u32 0)) (h1 : w.cell? ⟨b, off + 1, none⟩ = some (.int .i32 0)) (h5 : w.cell? ⟨b, off + 5, none⟩ = some x5)
    (f0 : w.frozen? ⟨b, off, none⟩ = false) (f1 : w.frozen? ⟨b, off + 1, none⟩ = false) (f5 : w.frozen? ⟨b, off + 5, none⟩ = false) :
    Calls Try.prog 26 #[.pointer (some ⟨b, off, none⟩), .func (.func 27) #[] #[.pointer (some pl)]] w fun e w' => e = .returned (.tuple #[]) ∧ w' = made w b off := by
  have hl := run_call_load (P := Try.prog) Try.func36 (by kernel_rfl) (by kernel_rfl) (by kernel_rfl) .u32 (by kernel_rfl) h0
  have hnot : ∀ (x : Bool) (w : World), (Op.unary .not (.bool x)).run Try.prog w = .ok (.bool (!x)) w := fun _ _ => rfl
  go_enter Try.func26, Try.ntmps26
  go_wp2_with (first | (go_at_call 33; refine (slow_any b off pl hpb x5 _ hb hp h0 h1 h5 f0 f1 f5).mono ?_; rintro e w' ⟨rfl, rfl⟩) | (go_at_call 32; go_in))
  go_end0
  exact ⟨rfl, rfl⟩

theorem made_size (w : World) (b off : Nat) : (made w b off).heap.size = w.heap.size + 1 := by simp [made]
theorem made_cell (w : World) (b off : Nat) (a : Addr) (ha : a.block < w.heap.size) (h0 : a ≠ ⟨b, off, none⟩) (h1 : a ≠ ⟨b, off + 1, none⟩) (h5 : a ≠ ⟨b, off + 5, none⟩) : (made w b off).cell? a = w.cell? a := by
  unfold made
  rw [World.cell?_setCell_other _ _ _ _ (Ne.symm h1), World.cell?_setCell_other _ _ _ _ (Ne.symm h0), World.cell?_drew, World.cell?_alloc_lt _ _ _ (by simpa using ha),
    World.cell?_setCell_other _ _ _ _ (Ne.symm h5), World.cell?_setCell_other _ _ _ _ (Ne.symm h1)]
theorem made_frozen (w : World) (b off : Nat) (a : Addr) (ha : a.block < w.heap.size) : (made w b off).frozen? a = w.frozen? a := by
  unfold made
  rw [World.frozen?_setCell, World.frozen?_setCell, World.frozen?_drew, World.frozen?_alloc_old _ _ _ (by simp; omega), World.frozen?_setCell, World.frozen?_setCell]
theorem made_block (w : World) (b off k : Nat) (hk : k < w.heap.size) (hne : k ≠ b) : (made w b off).heap[k]? = w.heap[k]? := by
  unfold made
  rw [Below.heap_setCell _ _ _ _ hne, Below.heap_setCell _ _ _ _ hne]
  show (World.alloc _ _).heap[k]? = _
  rw [Below.heap_alloc _ _ _ (by simpa using hk), Below.heap_setCell _ _ _ _ hne, Below.heap_setCell _ _ _ _ hne]
theorem made_cell0 (w : World) (b off : Nat) (hb : b < w.heap.size) {x : Value} (h0 : w.cell? ⟨b, off, none⟩ = some x) : (made w b off).cell? ⟨b, off, none⟩ = some (.int .u32 1) := by
  unfold made
  rw [World.cell?_setCell_other _ ⟨b, off + 1, none⟩ ⟨b, off, none⟩ _ (by simp)]
  refine World.cell?_setCell_same (u := x) _ _ _ ?_
  rw [World.cell?_drew, World.cell?_alloc_past _ _ _ (by simpa using hb), World.cell?_setCell_other _ ⟨b, off + 5, none⟩ ⟨b, off, none⟩ _ (by simp), World.cell?_setCell_other _ ⟨b, off + 1, none⟩ ⟨b, off, none⟩ _ (by simp)]
  exact h0
theorem made_cell1 (w : World) (b off : Nat) (hb : b < w.heap.size) {x : Value} (h1 : w.cell? ⟨b, off + 1, none⟩ = some x) : (made w b off).cell? ⟨b, off + 1, none⟩ = some (.int .i32 0) := by
  unfold made
  refine World.cell?_setCell_same (u := .int .i32 1) _ _ _ ?_
  rw [World.cell?_setCell_other _ ⟨b, off, none⟩ ⟨b, off + 1, none⟩ _ (by simp), World.cell?_drew, World.cell?_alloc_past _ _ _ (by simpa using hb), World.cell?_setCell_other _ ⟨b, off + 5, none⟩ ⟨b, off + 1, none⟩ _ (by simp)]
  exact World.cell?_setCell_same _ _ _ h1
theorem made_cell5 (w : World) (b off : Nat) (hb : b < w.heap.size) {x : Value} (h5 : w.cell? ⟨b, off + 5, none⟩ = some x) : (made w b off).cell? ⟨b, off + 5, none⟩ = some (.map (some w.heap.size)) := by
  unfold made
  rw [World.cell?_setCell_other _ ⟨b, off + 1, none⟩ ⟨b, off + 5, none⟩ _ (by simp), World.cell?_setCell_other _ ⟨b, off, none⟩ ⟨b, off + 5, none⟩ _ (by simp), World.cell?_drew, World.cell?_alloc_past _ _ _ (by simpa using hb)]
  refine World.cell?_setCell_same (u := x) _ _ _ ?_
  rw [World.cell?_setCell_other _ ⟨b, off + 1, none⟩ ⟨b, off + 5, none⟩ _ (by simp)]
  exact h5
theorem made_map (w : World) (b off : Nat) (hb : b < w.heap.size) : (made w b off).heap[w.heap.size]? = some (.map #[] 0) := by
  unfold made
  rw [Below.heap_setCell _ _ _ _ (by simp; omega), Below.heap_setCell _ _ _ _ (by simp; omega)]
  have z := (MapKept.heap_alloc ((w.setCell ⟨b, off + 1, none⟩ (.int .i32 1)).setCell ⟨b, off + 5, none⟩ (.map (some w.heap.size))) (.map #[] 0)).1
  rw [show ((w.setCell ⟨b, off + 1, none⟩ (.int .i32 1)).setCell ⟨b, off + 5, none⟩ (.map (some w.heap.size))).heap.size = w.heap.size by simp] at z
  exact z
theorem made_same (w : World) (b off : Nat) : (made w b off).os = w.os ∧ (made w b off).tape = w.tape ∧ (made w b off).output = w.output := ⟨rfl, rfl, rfl⟩
end Go.Proofs.Ytohgckdkkeiggaa
