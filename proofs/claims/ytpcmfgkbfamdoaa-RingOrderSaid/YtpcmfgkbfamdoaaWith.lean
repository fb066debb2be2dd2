/- A part of the proof of a law of roundel: contracts of functions and lemmas, each true as it stands; no condition beyond those that its theorems state. -/
import Derived.Test.YtpcmfgkbfamdoaaRef
import Derived.Test.YtpcmfgkbfamdoaaRow
namespace Go.Proofs.Ytpcmfgkbfamdoaa
set_option linter.unusedSimpArgs false
set_option linter.unusedVariables false
open Go.RowKit

theorem infoRow : (Try.prog.info? 41).map (fun i => (i.zero, i.size, i.bytes)) = some (some (.slice none 0 0), 1, 24) := by kernel_rfl
theorem infoInt : (Try.prog.info? 3).map (fun i => (i.zero, i.size, i.bytes)) = some (some (.int .i64 0), 1, 8) := by kernel_rfl
theorem make_rows (n : Nat) (hn : n ≤ 1000) (w : World) : (Instr.makeSlice 28 (.int .i64 (n : Int)) (.int .i64 (n : Int))).run Try.prog w = .ok (.slice (some ⟨w.heap.size, 0, none⟩) n n) (w.alloc (.cells (Go.madeCells #[.slice none 0 0] n) 41)) := by
  obtain ⟨i, hi, hz, hs, hb⟩ := info_parts (P := Try.prog) (e := 41) (z := .slice none 0 0) (size := 1) (bytes := 24) (by kernel_rfl)
  have z := run_make (P := Try.prog) w 28 41 i _ Try.underlying28 hi hz .i64 .i64 (n : Int) (n : Int) (by omega) (Int.le_refl _) (by rw [hb]; omega) (by omega)
  rw [hs] at z
  simpa [Value.cells] using z
theorem zRows_get (n i : Nat) (h : i < n) : (madeCells #[Value.slice none 0 0] n)[i]? = some (.slice none 0 0) := by
  unfold madeCells
  rw [Array.getElem?_map]
  have : (Array.range n)[i]? = some i := by simp [h]
  rw [this]
  simp [Nat.mod_one]
theorem rowAt_replicate (M l : Nat) : rowAt (List.replicate M []) l = [] := by
  simp only [rowAt, List.getD, List.getElem?_replicate]
  split <;> rfl

set_option maxRecDepth 100000 in
theorem RNew_ok (N M : Nat) (h1 : 1 ≤ N) (h2 : N ≤ 64) (h3 : 1 ≤ M) (h4 : M ≤ 64) (W : World) :
    Calls Try.prog 9 #[.int .i64 (N : Int), .int .i64 (M : Int)] W fun e W' => ∃ v, e = .returned (.tuple #[v, .int .i64 0]) ∧ RefAt W' (fun x => W.heap.size ≤ x) v N (List.replicate M []) ∧ Ext W W' := by
  have k2 := make_rows M (by omega)
  have p1 : (1 : Int) ≤ (N : Int) := by omega
  have p2 : (N : Int) ≤ 64 := by omega
  have p3 : (1 : Int) ≤ (M : Int) := by omega
  have p4 : (M : Int) ≤ 64 := by omega
  go_enter Try.func9, Try.ntmps9
  go_wp2
  (try simp only [Exit.inBlock, Exit.then])
  refine bodyPost_ret (v := .tuple #[.agg #[.int .i64 (N : Int), .slice (some ⟨W.heap.size + 1, 0, none⟩) M M], .int .i64 0]) (by rw [results_cell_tmp rfl]; go_simp) rfl ?_
  have hE : Ext W ((W.alloc (.cells #[.int .i64 (N : Int), .slice (some ⟨W.heap.size + 1, 0, none⟩) M M] 30)).alloc (.cells (madeCells #[.slice none 0 0] M) 41)) := ((Ext.refl W).alloc _).alloc _
  refine ⟨_, rfl, ⟨some ⟨W.heap.size + 1, 0, none⟩, M, M, rfl, by simp, Nat.le_refl _, by omega, by simp, fun _ => ⟨W.heap.size + 1, rfl, by omega, fun j hj => ⟨none, 0, 0, ?_, ?_⟩⟩⟩, hE⟩
  · have z := World.cell?_alloc_new (W.alloc (.cells #[.int .i64 (N : Int), .slice (some ⟨W.heap.size + 1, 0, none⟩) M M] 30)) (madeCells #[.slice none 0 0] M) 41 j
    rw [show (W.alloc (.cells #[.int .i64 (N : Int), .slice (some ⟨W.heap.size + 1, 0, none⟩) M M] 30)).heap.size = W.heap.size + 1 by simp] at z
    rw [z]
    exact zRows_get M j hj
  · rw [rowAt_replicate]
    exact ⟨rfl, Nat.le_refl _, by omega, fun _ => rfl, by omega⟩

theorem newest2 (W : World) (a b c : Obj) : (((W.alloc a).alloc b).alloc c).heap[W.heap.size + 1 + 1]? = some c := by
  have z := heap_alloc_new ((W.alloc a).alloc b) c
  rwa [show ((W.alloc a).alloc b).heap.size = W.heap.size + 1 + 1 by simp] at z
section
variable (W : World) (a b c : Array Value) (ta tb tc : TypeId) (i : Nat)
theorem three1 : (((W.alloc (.cells a ta)).alloc (.cells b tb)).alloc (.cells c tc)).cell? ⟨W.heap.size, i, none⟩ = a[i]? := by
  rw [World.cell?_alloc_past _ _ _ (by simp <;> omega), World.cell?_alloc_past _ _ _ (by simp), World.cell?_alloc_new]
theorem three2 : (((W.alloc (.cells a ta)).alloc (.cells b tb)).alloc (.cells c tc)).cell? ⟨W.heap.size + 1, i, none⟩ = b[i]? := by
  rw [World.cell?_alloc_past _ _ _ (by simp)]
  have z := World.cell?_alloc_new (W.alloc (.cells a ta)) b tb i
  rwa [show (W.alloc (.cells a ta)).heap.size = W.heap.size + 1 by simp] at z
theorem three2z : (((W.alloc (.cells a ta)).alloc (.cells b tb)).alloc (.cells c tc)).frozen? ⟨W.heap.size + 1, i, none⟩ = false := by
  rw [World.frozen?_alloc_past _ _ _ (by simp)]
  have z := World.frozen?_alloc_new (W.alloc (.cells a ta)) b tb i
  rwa [show (W.alloc (.cells a ta)).heap.size = W.heap.size + 1 by simp] at z
end
theorem RefAt.vals {W : World} {L : Nat → Prop} {N : Nat} {v : Value} {rows : List (List Nat)} (H : RefAt W L v N rows) : ∃ A n c ys, v = .agg #[.int .i64 (N : Int), .slice A n c] ∧ rows.length = n ∧ n ≤ c ∧ c ≤ 9223372036854775807 ∧ (A = none → c = 0) ∧ List.length ys = n ∧
    (0 < n → ∃ x, A = some ⟨x, 0, none⟩ ∧ L x ∧ x < W.heap.size ∧ ∀ j, j < n → W.cell? ⟨x, 0 + j, none⟩ = some (ys.getD j undef)) ∧ (∀ j, j < n → ∃ GA gn gc, ys.getD j undef = .slice GA gn gc ∧ RowAt W L GA gn gc (rowAt rows j)) ∧ ∀ u ∈ ys, u.oneCell' = true := by
  obtain ⟨A, n, c, rfl, h1, h2, h3, h4, h5⟩ := H
  by_cases hn : 0 < n
  · obtain ⟨x, rfl, hx, hc⟩ := h5 hn
    have hc' : ∀ j, j < n → ∃ u : Value, (∃ GA gn gc, u = .slice GA gn gc ∧ RowAt W L GA gn gc (rowAt rows j)) ∧ W.cell? ⟨x, j, none⟩ = some u := fun j hj => by
      obtain ⟨GA, gn, gc, k1, k2⟩ := hc j hj
      exact ⟨_, ⟨GA, gn, gc, rfl, k2⟩, k1⟩
    have : ∃ f : Nat → Value, ∀ j, j < n → (∃ GA gn gc, f j = .slice GA gn gc ∧ RowAt W L GA gn gc (rowAt rows j)) ∧ W.cell? ⟨x, j, none⟩ = some (f j) := by
      refine ⟨fun j => if h : j < n then Classical.choose (hc' j h) else undef, fun j hj => ?_⟩
      simp only [hj, dif_pos]
      exact Classical.choose_spec (hc' j hj)
    obtain ⟨f, hf⟩ := this
    have e : ∀ j, j < n → ((List.range n).map f).getD j undef = f j := fun j hj => by simp [List.getD, hj]
    refine ⟨_, n, c, (List.range n).map f, rfl, h1, h2, h3, h4, by simp, fun _ => ⟨x, rfl, hx, ?_, fun j hj => ?_⟩, fun j hj => ?_, fun u hu => ?_⟩
    · exact block_lt_of_cell (hf 0 hn).2
    · rw [Nat.zero_add, e j hj]; exact (hf j hj).2
    · rw [e j hj]; exact (hf j hj).1
    · obtain ⟨j, hj, rfl⟩ := List.mem_map.1 hu
      obtain ⟨⟨GA, gn, gc, k, _⟩, _⟩ := hf j (List.mem_range.1 hj)
      rw [k]; rfl
  · have hn0 : n = 0 := by omega
    exact ⟨A, n, c, [], rfl, h1, h2, h3, h4, by simp [hn0], fun h => absurd h hn, fun j hj => by omega, by simp⟩

theorem with_mid {W w4 : World} {v4 : Value} {ys : List Value} {n N l : Nat} {A : Option Addr} {c : Nat} (h5 : ys.length = n) (hl : l < n) (o4 : OwnV w4 (W.heap.size + 1 + 1) 41 v4 ([] ++ ys))
    (g4 : (((W.alloc (.cells #[.int .i64 (N : Int), .slice A n c] 30)).alloc (.cells #[.int .i64 0, .slice none 0 0] 30)).alloc (.cells #[] 41)).grownBy w4 (Value.slice (some ⟨W.heap.size + 1 + 1, 0, none⟩) 0 0).ownBlock) :
    ∃ g cp, v4 = .slice (some ⟨g, 0, none⟩) n cp ∧ n ≤ cp ∧ cp ≤ 9223372036854775807 ∧ W.heap.size + 1 + 1 ≤ g ∧ g < w4.heap.size ∧ (∀ j, j < n → w4.cell? ⟨g, j, none⟩ = some (ys.getD j undef)) ∧ (∀ j, w4.frozen? ⟨g, j, none⟩ = false) ∧
      w4.cell? ⟨W.heap.size, 0, none⟩ = some (.int .i64 (N : Int)) ∧ w4.cell? ⟨W.heap.size + 1, 0, none⟩ = some (.int .i64 0) ∧ w4.cell? ⟨W.heap.size + 1, 1, none⟩ = some (.slice none 0 0) ∧ (∀ o, w4.frozen? ⟨W.heap.size + 1, o, none⟩ = false) ∧ Ext W w4 := by
  rw [List.nil_append] at o4
  obtain ⟨B4, cp, rfl, hc1, hc2, -, hc4⟩ := o4.cells
  obtain ⟨g, rfl, hg1, hg2, hg3, hg4⟩ := hc4 (by omega)
  rw [h5] at hg3 hc1 ⊢
  have hbk : ∀ x, x < W.heap.size + 1 + 1 → w4.heap[x]? = (((W.alloc (.cells #[.int .i64 (N : Int), .slice A n c] 30)).alloc (.cells #[.int .i64 0, .slice none 0 0] 30)).alloc (.cells #[] 41)).heap[x]? :=
    fun x hx => g4.block x (by simp; omega) (by simp [Value.ownBlock]; omega)
  refine ⟨g, cp, rfl, hc1, hc2, hg1, hg2, hg3, hg4, (World.cell?_of_block (a := ⟨W.heap.size, 0, none⟩) (hbk W.heap.size (by omega))).trans ((three1 ..).trans rfl), (World.cell?_of_block (a := ⟨W.heap.size + 1, 0, none⟩) (hbk (W.heap.size + 1) (by omega))).trans ((three2 ..).trans rfl),
    (World.cell?_of_block (a := ⟨W.heap.size + 1, 1, none⟩) (hbk (W.heap.size + 1) (by omega))).trans ((three2 ..).trans rfl), fun o => (World.frozen?_of_block (a := ⟨W.heap.size + 1, o, none⟩) (hbk (W.heap.size + 1) (by omega))).trans (three2z ..), ?_⟩
  exact ((((Ext.refl W).alloc _).alloc _).alloc _).grown g4 (fun k hk => by simp [Value.ownBlock] at hk; omega)

set_option maxRecDepth 100000 in
set_option maxHeartbeats 1600000 in
theorem with_any (L : Nat → Prop) (N l : Nat) (rows : List (List Nat)) (v : Value) (GA : Option Addr) (gn gc : Nat) (r : List Nat) (hl : l < rows.length) (hM : rows.length ≤ 64) (W : World) (hL : ∀ x, W.heap.size ≤ x → L x) (H : RefAt W L v N rows) (HR : RowAt W L GA gn gc r) :
    Calls Try.prog 38 #[v, .int .i64 (l : Int), .slice GA gn gc] W fun e W' => ∃ v', e = .returned v' ∧ RefAt W' L v' N (rows.set l r) ∧ Ext W W' := by
  obtain ⟨A, n, c, ys, rfl, h1, h2, h3, h4, h5, h6, h7, h8⟩ := H.vals
  have HV := Lib.hid (And.intro h6 (And.intro h7 h8))
  have HR' := Lib.hid HR
  clear h6 h7 h8 H HR
  go_enter Try.func38, Try.ntmps38
  have E3 : Ext W (((W.alloc (.cells #[.int .i64 (N : Int), .slice A n c] 30)).alloc (.cells #[.int .i64 0, .slice none 0 0] 30)).alloc (.cells #[] 41)) := (((Ext.refl W).alloc _).alloc _).alloc _
  have q1 : (l : Int) < (n : Int) := by omega
  go_wp2_with (first
    | (at_builtin; go_loud (refine wpList_append_vals rfl (.tmp 8) (.tmp 10) rfl Try.underlying28 infoRow rfl (by omega) rfl (OwnV.nil (base := W.heap.size + 1 + 1) (g := W.heap.size + 1 + 1) (by omega) (newest2 W _ _ _)) rfl h4 h5 (fun hn => (by obtain ⟨x, e, _, hxl, hc⟩ := HV.out.1 hn; exact ⟨x, 0, e, fun j hj => (E3.cell (p := ⟨x, 0 + j, none⟩) hxl).trans (hc j hj)⟩)) HV.out.2.2 (by simp <;> omega) (by simp <;> omega) ?_; intro v4 w4 o4 g4; obtain ⟨g, cp, rfl, hc1, hc2, hg1, hg2, hg3, hg4, c1, d0, d1, f0, e4⟩ := with_mid h5 (show l < n by omega) o4 g4; have cl := hg3 l (by omega); have fl := hg4 l; have gne1 : g ≠ W.heap.size := (by omega); have gne2 : g ≠ W.heap.size + 1 := (by omega))))
  (try simp only [Exit.inBlock, Exit.then])
  refine bodyPost_ret (v := .agg #[.int .i64 (N : Int), .slice (some ⟨g, 0, none⟩) n cp]) (results_cell1 rfl rfl (by go_simp)) rfl ?_
  have E5 := ((e4.setCell (p := ⟨g, l, none⟩) (by simp <;> omega) (.slice GA gn gc)).setCell (p := ⟨W.heap.size + 1, 0, none⟩) (by simp) (.int .i64 (N : Int))).setCell (p := ⟨W.heap.size + 1, 1, none⟩) (by simp) (.slice (some ⟨g, 0, none⟩) n cp)
  refine ⟨_, rfl, ⟨some ⟨g, 0, none⟩, n, cp, rfl, by rw [List.length_set]; exact h1, hc1, hc2, by simp, fun _ => ⟨g, rfl, hL g (by omega), fun j hj => ?_⟩⟩, E5⟩
  by_cases e : j = l
  · subst e
    refine ⟨GA, gn, gc, ?_, ?_⟩
    · rw [World.cell?_setCell_other _ _ ⟨g, j, none⟩ _ (by simp [Ne.symm gne2]), World.cell?_setCell_other _ _ ⟨g, j, none⟩ _ (by simp [Ne.symm gne2])]
      exact World.cell?_setCell_same _ _ _ cl
    · rw [rowAt_set_same _ _ _ hl]
      exact HR'.out.ext E5
  · obtain ⟨GA', gn', gc', k1, k2⟩ := HV.out.2.1 j hj
    refine ⟨GA', gn', gc', ?_, ?_⟩
    · rw [World.cell?_setCell_other _ _ ⟨g, j, none⟩ _ (by simp [Ne.symm gne2]), World.cell?_setCell_other _ _ ⟨g, j, none⟩ _ (by simp [Ne.symm gne2]), World.cell?_setCell_other _ _ ⟨g, j, none⟩ _ (by simp [Ne.symm e]), hg3 j hj, k1]
    · rw [rowAt_set_other _ _ _ _ e]
      exact k2.ext E5
end Go.Proofs.Ytpcmfgkbfamdoaa
