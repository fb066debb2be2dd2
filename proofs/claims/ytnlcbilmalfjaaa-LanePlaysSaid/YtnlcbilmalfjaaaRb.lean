/- A part of the proof of a law of roundel: contracts of functions and lemmas, each true as it stands; no condition beyond those that its theorems state. -/
import Derived.Test.YtnlcbilmalfjaaaRa
namespace Go.Proofs.Ytnlcbilmalfjaaa
set_option linter.unusedSimpArgs false
set_option linter.unusedVariables false
open Go.RowKit

/-- Where the document finds a node. -/
def findS (rows : List (List Nat)) (n : Int) : Int × Int := if 0 ≤ n ∧ n.toNat ∈ rows.flatten then ((listOf rows n.toNat : Int), (posOf rows n.toNat : Int)) else (-1, -1)

theorem listOf_first {rows : List (List Nat)} {n l : Nat} (h1 : l < rows.length) (h2 : n ∈ rowAt rows l) (h3 : ∀ j, j < l → n ∉ rowAt rows j) : listOf rows n = l := by
  unfold listOf
  refine (List.findIdx_eq h1).2 ⟨?_, fun j hj => ?_⟩
  · simpa [rowAt, List.getD, h1] using h2
  · have := h3 j hj
    simpa [rowAt, List.getD, show j < rows.length by omega] using this
theorem posOf_first {r : List Nat} {n i : Nat} (h1 : i < r.length) (h2 : r.getD i 0 = n) (h3 : ∀ j, j < i → r.getD j 0 ≠ n) : r.idxOf n = i := by
  unfold List.idxOf
  refine (List.findIdx_eq h1).2 ⟨?_, fun j hj => ?_⟩
  · simpa [List.getD, h1] using h2
  · have := h3 j hj
    simpa [List.getD, show j < r.length by omega] using this

section
variable {L : Nat → Prop} {N : Nat} {T : Nat → Int} {rows : List (List Nat)}
set_option maxRecDepth 100000 in
set_option maxHeartbeats 1600000 in
theorem Find_any (v : Value) (n : Int) (W : World) (H : RefL W L v N T rows) :
    Calls Try.prog 39 #[v, .int .i64 n] W fun e W' => e = .returned (.tuple #[.int .i64 (findS rows n).1, .int .i64 (findS rows n).2]) ∧ Ext W W' := by
  obtain ⟨A, m, c, rfl, hlen, hmc, hcm, hAc, hcell⟩ := H
  have HC := Lib.hid hcell
  clear hcell
  go_enter Try.func39, Try.ntmps39
  go_wp2
  go_loopw [11] (fun i wr => ∃ j : Nat, j ≤ m ∧ i = .int .i64 (j : Int) ∧ (∀ j', j' < j → ∀ x ∈ rowAt rows j', (x : Int) ≠ n) ∧ Ext W wr ∧ wr.cell? ⟨W.heap.size, 1, none⟩ = some (.slice A m c)) (fun i _ => m - (intOf i).toNat)
  case atStart => exact ⟨0, by omega, rfl, fun _ h => by omega, (Ext.refl _).alloc _, by simp⟩
  case round =>
    obtain ⟨j, hj, rfl, hno, er, c1⟩ := hrel
    have HN := Lib.hid hno
    clear hno
    by_cases hjm : j < m
    · obtain ⟨x, rfl, hx, hc⟩ := HC.out (by omega)
      obtain ⟨GA, gn, gc, k1, k2⟩ := hc j hjm
      have k1' := (er.cell (p := ⟨x, j, none⟩) (block_lt_of_cell k1)).trans k1
      obtain ⟨r1, r2, r3, r4, r5⟩ := k2
      have q3 : (j : Int) < (m : Int) := by omega
      have HR := Lib.hid r5
      clear hc k1 r5
      generalize wr = w1 at *
      go_wp2_with fail
      go_loopw [20] (fun i wr' => ∃ q : Nat, q ≤ gn ∧ i = .int .i64 (q : Int) ∧ (∀ q', q' < q → (((rowAt rows j).getD q' 0 : Nat) : Int) ≠ n) ∧ wr' = w1) (fun i _ => gn - (intOf i).toNat)
      case atStart => exact ⟨0, by omega, rfl, fun _ h => by omega, rfl⟩
      case round =>
        obtain ⟨q, hq, rfl, hnq, rfl⟩ := hrel
        have HQ := Lib.hid hnq
        clear hnq
        by_cases hqn : q < gn
        · obtain ⟨y, rfl, hy, hyc⟩ := HR.out (by omega)
          have c2 := (hyc q hqn).1
          have c2' := (er.cell (p := ⟨y, q * 2, none⟩) (block_lt_of_cell c2)).trans c2
          obtain ⟨z, hz⟩ : ∃ z, z = (rowAt rows j).getD q 0 := ⟨_, rfl⟩
          rw [← hz] at c2'
          have q4 : (q : Int) < (gn : Int) := by omega
          have HZ := Lib.hid hz
          clear hyc c2 hz
          by_cases p : (z : Int) = n
          · have p' : ((z : Int) == n) = true := by simp [p]
            have P := Lib.hid p
            clear p
            go_wp2_with fail
            go_ret2
            refine ⟨?_, er⟩
            have hzr : z ∈ rowAt rows j := by
              rw [HZ.out, List.getD_eq_getElem?_getD, List.getElem?_eq_getElem (by omega)]
              exact List.getElem_mem _
            have hjl : j < rows.length := by omega
            have e1 : listOf rows z = j := listOf_first hjl hzr (fun j' hj' hm => HN.out j' hj' z hm P.out)
            have e2 : posOf rows z = q := by
              unfold posOf
              rw [e1]
              exact posOf_first (by omega) HZ.out.symm (fun q' hq' e => HQ.out q' hq' (by rw [e]; exact P.out))
            have e3 : findS rows n = ((j : Int), (q : Int)) := by
              unfold findS
              rw [if_pos ⟨by rw [← P.out]; omega, by rw [← P.out]; exact rowAt_mem hjl hzr⟩, ← P.out, Int.toNat_natCast, e1, e2]
            rw [e3]
            rfl
          · have p' : ((z : Int) == n) = false := by simp [p]
            have P := Lib.hid p
            clear p
            go_wp2_with fail
            go_roundw
            case rel =>
              refine ⟨q + 1, by omega, by go_num, fun q' hq' => ?_, trivial⟩
              by_cases e : q' = q
              · rw [e, ← HZ.out]; exact P.out
              · exact HQ.out q' (by omega)
            case measure => simp [intOf]; omega
        · obtain rfl : q = gn := by omega
          go_wp2_with fail
          go_roundw
          case rel =>
            refine ⟨j + 1, by omega, by go_num, fun j' hj' => ?_, er, c1⟩
            by_cases e : j' = j
            · subst e
              intro x hx
              obtain ⟨i, hi, rfl⟩ := List.getElem_of_mem hx
              have := HQ.out i (by omega)
              rwa [List.getD_eq_getElem?_getD, List.getElem?_eq_getElem hi] at this
            · exact HN.out j' (by omega)
          case measure => simp [intOf]; omega
    · obtain rfl : j = m := by omega
      go_wp2_with fail
      go_ret2
      refine ⟨?_, er⟩
      have e3 : findS rows n = (-1, -1) := by
        unfold findS
        rw [if_neg]
        rintro ⟨h0, hm⟩
        obtain ⟨l, hl, hx⟩ := mem_rowAt hm
        exact HN.out l (by omega) _ hx (by omega)
      rw [e3]
      rfl

end

theorem make_rows (n : Nat) (hn : n ≤ 1000) (w : World) : (Instr.makeSlice 42 (.int .i64 (n : Int)) (.int .i64 (n : Int))).run Try.prog w = .ok (.slice (some ⟨w.heap.size, 0, none⟩) n n) (w.alloc (.cells (Go.madeCells #[.slice none 0 0] n) 69)) := by
  obtain ⟨i, hi, hz, hs, hb⟩ := info_parts (P := Try.prog) (e := 69) (z := .slice none 0 0) (size := 1) (bytes := 24) (by kernel_rfl)
  have z := run_make (P := Try.prog) w 42 69 i _ Try.underlying42 hi hz .i64 .i64 (n : Int) (n : Int) (by omega) (Int.le_refl _) (by rw [hb]; omega) (by omega)
  rw [hs] at z
  simpa [Value.cells] using z
theorem zRows_get (n i : Nat) (h : i < n) : (madeCells #[Value.slice none 0 0] n)[i]? = some (.slice none 0 0) := by
  unfold madeCells
  rw [Array.getElem?_map]
  have : (Array.range n)[i]? = some i := by simp [h]
  rw [this]
  simp [Nat.mod_one]
theorem rowAt_replicate (M l : Nat) : rowAt (List.replicate M []) l = [] := by
  simp only [rowAt, List.getD, List.getElem?_replicate]
  split <;> rfl

set_option maxRecDepth 100000 in
theorem RNew_ok (N M : Nat) (h1 : 1 ≤ N) (h2 : N ≤ 64) (h3 : 1 ≤ M) (h4 : M ≤ 64) (W : World) :
    Calls Try.prog 19 #[.int .i64 (M : Int), .int .i64 (N : Int)] W fun e W' => ∃ v, e = .returned (.tuple #[v, .int .i64 0]) ∧ RefL W' (fun x => W.heap.size ≤ x) v N (fun _ => 0) (List.replicate M []) ∧ Ext W W' := by
  have k2 := make_rows M (by omega)
  have p1 : (1 : Int) ≤ (N : Int) := by omega
  have p2 : (N : Int) ≤ 64 := by omega
  have p3 : (1 : Int) ≤ (M : Int) := by omega
  have p4 : (M : Int) ≤ 64 := by omega
  go_enter Try.func19, Try.ntmps19
  go_wp2
  (try simp only [Exit.inBlock, Exit.then])
  refine bodyPost_ret (v := .tuple #[.agg #[.int .i64 (N : Int), .slice (some ⟨W.heap.size + 1, 0, none⟩) M M], .int .i64 0]) (by rw [results_cell_tmp rfl]; go_simp) rfl ?_
  have hE : Ext W ((W.alloc (.cells #[.int .i64 (N : Int), .slice (some ⟨W.heap.size + 1, 0, none⟩) M M] 44)).alloc (.cells (madeCells #[.slice none 0 0] M) 69)) := ((Ext.refl W).alloc _).alloc _
  refine ⟨_, rfl, ⟨some ⟨W.heap.size + 1, 0, none⟩, M, M, rfl, by simp, Nat.le_refl _, by omega, by simp, fun _ => ⟨W.heap.size + 1, rfl, by omega, fun j hj => ⟨none, 0, 0, ?_, ?_⟩⟩⟩, hE⟩
  · have z := World.cell?_alloc_new (W.alloc (.cells #[.int .i64 (N : Int), .slice (some ⟨W.heap.size + 1, 0, none⟩) M M] 44)) (madeCells #[.slice none 0 0] M) 69 j
    rw [show (W.alloc (.cells #[.int .i64 (N : Int), .slice (some ⟨W.heap.size + 1, 0, none⟩) M M] 44)).heap.size = W.heap.size + 1 by simp] at z
    rw [z]
    exact zRows_get M j hj
  · rw [rowAt_replicate]
    exact ⟨rfl, Nat.le_refl _, by omega, fun _ => rfl, by omega⟩

theorem newest2 (W : World) (a b c : Obj) : (((W.alloc a).alloc b).alloc c).heap[W.heap.size + 1 + 1]? = some c := by
  have z := heap_alloc_new ((W.alloc a).alloc b) c
  rwa [show ((W.alloc a).alloc b).heap.size = W.heap.size + 1 + 1 by simp] at z
section
variable (W : World) (a b c : Array Value) (ta tb tc : TypeId) (i : Nat)
theorem three1 : (((W.alloc (.cells a ta)).alloc (.cells b tb)).alloc (.cells c tc)).cell? ⟨W.heap.size, i, none⟩ = a[i]? := by
  rw [World.cell?_alloc_past _ _ _ (by simp <;> omega), World.cell?_alloc_past _ _ _ (by simp), World.cell?_alloc_new]
theorem three2 : (((W.alloc (.cells a ta)).alloc (.cells b tb)).alloc (.cells c tc)).cell? ⟨W.heap.size + 1, i, none⟩ = b[i]? := by
  rw [World.cell?_alloc_past _ _ _ (by simp)]
  have z := World.cell?_alloc_new (W.alloc (.cells a ta)) b tb i
  rwa [show (W.alloc (.cells a ta)).heap.size = W.heap.size + 1 by simp] at z
theorem three2z : (((W.alloc (.cells a ta)).alloc (.cells b tb)).alloc (.cells c tc)).frozen? ⟨W.heap.size + 1, i, none⟩ = false := by
  rw [World.frozen?_alloc_past _ _ _ (by simp)]
  have z := World.frozen?_alloc_new (W.alloc (.cells a ta)) b tb i
  rwa [show (W.alloc (.cells a ta)).heap.size = W.heap.size + 1 by simp] at z
end
theorem RefL.vals {W : World} {L : Nat → Prop} {N : Nat} {T : Nat → Int} {v : Value} {rows : List (List Nat)} (H : RefL W L v N T rows) : ∃ A n c ys, v = .agg #[.int .i64 (N : Int), .slice A n c] ∧ rows.length = n ∧ n ≤ c ∧ c ≤ 9223372036854775807 ∧ (A = none → c = 0) ∧ List.length ys = n ∧
    (0 < n → ∃ x, A = some ⟨x, 0, none⟩ ∧ L x ∧ x < W.heap.size ∧ ∀ j, j < n → W.cell? ⟨x, 0 + j, none⟩ = some (ys.getD j undef)) ∧ (∀ j, j < n → ∃ GA gn gc, ys.getD j undef = .slice GA gn gc ∧ RowL W L GA gn gc T (rowAt rows j)) ∧ ∀ u ∈ ys, u.oneCell' = true := by
  obtain ⟨A, n, c, rfl, h1, h2, h3, h4, h5⟩ := H
  by_cases hn : 0 < n
  · obtain ⟨x, rfl, hx, hc⟩ := h5 hn
    have hc' : ∀ j, j < n → ∃ u : Value, (∃ GA gn gc, u = .slice GA gn gc ∧ RowL W L GA gn gc T (rowAt rows j)) ∧ W.cell? ⟨x, j, none⟩ = some u := fun j hj => by
      obtain ⟨GA, gn, gc, k1, k2⟩ := hc j hj
      exact ⟨_, ⟨GA, gn, gc, rfl, k2⟩, k1⟩
    have : ∃ f : Nat → Value, ∀ j, j < n → (∃ GA gn gc, f j = .slice GA gn gc ∧ RowL W L GA gn gc T (rowAt rows j)) ∧ W.cell? ⟨x, j, none⟩ = some (f j) := by
      refine ⟨fun j => if h : j < n then Classical.choose (hc' j h) else undef, fun j hj => ?_⟩
      simp only [hj, dif_pos]
      exact Classical.choose_spec (hc' j hj)
    obtain ⟨f, hf⟩ := this
    have e : ∀ j, j < n → ((List.range n).map f).getD j undef = f j := fun j hj => by simp [List.getD, hj]
    refine ⟨_, n, c, (List.range n).map f, rfl, h1, h2, h3, h4, by simp, fun _ => ⟨x, rfl, hx, ?_, fun j hj => ?_⟩, fun j hj => ?_, fun u hu => ?_⟩
    · exact block_lt_of_cell (hf 0 hn).2
    · rw [Nat.zero_add, e j hj]; exact (hf j hj).2
    · rw [e j hj]; exact (hf j hj).1
    · obtain ⟨j, hj, rfl⟩ := List.mem_map.1 hu
      obtain ⟨⟨GA, gn, gc, k, _⟩, _⟩ := hf j (List.mem_range.1 hj)
      rw [k]; rfl
  · have hn0 : n = 0 := by omega
    exact ⟨A, n, c, [], rfl, h1, h2, h3, h4, by simp [hn0], fun h => absurd h hn, fun j hj => by omega, by simp⟩

theorem with_mid {W w4 : World} {v4 : Value} {ys : List Value} {n N l : Nat} {A : Option Addr} {c : Nat} (h5 : ys.length = n) (hl : l < n) (o4 : OwnS w4 (W.heap.size + 1 + 1) 69 1 v4 (0 + n) ([] ++ ys))
    (g4 : (((W.alloc (.cells #[.int .i64 (N : Int), .slice A n c] 44)).alloc (.cells #[.int .i64 0, .slice none 0 0] 44)).alloc (.cells #[] 69)).grownBy w4 (Value.slice (some ⟨W.heap.size + 1 + 1, 0, none⟩) 0 0).ownBlock) :
    ∃ g cp, v4 = .slice (some ⟨g, 0, none⟩) n cp ∧ n ≤ cp ∧ cp ≤ 9223372036854775807 ∧ W.heap.size + 1 + 1 ≤ g ∧ g < w4.heap.size ∧ (∀ j, j < n → w4.cell? ⟨g, j, none⟩ = some (ys.getD j undef)) ∧ (∀ j, w4.frozen? ⟨g, j, none⟩ = false) ∧
      w4.cell? ⟨W.heap.size, 0, none⟩ = some (.int .i64 (N : Int)) ∧ w4.cell? ⟨W.heap.size + 1, 0, none⟩ = some (.int .i64 0) ∧ w4.cell? ⟨W.heap.size + 1, 1, none⟩ = some (.slice none 0 0) ∧ (∀ o, w4.frozen? ⟨W.heap.size + 1, o, none⟩ = false) ∧ Ext W w4 := by
  rw [List.nil_append, Nat.zero_add] at o4
  obtain ⟨B4, cp, rfl, hc1, hc2, -, hc4⟩ := o4.cells
  obtain ⟨g, rfl, hg1, hg2, hg3, hg4⟩ := hc4 (by omega)
  simp only [Nat.mul_one] at hg3
  have hbk : ∀ x, x < W.heap.size + 1 + 1 → w4.heap[x]? = (((W.alloc (.cells #[.int .i64 (N : Int), .slice A n c] 44)).alloc (.cells #[.int .i64 0, .slice none 0 0] 44)).alloc (.cells #[] 69)).heap[x]? :=
    fun x hx => g4.block x (by simp; omega) (by simp [Value.ownBlock]; omega)
  refine ⟨g, cp, rfl, hc1, hc2, hg1, hg2, hg3, hg4, (World.cell?_of_block (a := ⟨W.heap.size, 0, none⟩) (hbk W.heap.size (by omega))).trans ((three1 ..).trans rfl), (World.cell?_of_block (a := ⟨W.heap.size + 1, 0, none⟩) (hbk (W.heap.size + 1) (by omega))).trans ((three2 ..).trans rfl),
    (World.cell?_of_block (a := ⟨W.heap.size + 1, 1, none⟩) (hbk (W.heap.size + 1) (by omega))).trans ((three2 ..).trans rfl), fun o => (World.frozen?_of_block (a := ⟨W.heap.size + 1, o, none⟩) (hbk (W.heap.size + 1) (by omega))).trans (three2z ..), ?_⟩
  exact ((((Ext.refl W).alloc _).alloc _).alloc _).grown g4 (fun k hk => by simp [Value.ownBlock] at hk; omega)

set_option maxRecDepth 100000 in
set_option maxHeartbeats 1600000 in
theorem with_any (L : Nat → Prop) (N l : Nat) (rows : List (List Nat)) (v : Value) (GA : Option Addr) (gn gc : Nat) (r : List Nat) (T : Nat → Int) (hl : l < rows.length) (hM : rows.length ≤ 64) (W : World) (hL : ∀ x, W.heap.size ≤ x → L x) (H : RefL W L v N T rows) (HR : RowL W L GA gn gc T r) :
    Calls Try.prog 40 #[v, .int .i64 (l : Int), .slice GA gn gc] W fun e W' => ∃ v', e = .returned v' ∧ RefL W' L v' N T (rows.set l r) ∧ Ext W W' := by
  obtain ⟨A, n, c, ys, rfl, h1, h2, h3, h4, h5, h6, h7, h8⟩ := H.vals
  have HV := Lib.hid (And.intro h6 (And.intro h7 h8))
  have HR' := Lib.hid HR
  clear h6 h7 h8 H HR
  go_enter Try.func40, Try.ntmps40
  have E3 : Ext W (((W.alloc (.cells #[.int .i64 (N : Int), .slice A n c] 44)).alloc (.cells #[.int .i64 0, .slice none 0 0] 44)).alloc (.cells #[] 69)) := (((Ext.refl W).alloc _).alloc _).alloc _
  have q1 : (l : Int) < (n : Int) := by omega
  go_wp2_with (first
    | (at_builtin; go_loud (refine wpList_append_sz rfl (.tmp 8) (.tmp 10) rfl Try.underlying42 infoRow rfl (by omega) (by omega) rfl (OwnS.nil (base := W.heap.size + 1 + 1) (g := W.heap.size + 1 + 1) (by omega) (newest2 W _ _ _)) rfl h4 (by rw [h5]; omega) (fun hn => (by obtain ⟨x, e, _, hxl, hc⟩ := HV.out.1 hn; exact ⟨x, 0, e, fun j hj => (E3.cell (p := ⟨x, 0 + j, none⟩) hxl).trans (hc j (by omega))⟩)) HV.out.2.2 (by simp <;> omega) (by simp <;> omega) ?_; intro v4 w4 o4 g4; obtain ⟨g, cp, rfl, hc1, hc2, hg1, hg2, hg3, hg4, c1, d0, d1, f0, e4⟩ := with_mid h5 (show l < n by omega) o4 g4; have cl := hg3 l (by omega); have fl := hg4 l; have gne1 : g ≠ W.heap.size := (by omega); have gne2 : g ≠ W.heap.size + 1 := (by omega))))
  (try simp only [Exit.inBlock, Exit.then])
  refine bodyPost_ret (v := .agg #[.int .i64 (N : Int), .slice (some ⟨g, 0, none⟩) n cp]) (results_cell1 rfl rfl (by go_simp)) rfl ?_
  have E5 := ((e4.setCell (p := ⟨g, l, none⟩) (by simp <;> omega) (.slice GA gn gc)).setCell (p := ⟨W.heap.size + 1, 0, none⟩) (by simp) (.int .i64 (N : Int))).setCell (p := ⟨W.heap.size + 1, 1, none⟩) (by simp) (.slice (some ⟨g, 0, none⟩) n cp)
  refine ⟨_, rfl, ⟨some ⟨g, 0, none⟩, n, cp, rfl, by rw [List.length_set]; exact h1, hc1, hc2, by simp, fun _ => ⟨g, rfl, hL g (by omega), fun j hj => ?_⟩⟩, E5⟩
  by_cases e : j = l
  · subst e
    refine ⟨GA, gn, gc, ?_, ?_⟩
    · rw [World.cell?_setCell_other _ _ ⟨g, j, none⟩ _ (by simp [Ne.symm gne2]), World.cell?_setCell_other _ _ ⟨g, j, none⟩ _ (by simp [Ne.symm gne2])]
      exact World.cell?_setCell_same _ _ _ cl
    · rw [rowAt_set_same _ _ _ hl]
      exact HR'.out.ext E5
  · obtain ⟨GA', gn', gc', k1, k2⟩ := HV.out.2.1 j hj
    refine ⟨GA', gn', gc', ?_, ?_⟩
    · rw [World.cell?_setCell_other _ _ ⟨g, j, none⟩ _ (by simp [Ne.symm gne2]), World.cell?_setCell_other _ _ ⟨g, j, none⟩ _ (by simp [Ne.symm gne2]), World.cell?_setCell_other _ _ ⟨g, j, none⟩ _ (by simp [Ne.symm e]), hg3 j hj, k1]
    · rw [rowAt_set_other _ _ _ _ e]
      exact k2.ext E5
end Go.Proofs.Ytnlcbilmalfjaaa
