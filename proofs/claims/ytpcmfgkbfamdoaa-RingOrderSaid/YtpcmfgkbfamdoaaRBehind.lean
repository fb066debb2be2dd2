/- A part of the proof of a law of roundel: contracts of functions and lemmas, each true as it stands; no condition beyond those that its theorems state. -/
import Derived.Test.YtpcmfgkbfamdoaaRPush
namespace Go.Proofs.Ytpcmfgkbfamdoaa
set_option linter.unusedSimpArgs false
set_option linter.unusedVariables false
open Go.RowKit

theorem RDrop_any (L : Nat → Prop) (N : Nat) (rows : List (List Nat)) (v : Value) (node : Int) (hM : rows.length ≤ 64) (hR : ∀ l, (rowAt rows l).length ≤ 64) (W : World) (hL : ∀ x, W.heap.size ≤ x → L x) (H : RefAt W L v N rows) :
    Calls Try.prog 27 #[v, .int .i64 node] W fun e W' => ∃ v', e = .returned (.tuple #[v', .int .i64 (dropS N rows node).2]) ∧ RefAt W' L v' N (dropS N rows node).1 ∧ Ext W W' := by
  by_cases p2 : 0 ≤ node ∧ node < (N : Int)
  · obtain ⟨m, rfl⟩ := Int.eq_ofNat_of_zero_le p2.1
    have hm : m < N := by omega
    by_cases p3 : m ∈ rows.flatten
    · have hs : dropS N rows (m : Int) = (rows.set (listOf rows m) ((rowAt rows (listOf rows m)).take (posOf rows m) ++ (rowAt rows (listOf rows m)).drop (posOf rows m + 1)), 0) := by
        unfold dropS
        rw [if_pos p2, if_pos (by simpa using p3)]
        rfl
      rw [hs]
      exact rdrop_in L N _ _ m rows v hm p3 rfl rfl hM (hR _) W hL H
    · have hs : dropS N rows (m : Int) = (rows, 10) := by
        unfold dropS
        rw [if_pos p2, if_neg (by simpa using p3)]
      rw [hs]
      have H0 := Lib.hid H
      obtain ⟨A, n, c, rfl, h1, h2, h3, h4, h5⟩ := H
      have E2 : Ext W ((W.alloc (.cells #[.int .i64 (N : Int), .slice A n c] 30)).alloc (.cells #[.int .i64 0, .slice none 0 0] 30)) := ((Ext.refl W).alloc _).alloc _
      have HDc := Lib.hid (decide_eq_false p3)
      clear p2 p3 hs h5
      go_enter Try.func27, Try.ntmps27
      go_wp2_with fail
      refine (wrong_in (rows := rows) (L := L) _ m true hm _ (H0.out.ext E2)).mono ?_
      rintro e u1 ⟨he, y1⟩
      obtain ⟨z0, z0f⟩ := Ext.cells y1
      have zs := y1.sz
      have b0 : u1.cell? ⟨W.heap.size, 0, none⟩ = some (.int .i64 (N : Int)) := (z0 _ _ (by simp <;> omega)).trans ((two1 ..).trans rfl)
      have b1 : u1.cell? ⟨W.heap.size, 1, none⟩ = some (.slice A n c) := (z0 _ _ (by simp <;> omega)).trans ((two1 ..).trans rfl)
      have d0 : u1.cell? ⟨W.heap.size + 1, 0, none⟩ = some (.int .i64 0) := (z0 _ _ (by simp <;> omega)).trans ((two2 ..).trans rfl)
      have d1 : u1.cell? ⟨W.heap.size + 1, 1, none⟩ = some (.slice none 0 0) := (z0 _ _ (by simp <;> omega)).trans ((two2 ..).trans rfl)
      have fz : ∀ o, u1.frozen? ⟨W.heap.size + 1, o, none⟩ = false := fun o => (z0f _ _ (by simp <;> omega)).trans (two2z ..)
      have ex : Ext W u1 := E2.trans y1
      rw [HDc.out] at he
      simp only [Bool.false_eq_true, if_false] at he
      subst he
      go_wp2_with fail
      (try simp only [Exit.inBlock, Exit.then])
      refine bodyPost_ret (v := .tuple #[.agg #[.int .i64 (N : Int), .slice A n c], .int .i64 10]) (by rw [results_cell_tmp rfl]; go_simp) rfl ?_
      exact ⟨_, rfl, (H0.out.after ex _ _).1, (H0.out.after ex _ _).2⟩
  · have hs : dropS N rows node = (rows, 14) := by
      unfold dropS
      rw [if_neg p2]
    rw [hs]
    have H0 := Lib.hid H
    obtain ⟨A, n, c, rfl, h1, h2, h3, h4, h5⟩ := H
    have E2 : Ext W ((W.alloc (.cells #[.int .i64 (N : Int), .slice A n c] 30)).alloc (.cells #[.int .i64 0, .slice none 0 0] 30)) := ((Ext.refl W).alloc _).alloc _
    clear hs h5
    go_enter Try.func27, Try.ntmps27
    go_wp2_with fail
    refine (wrong_out (rows := rows) (L := L) _ node true p2 _ (H0.out.ext E2)).mono ?_
    rintro e u1 ⟨he, y1⟩
    obtain ⟨z0, z0f⟩ := Ext.cells y1
    have zs := y1.sz
    have b0 : u1.cell? ⟨W.heap.size, 0, none⟩ = some (.int .i64 (N : Int)) := (z0 _ _ (by simp <;> omega)).trans ((two1 ..).trans rfl)
    have b1 : u1.cell? ⟨W.heap.size, 1, none⟩ = some (.slice A n c) := (z0 _ _ (by simp <;> omega)).trans ((two1 ..).trans rfl)
    have d0 : u1.cell? ⟨W.heap.size + 1, 0, none⟩ = some (.int .i64 0) := (z0 _ _ (by simp <;> omega)).trans ((two2 ..).trans rfl)
    have d1 : u1.cell? ⟨W.heap.size + 1, 1, none⟩ = some (.slice none 0 0) := (z0 _ _ (by simp <;> omega)).trans ((two2 ..).trans rfl)
    have fz : ∀ o, u1.frozen? ⟨W.heap.size + 1, o, none⟩ = false := fun o => (z0f _ _ (by simp <;> omega)).trans (two2z ..)
    have ex : Ext W u1 := E2.trans y1
    subst he
    go_wp2_with fail
    (try simp only [Exit.inBlock, Exit.then])
    refine bodyPost_ret (v := .tuple #[.agg #[.int .i64 (N : Int), .slice A n c], .int .i64 14]) (by rw [results_cell_tmp rfl]; go_simp) rfl ?_
    exact ⟨_, rfl, (H0.out.after ex _ _).1, (H0.out.after ex _ _).2⟩

set_option maxRecDepth 100000 in
set_option maxHeartbeats 1600000 in
theorem RBehind_any (L : Nat → Prop) (N : Nat) (rows : List (List Nat)) (v : Value) (a node : Int) (hM : rows.length ≤ 64) (hR : ∀ l, (rowAt rows l).length ≤ 64) (W : World) (hL : ∀ x, W.heap.size ≤ x → L x) (H : RefAt W L v N rows) :
    Calls Try.prog 26 #[v, .int .i64 a, .int .i64 node] W fun e W' => ∃ v', e = .returned (.tuple #[v', .int .i64 (behindS N rows a node).2]) ∧ RefAt W' L v' N (behindS N rows a node).1 ∧ Ext W W' := by
  have H0 := Lib.hid H
  obtain ⟨A, n, c, rfl, h1, h2, h3, h4, h5⟩ := H
  clear h5
  have E2 : Ext W ((W.alloc (.cells #[.int .i64 (N : Int), .slice A n c] 30)).alloc (.cells #[.int .i64 0, .slice none 0 0] 30)) := ((Ext.refl W).alloc _).alloc _
  have E3 : Ext W ((W.alloc (.cells #[.int .i64 (N : Int), .slice A n c] 30)).alloc (.cells #[.int .i64 (N : Int), .slice A n c] 30)) := ((Ext.refl W).alloc _).alloc _
  by_cases p1 : 0 ≤ a ∧ a < (N : Int)
  · obtain ⟨x, rfl⟩ := Int.eq_ofNat_of_zero_le p1.1
    have hx : x < N := by omega
    have hx' : (x : Int) < (N : Int) := by omega
    by_cases p2 : 0 ≤ node ∧ node < (N : Int)
    · obtain ⟨m, rfl⟩ := Int.eq_ofNat_of_zero_le p2.1
      have hm : m < N := by omega
      have hm' : (m : Int) < (N : Int) := by omega
      by_cases p3 : x ∈ rows.flatten
      · by_cases p4 : m ∈ rows.flatten
        · have hs : behindS N rows (x : Int) (m : Int) = (rows, 10) := by
            unfold behindS
            rw [if_pos ⟨p1, p2⟩, if_neg (by simp [p4])]
          rw [hs]
          have HDc := Lib.hid (decide_eq_true p3)
          have HDm := Lib.hid (decide_eq_true p4)
          clear p1 p2 p3 p4 hs
          go_enter Try.func26, Try.ntmps26
          go_wp2_with fail
          refine (wrong_in (rows := rows) (L := L) _ x true hx _ (H0.out.ext E2)).mono ?_
          rintro e u1 ⟨he, y1⟩
          obtain ⟨z0, z0f⟩ := Ext.cells y1
          have zs := y1.sz
          have b0 : u1.cell? ⟨W.heap.size, 0, none⟩ = some (.int .i64 (N : Int)) := (z0 _ _ (by simp <;> omega)).trans ((two1 ..).trans rfl)
          have b1 : u1.cell? ⟨W.heap.size, 1, none⟩ = some (.slice A n c) := (z0 _ _ (by simp <;> omega)).trans ((two1 ..).trans rfl)
          have d0 : u1.cell? ⟨W.heap.size + 1, 0, none⟩ = some (.int .i64 0) := (z0 _ _ (by simp <;> omega)).trans ((two2 ..).trans rfl)
          have d1 : u1.cell? ⟨W.heap.size + 1, 1, none⟩ = some (.slice none 0 0) := (z0 _ _ (by simp <;> omega)).trans ((two2 ..).trans rfl)
          have fz : ∀ o, u1.frozen? ⟨W.heap.size + 1, o, none⟩ = false := fun o => (z0f _ _ (by simp <;> omega)).trans (two2z ..)
          have ex : Ext W u1 := E2.trans y1
          rw [HDc.out] at he
          simp only [if_true] at he
          subst he
          go_wp2_with fail
          refine (wrong_in (rows := rows) (L := L) _ m false hm _ (H0.out.ext ex)).mono ?_
          rintro e u2 ⟨he, y2⟩
          rw [HDm.out] at he
          simp only [Bool.true_eq_false, if_false] at he
          subst he
          have sz1 : W.heap.size + 1 < u1.heap.size := by simp at zs; omega
          have b0' := (y2.cell (p := ⟨W.heap.size, 0, none⟩) (show W.heap.size < _ by omega)).trans b0
          have b1' := (y2.cell (p := ⟨W.heap.size, 1, none⟩) (show W.heap.size < _ by omega)).trans b1
          have d0' := (y2.cell (p := ⟨W.heap.size + 1, 0, none⟩) sz1).trans d0
          have d1' := (y2.cell (p := ⟨W.heap.size + 1, 1, none⟩) sz1).trans d1
          have fz' := fun o => (Below.frozen (p := ⟨W.heap.size + 1, o, none⟩) y2 sz1).trans (fz o)
          go_wp2_with fail
          (try simp only [Exit.inBlock, Exit.then])
          refine bodyPost_ret (v := .tuple #[.agg #[.int .i64 (N : Int), .slice A n c], .int .i64 10]) (by rw [results_cell_tmp rfl]; go_simp) rfl ?_
          exact ⟨_, rfl, (H0.out.after (ex.trans y2) _ _).1, (H0.out.after (ex.trans y2) _ _).2⟩
        · have hs : behindS N rows (x : Int) (m : Int) = (rows.set (listOf rows x) ((rowAt rows (listOf rows x)).take (posOf rows x + 1) ++ m :: (rowAt rows (listOf rows x)).drop (posOf rows x + 1)), 0) := by
            unfold behindS
            rw [if_pos ⟨p1, p2⟩, if_pos (by simp [p3, p4])]
            rfl
          rw [hs]
          have hfind : findS rows (x : Int) = ((listOf rows x : Int), (posOf rows x : Int)) := by
            unfold findS
            rw [if_pos ⟨by omega, by simpa using p3⟩]
            rfl
          obtain ⟨l, hl⟩ : ∃ l, l = listOf rows x := ⟨_, rfl⟩
          obtain ⟨i, hi⟩ : ∃ i, i = posOf rows x := ⟨_, rfl⟩
          rw [← hl, ← hi] at hfind ⊢
          have hll : l < rows.length := by rw [hl]; exact listOf_lt p3
          have hil : i < (rowAt rows l).length := by rw [hi]; unfold posOf; rw [← hl]; exact List.idxOf_lt_length_of_mem (by rw [hl]; exact listOf_mem p3)
          have hrl := hR l
          have wi : IntKind.i64.wrap ((i : Int) + 1) = (i : Int) + 1 := IntWalk.i64_in _ (by omega)
          have HDc := Lib.hid (decide_eq_true p3)
          have HDm := Lib.hid (decide_eq_false p4)
          have HF := Lib.hid hfind
          clear p1 p2 p3 p4 hs hl hi hfind
          go_enter Try.func26, Try.ntmps26
          go_wp2_with fail
          refine (wrong_in (rows := rows) (L := L) _ x true hx _ (H0.out.ext E2)).mono ?_
          rintro e u1 ⟨he, y1⟩
          obtain ⟨z0, z0f⟩ := Ext.cells y1
          have zs := y1.sz
          have b0 : u1.cell? ⟨W.heap.size, 0, none⟩ = some (.int .i64 (N : Int)) := (z0 _ _ (by simp <;> omega)).trans ((two1 ..).trans rfl)
          have b1 : u1.cell? ⟨W.heap.size, 1, none⟩ = some (.slice A n c) := (z0 _ _ (by simp <;> omega)).trans ((two1 ..).trans rfl)
          have d0 : u1.cell? ⟨W.heap.size + 1, 0, none⟩ = some (.int .i64 0) := (z0 _ _ (by simp <;> omega)).trans ((two2 ..).trans rfl)
          have d1 : u1.cell? ⟨W.heap.size + 1, 1, none⟩ = some (.slice none 0 0) := (z0 _ _ (by simp <;> omega)).trans ((two2 ..).trans rfl)
          have fz : ∀ o, u1.frozen? ⟨W.heap.size + 1, o, none⟩ = false := fun o => (z0f _ _ (by simp <;> omega)).trans (two2z ..)
          have ex : Ext W u1 := E2.trans y1
          rw [HDc.out] at he
          simp only [if_true] at he
          subst he
          go_wp2_with fail
          refine (wrong_in (rows := rows) (L := L) _ m false hm _ (H0.out.ext ex)).mono ?_
          rintro e u2 ⟨he, y2⟩
          rw [HDm.out] at he
          simp only [if_true] at he
          subst he
          have sz1 : W.heap.size + 1 < u1.heap.size := by simp at zs; omega
          have b0' := (y2.cell (p := ⟨W.heap.size, 0, none⟩) (show W.heap.size < _ by omega)).trans b0
          have b1' := (y2.cell (p := ⟨W.heap.size, 1, none⟩) (show W.heap.size < _ by omega)).trans b1
          go_wp2_with fail
          refine (Find_any (rows := rows) (L := L) (N := N) _ (x : Int) _ (H0.out.ext (ex.trans y2))).mono ?_
          rintro e u3 ⟨he, y3⟩
          rw [HF.out] at he
          dsimp only at he
          subst he
          have y13 := y2.trans y3
          have s13 := y13.sz
          have b0'' := (y13.cell (p := ⟨W.heap.size, 0, none⟩) (show W.heap.size < _ by omega)).trans b0
          have b1'' := (y13.cell (p := ⟨W.heap.size, 1, none⟩) (show W.heap.size < _ by omega)).trans b1
          go_wp2_with fail
          rw [show (i : Int) + 1 = ((i + 1 : Nat) : Int) by omega]
          refine (rput_any (fun y => L y ∧ y ≠ W.heap.size + 1) N l (i + 1) m rows _ hll hM (by omega) hrl u3 (fun y hy => ⟨hL y (by omega), by omega⟩) ((H0.out.mono (fun y hy hlt => ⟨hy, by omega⟩)).ext (ex.trans y13))).mono ?_
          rintro e w4 ⟨v4, rfl, R4, e4⟩
          obtain ⟨A4, n4, c4, rfl, -⟩ := id R4
          have E4 := y13.trans e4
          have d0' := (E4.cell (p := ⟨W.heap.size + 1, 0, none⟩) sz1).trans d0
          have d1' := (E4.cell (p := ⟨W.heap.size + 1, 1, none⟩) sz1).trans d1
          have fz' := fun o => (Below.frozen (p := ⟨W.heap.size + 1, o, none⟩) E4 sz1).trans (fz o)
          go_wp2_with fail
          (try simp only [Exit.inBlock, Exit.then])
          refine bodyPost_ret (v := .tuple #[.agg #[.int .i64 (N : Int), .slice A4 n4 c4], .int .i64 0]) (by rw [results_cell_tmp rfl]; go_simp) rfl ?_
          refine ⟨_, rfl, ?_, ((ex.trans E4).setCell (p := ⟨W.heap.size + 1, 0, none⟩) (by simp) _).setCell (p := ⟨W.heap.size + 1, 1, none⟩) (by simp) _⟩
          refine (R4.kept (fun y hy hlt => ?_)).mono (fun y hy _ => hy.1)
          rw [Below.heap_setCell _ _ _ _ hy.2, Below.heap_setCell _ _ _ _ hy.2]
      · have hs : behindS N rows (x : Int) (m : Int) = (rows, 10) := by
          unfold behindS
          rw [if_pos ⟨p1, p2⟩, if_neg (by simp [p3])]
        rw [hs]
        have HDc := Lib.hid (decide_eq_false p3)
        clear p1 p2 p3 hs
        go_enter Try.func26, Try.ntmps26
        go_wp2_with fail
        refine (wrong_in (rows := rows) (L := L) _ x true hx _ (H0.out.ext E2)).mono ?_
        rintro e u1 ⟨he, y1⟩
        obtain ⟨z0, z0f⟩ := Ext.cells y1
        have zs := y1.sz
        have b0 : u1.cell? ⟨W.heap.size, 0, none⟩ = some (.int .i64 (N : Int)) := (z0 _ _ (by simp <;> omega)).trans ((two1 ..).trans rfl)
        have b1 : u1.cell? ⟨W.heap.size, 1, none⟩ = some (.slice A n c) := (z0 _ _ (by simp <;> omega)).trans ((two1 ..).trans rfl)
        have d0 : u1.cell? ⟨W.heap.size + 1, 0, none⟩ = some (.int .i64 0) := (z0 _ _ (by simp <;> omega)).trans ((two2 ..).trans rfl)
        have d1 : u1.cell? ⟨W.heap.size + 1, 1, none⟩ = some (.slice none 0 0) := (z0 _ _ (by simp <;> omega)).trans ((two2 ..).trans rfl)
        have fz : ∀ o, u1.frozen? ⟨W.heap.size + 1, o, none⟩ = false := fun o => (z0f _ _ (by simp <;> omega)).trans (two2z ..)
        have ex : Ext W u1 := E2.trans y1
        rw [HDc.out] at he
        simp only [Bool.false_eq_true, if_false] at he
        subst he
        go_wp2_with fail
        (try simp only [Exit.inBlock, Exit.then])
        refine bodyPost_ret (v := .tuple #[.agg #[.int .i64 (N : Int), .slice A n c], .int .i64 10]) (by rw [results_cell_tmp rfl]; go_simp) rfl ?_
        exact ⟨_, rfl, (H0.out.after ex _ _).1, (H0.out.after ex _ _).2⟩
    · have hs : behindS N rows (x : Int) node = (rows, 14) := by
        unfold behindS
        rw [if_neg (fun h => p2 h.2)]
      rw [hs]
      go_enter Try.func26, Try.ntmps26
      by_cases p4 : node < 0
      · clear p1 p2 hs
        go_wp2_with fail
        (try simp only [Exit.inBlock, Exit.then])
        refine bodyPost_ret (v := .tuple #[.agg #[.int .i64 (N : Int), .slice A n c], .int .i64 14]) (by rw [results_cell_tmp rfl]; go_simp) rfl ?_
        exact ⟨_, rfl, H0.out.ext E3, E3⟩
      · have p5 : 0 ≤ node := by omega
        have p6 : (N : Int) ≤ node := by omega
        clear p1 p2 hs p4
        go_wp2_with fail
        (try simp only [Exit.inBlock, Exit.then])
        refine bodyPost_ret (v := .tuple #[.agg #[.int .i64 (N : Int), .slice A n c], .int .i64 14]) (by rw [results_cell_tmp rfl]; go_simp) rfl ?_
        exact ⟨_, rfl, H0.out.ext E3, E3⟩
  · have hs : behindS N rows a node = (rows, 14) := by
      unfold behindS
      rw [if_neg (fun h => p1 h.1)]
    rw [hs]
    go_enter Try.func26, Try.ntmps26
    by_cases p4 : a < 0
    · clear p1 hs
      go_wp2_with fail
      (try simp only [Exit.inBlock, Exit.then])
      refine bodyPost_ret (v := .tuple #[.agg #[.int .i64 (N : Int), .slice A n c], .int .i64 14]) (by rw [results_cell_tmp rfl]; go_simp) rfl ?_
      exact ⟨_, rfl, H0.out.ext E3, E3⟩
    · have p5 : 0 ≤ a := by omega
      have p6 : (N : Int) ≤ a := by omega
      clear p1 hs p4
      go_wp2_with fail
      (try simp only [Exit.inBlock, Exit.then])
      refine bodyPost_ret (v := .tuple #[.agg #[.int .i64 (N : Int), .slice A n c], .int .i64 14]) (by rw [results_cell_tmp rfl]; go_simp) rfl ?_
      exact ⟨_, rfl, H0.out.ext E3, E3⟩
end Go.Proofs.Ytpcmfgkbfamdoaa
