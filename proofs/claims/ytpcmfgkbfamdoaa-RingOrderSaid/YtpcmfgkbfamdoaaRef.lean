/- A part of the proof of a law of roundel: contracts of functions and lemmas, each true as it stands; no condition beyond those that its theorems state. -/
import Derived.Test.YtpcmfgkbfamdoaaF
import Derived.Laws.AppendOwnNone
import Derived.Laws.ResultCell
import Derived.Laws.Rows
namespace Go.Proofs.Ytpcmfgkbfamdoaa
set_option linter.unusedSimpArgs false
set_option linter.unusedVariables false
open Go.RowKit

theorem results_cell1 {fn : Func} {p : Tmp} {ty : TypeId} {P : Program} {w : World} {tmps : Array Value} {a : Addr} {v : Value} (h : fn.results = #[.cell p ty]) (hp : tmps.getD p undef = .pointer (some a)) (hl : (loadVar ty a).run P w = .ok v w) :
    (results fn tmps).run P w = .ok v w := by
  have hp' : tmps[p]?.getD undef = .pointer (some a) := by simpa using hp
  simp [results, h, hp', asAddr, hl]

/-- A row of the document's lists, in blocks from L on. -/
def RowAt (W : World) (L : Nat → Prop) (A : Option Addr) (n c : Nat) (r : List Nat) : Prop :=
  r.length = n ∧ n ≤ c ∧ c ≤ 9223372036854775807 ∧ (A = none → c = 0) ∧ (0 < n → ∃ y, A = some ⟨y, 0, none⟩ ∧ L y ∧ ∀ i, i < n → W.cell? ⟨y, i, none⟩ = some (.int .i64 ((r.getD i 0 : Nat) : Int)))
/-- The document's lists. -/
def RefAt (W : World) (L : Nat → Prop) (v : Value) (N : Nat) (rows : List (List Nat)) : Prop :=
  ∃ A n c, v = .agg #[.int .i64 (N : Int), .slice A n c] ∧ rows.length = n ∧ n ≤ c ∧ c ≤ 9223372036854775807 ∧ (A = none → c = 0) ∧
    (0 < n → ∃ x, A = some ⟨x, 0, none⟩ ∧ L x ∧ ∀ j, j < n → ∃ GA gn gc, W.cell? ⟨x, j, none⟩ = some (.slice GA gn gc) ∧ RowAt W L GA gn gc (rowAt rows j))

theorem RowAt.kept {W W' : World} {L : Nat → Prop} {A : Option Addr} {n c : Nat} {r : List Nat} (h : RowAt W L A n c r) (hb : ∀ x, L x → x < W.heap.size → W'.heap[x]? = W.heap[x]?) : RowAt W' L A n c r := by
  refine ⟨h.1, h.2.1, h.2.2.1, h.2.2.2.1, fun hn => ?_⟩
  obtain ⟨y, rfl, hy, hc⟩ := h.2.2.2.2 hn
  exact ⟨y, rfl, hy, fun i hi => (World.cell?_of_block (a := ⟨y, i, none⟩) (hb y hy (block_lt_of_cell (hc i hi)))).trans (hc i hi)⟩
theorem RefAt.kept {W W' : World} {L : Nat → Prop} {v : Value} {N : Nat} {rows : List (List Nat)} (h : RefAt W L v N rows) (hb : ∀ x, L x → x < W.heap.size → W'.heap[x]? = W.heap[x]?) : RefAt W' L v N rows := by
  obtain ⟨A, n, c, rfl, h1, h2, h3, h4, h5⟩ := h
  refine ⟨A, n, c, rfl, h1, h2, h3, h4, fun hn => ?_⟩
  obtain ⟨x, rfl, hx, hc⟩ := h5 hn
  refine ⟨x, rfl, hx, fun j hj => ?_⟩
  obtain ⟨GA, gn, gc, k1, k2⟩ := hc j hj
  exact ⟨GA, gn, gc, (World.cell?_of_block (a := ⟨x, j, none⟩) (hb x hx (block_lt_of_cell k1))).trans k1, k2.kept hb⟩
theorem RowAt.ext {W W' : World} {L : Nat → Prop} {A : Option Addr} {n c : Nat} {r : List Nat} (h : RowAt W L A n c r) (he : Ext W W') : RowAt W' L A n c r := h.kept (fun _ _ hx => he.blk hx)
theorem RefAt.ext {W W' : World} {L : Nat → Prop} {v : Value} {N : Nat} {rows : List (List Nat)} (h : RefAt W L v N rows) (he : Ext W W') : RefAt W' L v N rows := h.kept (fun _ _ hx => he.blk hx)
theorem RefAt.rc {W W' : World} {L : Nat → Prop} {lb mb : Nat} {v : Value} {N : Nat} {rows : List (List Nat)} (h : RefAt W L v N rows) (he : Rc lb mb W W') (h1 : ¬ L lb) (h2 : ¬ L mb) : RefAt W' L v N rows := h.kept (fun x hL hx => he.blk x hx (fun e => h1 (e ▸ hL)) (fun e => h2 (e ▸ hL)))
theorem RowAt.mono {W : World} {L L' : Nat → Prop} {A : Option Addr} {n c : Nat} {r : List Nat} (h : RowAt W L A n c r) (hp : ∀ x, L x → x < W.heap.size → L' x) : RowAt W L' A n c r := by
  refine ⟨h.1, h.2.1, h.2.2.1, h.2.2.2.1, fun hn => ?_⟩
  obtain ⟨y, rfl, hy, hc⟩ := h.2.2.2.2 hn
  exact ⟨y, rfl, hp y hy (block_lt_of_cell (hc 0 hn)), hc⟩
theorem RefAt.mono {W : World} {L L' : Nat → Prop} {v : Value} {N : Nat} {rows : List (List Nat)} (h : RefAt W L v N rows) (hp : ∀ x, L x → x < W.heap.size → L' x) : RefAt W L' v N rows := by
  obtain ⟨A, n, c, rfl, h1, h2, h3, h4, h5⟩ := h
  refine ⟨A, n, c, rfl, h1, h2, h3, h4, fun hn => ?_⟩
  obtain ⟨x, rfl, hx, hc⟩ := h5 hn
  refine ⟨x, rfl, ?_, fun j hj => ?_⟩
  · obtain ⟨GA, gn, gc, k1, k2⟩ := hc 0 hn
    exact hp x hx (block_lt_of_cell k1)
  · obtain ⟨GA, gn, gc, k1, k2⟩ := hc j hj
    exact ⟨GA, gn, gc, k1, k2.mono hp⟩

/-- Where the document finds a node. -/
def findS (rows : List (List Nat)) (n : Int) : Int × Int := if 0 ≤ n ∧ n.toNat ∈ rows.flatten then ((listOf rows n.toNat : Int), (posOf rows n.toNat : Int)) else (-1, -1)

theorem listOf_first {rows : List (List Nat)} {n l : Nat} (h1 : l < rows.length) (h2 : n ∈ rowAt rows l) (h3 : ∀ j, j < l → n ∉ rowAt rows j) : listOf rows n = l := by
  unfold listOf
  refine (List.findIdx_eq h1).2 ⟨?_, fun j hj => ?_⟩
  · simpa [rowAt, List.getD, h1] using h2
  · have := h3 j hj
    simpa [rowAt, List.getD, show j < rows.length by omega] using this
theorem posOf_first {r : List Nat} {n i : Nat} (h1 : i < r.length) (h2 : r.getD i 0 = n) (h3 : ∀ j, j < i → r.getD j 0 ≠ n) : r.idxOf n = i := by
  unfold List.idxOf
  refine (List.findIdx_eq h1).2 ⟨?_, fun j hj => ?_⟩
  · simpa [List.getD, h1] using h2
  · have := h3 j hj
    simpa [List.getD, show j < r.length by omega] using this

section
variable {L : Nat → Prop} {N : Nat} {rows : List (List Nat)}
set_option maxRecDepth 100000 in
set_option maxHeartbeats 1600000 in
theorem Find_any (v : Value) (n : Int) (W : World) (H : RefAt W L v N rows) :
    Calls Try.prog 35 #[v, .int .i64 n] W fun e W' => e = .returned (.tuple #[.int .i64 (findS rows n).1, .int .i64 (findS rows n).2]) ∧ Ext W W' := by
  obtain ⟨A, m, c, rfl, hlen, hmc, hcm, hAc, hcell⟩ := H
  have HC := Lib.hid hcell
  clear hcell
  go_enter Try.func35, Try.ntmps35
  go_wp2
  go_loopw [11] (fun i wr => ∃ j : Nat, j ≤ m ∧ i = .int .i64 (j : Int) ∧ (∀ j', j' < j → ∀ x ∈ rowAt rows j', (x : Int) ≠ n) ∧ Ext W wr ∧ wr.cell? ⟨W.heap.size, 1, none⟩ = some (.slice A m c)) (fun i _ => m - (intOf i).toNat)
  case atStart => exact ⟨0, by omega, rfl, fun _ h => by omega, (Ext.refl _).alloc _, by simp⟩
  case round =>
    obtain ⟨j, hj, rfl, hno, er, c1⟩ := hrel
    have HN := Lib.hid hno
    clear hno
    by_cases hjm : j < m
    · obtain ⟨x, rfl, hx, hc⟩ := HC.out (by omega)
      obtain ⟨GA, gn, gc, k1, k2⟩ := hc j hjm
      have k1' := (er.cell (p := ⟨x, j, none⟩) (block_lt_of_cell k1)).trans k1
      obtain ⟨r1, r2, r3, r4, r5⟩ := k2
      have q3 : (j : Int) < (m : Int) := by omega
      have HR := Lib.hid r5
      clear hc k1 r5
      generalize wr = w1 at *
      go_wp2_with fail
      go_loopw [20] (fun i wr' => ∃ q : Nat, q ≤ gn ∧ i = .int .i64 (q : Int) ∧ (∀ q', q' < q → (((rowAt rows j).getD q' 0 : Nat) : Int) ≠ n) ∧ wr' = w1) (fun i _ => gn - (intOf i).toNat)
      case atStart => exact ⟨0, by omega, rfl, fun _ h => by omega, rfl⟩
      case round =>
        obtain ⟨q, hq, rfl, hnq, rfl⟩ := hrel
        have HQ := Lib.hid hnq
        clear hnq
        by_cases hqn : q < gn
        · obtain ⟨y, rfl, hy, hyc⟩ := HR.out (by omega)
          have c2 := hyc q hqn
          have c2' := (er.cell (p := ⟨y, q, none⟩) (block_lt_of_cell c2)).trans c2
          obtain ⟨z, hz⟩ : ∃ z, z = (rowAt rows j).getD q 0 := ⟨_, rfl⟩
          rw [← hz] at c2'
          have q4 : (q : Int) < (gn : Int) := by omega
          have HZ := Lib.hid hz
          clear hyc c2 hz
          by_cases p : (z : Int) = n
          · have p' : ((z : Int) == n) = true := by simp [p]
            have P := Lib.hid p
            clear p
            go_wp2_with fail
            go_ret2
            refine ⟨?_, er⟩
            have hzr : z ∈ rowAt rows j := by
              rw [HZ.out, List.getD_eq_getElem?_getD, List.getElem?_eq_getElem (by omega)]
              exact List.getElem_mem _
            have hjl : j < rows.length := by omega
            have e1 : listOf rows z = j := listOf_first hjl hzr (fun j' hj' hm => HN.out j' hj' z hm P.out)
            have e2 : posOf rows z = q := by
              unfold posOf
              rw [e1]
              exact posOf_first (by omega) HZ.out.symm (fun q' hq' e => HQ.out q' hq' (by rw [e]; exact P.out))
            have e3 : findS rows n = ((j : Int), (q : Int)) := by
              unfold findS
              rw [if_pos ⟨by rw [← P.out]; omega, by rw [← P.out]; exact rowAt_mem hjl hzr⟩, ← P.out, Int.toNat_natCast, e1, e2]
            rw [e3]
            rfl
          · have p' : ((z : Int) == n) = false := by simp [p]
            have P := Lib.hid p
            clear p
            go_wp2_with fail
            go_roundw
            case rel =>
              refine ⟨q + 1, by omega, by go_num, fun q' hq' => ?_, trivial⟩
              by_cases e : q' = q
              · rw [e, ← HZ.out]; exact P.out
              · exact HQ.out q' (by omega)
            case measure => simp [intOf]; omega
        · obtain rfl : q = gn := by omega
          go_wp2_with fail
          go_roundw
          case rel =>
            refine ⟨j + 1, by omega, by go_num, fun j' hj' => ?_, er, c1⟩
            by_cases e : j' = j
            · subst e
              intro x hx
              obtain ⟨i, hi, rfl⟩ := List.getElem_of_mem hx
              have := HQ.out i (by omega)
              rwa [List.getD_eq_getElem?_getD, List.getElem?_eq_getElem hi] at this
            · exact HN.out j' (by omega)
          case measure => simp [intOf]; omega
    · obtain rfl : j = m := by omega
      go_wp2_with fail
      go_ret2
      refine ⟨?_, er⟩
      have e3 : findS rows n = (-1, -1) := by
        unfold findS
        rw [if_neg]
        rintro ⟨h0, hm⟩
        obtain ⟨l, hl, hx⟩ := mem_rowAt hm
        exact HN.out l (by omega) _ hx (by omega)
      rw [e3]
      rfl

/-- The document's word on a node. -/
def wrongS (N : Nat) (rows : List (List Nat)) (n : Int) (inn : Bool) : Int :=
  if 0 ≤ n ∧ n < (N : Int) then (if decide (n.toNat ∈ rows.flatten) = inn then 0 else 10) else 14
theorem wrong_out (v : Value) (n : Int) (inn : Bool) (hn : ¬ (0 ≤ n ∧ n < (N : Int))) (W : World) (H : RefAt W L v N rows) :
    Calls Try.prog 36 #[v, .int .i64 n, .bool inn] W fun e W' => e = .returned (.int .i64 14) ∧ Ext W W' := by
  obtain ⟨A, m, c, rfl, -⟩ := H
  go_enter Try.func36, Try.ntmps36
  by_cases p : n < 0
  · go_wp2
    go_ret
    exact ⟨rfl, (Ext.refl W).alloc _⟩
  · have p1 : 0 ≤ n := by omega
    have p2 : (N : Int) ≤ n := by omega
    go_wp2
    go_ret
    exact ⟨rfl, (Ext.refl W).alloc _⟩
set_option maxRecDepth 100000 in
theorem wrong_in' (v : Value) (n : Nat) (inn : Bool) (code : Int) (hcode : code = if decide (n ∈ rows.flatten) = inn then 0 else 10) (hn : n < N) (W : World) (H : RefAt W L v N rows) :
    Calls Try.prog 36 #[v, .int .i64 (n : Int), .bool inn] W fun e W' => e = .returned (.int .i64 code) ∧ Ext W W' := by
  have H0 := H
  obtain ⟨A, m, c, rfl, -⟩ := H
  have p1 : (n : Int) < (N : Int) := by omega
  have hf := Find_any _ (n : Int) _ (H0.ext ((Ext.refl W).alloc (.cells #[.int .i64 (N : Int), .slice A m c] 30)))
  have HCo := Lib.hid hcode
  clear hcode
  go_enter Try.func36, Try.ntmps36
  go_wp2_with fail
  refine hf.mono ?_
  rintro e w1 ⟨rfl, he⟩
  have he' : Ext W w1 := ((Ext.refl W).alloc _).trans he
  by_cases p : n ∈ rows.flatten
  · have e1 : findS rows (n : Int) = ((listOf rows n : Int), (posOf rows n : Int)) := by
      unfold findS
      rw [if_pos ⟨by omega, by simpa using p⟩]
      simp
    have D := Lib.hid (decide_eq_true p)
    rw [e1]
    obtain ⟨a, ha⟩ : ∃ a, a = listOf rows n := ⟨_, rfl⟩
    obtain ⟨b, hb⟩ : ∃ b, b = posOf rows n := ⟨_, rfl⟩
    rw [← ha, ← hb]
    have pa : (0 : Int) ≤ (a : Int) := by omega
    clear ha hb e1 p hf
    cases inn with
    | true =>
      have hc : code = 0 := by rw [HCo.out, D.out]; rfl
      subst hc
      clear D HCo
      go_wp2_with fail
      go_ret
      exact ⟨rfl, he'⟩
    | false =>
      have hc : code = 10 := by rw [HCo.out, D.out]; rfl
      subst hc
      clear D HCo
      go_wp2_with fail
      go_ret
      exact ⟨rfl, he'⟩
  · have e1 : findS rows (n : Int) = (-1, -1) := by
      unfold findS
      rw [if_neg (fun h => p (by simpa using h.2))]
    have D := Lib.hid (decide_eq_false p)
    rw [e1]
    clear e1 p hf
    cases inn with
    | true =>
      have hc : code = 10 := by rw [HCo.out, D.out]; rfl
      subst hc
      clear D HCo
      go_wp2_with fail
      go_ret
      exact ⟨rfl, he'⟩
    | false =>
      have hc : code = 0 := by rw [HCo.out, D.out]; rfl
      subst hc
      clear D HCo
      go_wp2_with fail
      go_ret
      exact ⟨rfl, he'⟩
theorem wrong_in (v : Value) (n : Nat) (inn : Bool) (hn : n < N) (W : World) (H : RefAt W L v N rows) :
    Calls Try.prog 36 #[v, .int .i64 (n : Int), .bool inn] W fun e W' => e = .returned (.int .i64 (if decide (n ∈ rows.flatten) = inn then 0 else 10)) ∧ Ext W W' :=
  wrong_in' v n inn _ rfl hn W H

theorem RNew_bad (n m : Int) (h : n < 1 ∨ 64 < n ∨ m < 1 ∨ 64 < m) (W : World) :
    Calls Try.prog 9 #[.int .i64 n, .int .i64 m] W fun e W' => (∃ v, e = .returned (.tuple #[v, .int .i64 14])) ∧ Ext W W' := by
  go_enter Try.func9, Try.ntmps9
  by_cases h1 : n < 1
  · go_wp2
    (try simp only [Exit.inBlock, Exit.then])
    refine bodyPost_ret (v := .tuple #[.agg #[.int .i64 0, .slice none 0 0], .int .i64 14]) (by rw [results_cell_tmp rfl]; go_simp) rfl ?_
    exact ⟨⟨_, rfl⟩, (Ext.refl W).alloc _⟩
  · by_cases h2 : 64 < n
    · have h1' : 1 ≤ n := by omega
      go_wp2
      (try simp only [Exit.inBlock, Exit.then])
      refine bodyPost_ret (v := .tuple #[.agg #[.int .i64 0, .slice none 0 0], .int .i64 14]) (by rw [results_cell_tmp rfl]; go_simp) rfl ?_
      exact ⟨⟨_, rfl⟩, (Ext.refl W).alloc _⟩
    · have h1' : 1 ≤ n := by omega
      have h2' : n ≤ 64 := by omega
      by_cases h3 : m < 1
      · go_wp2
        (try simp only [Exit.inBlock, Exit.then])
        refine bodyPost_ret (v := .tuple #[.agg #[.int .i64 0, .slice none 0 0], .int .i64 14]) (by rw [results_cell_tmp rfl]; go_simp) rfl ?_
        exact ⟨⟨_, rfl⟩, (Ext.refl W).alloc _⟩
      · have h4 : 64 < m := by omega
        have h3' : 1 ≤ m := by omega
        go_wp2
        (try simp only [Exit.inBlock, Exit.then])
        refine bodyPost_ret (v := .tuple #[.agg #[.int .i64 0, .slice none 0 0], .int .i64 14]) (by rw [results_cell_tmp rfl]; go_simp) rfl ?_
        exact ⟨⟨_, rfl⟩, (Ext.refl W).alloc _⟩
end
end Go.Proofs.Ytpcmfgkbfamdoaa
