/- A part of the proof of a law of roundel: contracts of functions and lemmas, each true as it stands; no condition beyond those that its theorems state. -/
import Derived.Test.YtohgckdkkeiggaaE
namespace Go.Proofs.Ytohgckdkkeiggaa
set_option linter.unusedSimpArgs false
set_option linter.unusedVariables false
open Go.RowKit Go.Maps

/-- A tally at b: its four books, and the total. -/
structure Tal (W : World) (own : Own) (B b m : Nat) (F : Nat → Int → Int) (T : Int) : Prop where
  sits : Sits W own B b
  book : ∀ i, i < 4 → BookAt W own B b (6 * i) m (F i)
  total : W.cell? ⟨b, 24, none⟩ = some (.int .i64 T)
  bnd : ∀ i k, 0 ≤ F i k ∧ F i k ≤ m
  bndT : 0 ≤ T ∧ T ≤ m

/-- What a call on a tally at b turns. -/
structure TChg (own : Own) (b : Nat) (W W' : World) : Prop where
  os : W'.os = W.os
  tape : W'.tape = W.tape
  output : W'.output = W.output
  size : W.heap.size ≤ W'.heap.size
  blk : ∀ x, x < W.heap.size → x ≠ b → (∀ off key, own x ≠ some (b, off, key)) → W'.heap[x]? = W.heap[x]?

theorem TChg.refl (own : Own) (b : Nat) (W : World) : TChg own b W W := ⟨rfl, rfl, rfl, Nat.le_refl _, fun _ _ _ _ => rfl⟩
theorem TChg.trans {own own' : Own} {b : Nat} {W W1 W2 : World} (h : TChg own b W W1) (k : TChg own' b W1 W2) (ho : ∀ x, x < W.heap.size → own' x = own x) : TChg own b W W2 :=
  ⟨k.os.trans h.os, k.tape.trans h.tape, k.output.trans h.output, Nat.le_trans h.size k.size,
    fun x hx hb hn => (k.blk x (Nat.lt_of_lt_of_le hx h.size) hb (fun off key => by rw [ho x hx]; exact hn off key)).trans (h.blk x hx hb hn)⟩
theorem Chg.toT {own : Own} {B b off : Nat} {W W' : World} (h : Chg own B b off W W') : TChg own b W W' :=
  ⟨h.os, h.tape, h.output, h.size, fun x hx hb hn => h.blk x hx hb (hn off)⟩

def TAfter (own : Own) (B b m : Nat) (F : Nat → Int → Int) (T : Int) (W W' : World) : Prop :=
  ∃ own' : Own, Tal W' own' B b m F T ∧ TChg own b W W' ∧ (∀ x, x < W.heap.size → own' x = own x)

theorem BookAt.mono {W : World} {own : Own} {B b off m m' : Nat} {F : Int → Int} (h : BookAt W own B b off m F) (hm : m ≤ m') : BookAt W own B b off m' F := by
  rcases h with h | ⟨mb, D, hL⟩
  · exact .inl h
  · exact .inr ⟨mb, D, hL.mono hm⟩

/-- One book of the four. -/
def put1 (F : Nat → Int → Int) (i : Nat) (G : Int → Int) : Nat → Int → Int := fun j => if j = i then G else F j
theorem put1_same (F : Nat → Int → Int) (i : Nat) : put1 F i (F i) = F := by
  funext j
  unfold put1
  split
  · rename_i h; rw [h]
  · rfl

theorem Tal.step {W W' : World} {own : Own} {B b m m' : Nat} {F : Nat → Int → Int} {T : Int} (h : Tal W own B b m F T) (i : Nat) (hi : i < 4) (hm : m ≤ m') {G : Int → Int} (hG : ∀ k, 0 ≤ G k ∧ G k ≤ m') (ha : After own B b (6 * i) m' G W W') :
    TAfter own B b m' (put1 F i G) T W W' := by
  obtain ⟨own', hB, hS, hC, ho⟩ := ha
  refine ⟨own', ⟨hS, fun j hj => ?_, (hC.cells 24 (by omega)).trans h.total, fun j k => ?_, ⟨h.bndT.1, by have := h.bndT.2; omega⟩⟩, hC.toT, ho⟩
  · by_cases e : j = i
    · subst e
      simp only [put1, if_pos]
      exact hB
    · simp only [put1, if_neg e]
      refine ((h.book j hj).mono hm).kept h.sits.old (fun x h1 h2 => hC.cells x (by omega)) (fun x key hx => ?_) ho
      refine hC.blk x (h.sits.old _ _ hx) (fun e => by rw [e, h.sits.tag] at hx; cases hx) (fun key' => ?_)
      rw [hx]
      simp
      omega
  · by_cases e : j = i
    · simp only [put1, if_pos e]
      exact hG k
    · simp only [put1, if_neg e]
      have := h.bnd j k
      omega

theorem wrap1 {x : Int} (h0 : 0 ≤ x) (h : x ≤ 1000000000) : IntKind.i64.wrap (x + 1) = x + 1 := IntWalk.i64_in _ (by omega)

/-- One more of a key. -/
def bumpF (F : Nat → Int → Int) (i : Nat) (k : Int) : Nat → Int → Int := put1 F i (upd (F i) k (F i k + 1))

theorem countT (own : Own) (B b m : Nat) (hm : m ≤ 1000000) (F : Nat → Int → Int) (T : Int) (i off : Nat) (hi : i < 4) (hoff : off = 6 * i) (k : Int) (hk : I64 k) (W : World) (H : Tal W own B b m F T) :
    Calls Try.prog 23 #[.pointer (some ⟨b, off, none⟩), .int .i64 k] W fun e W' => e = .returned (.tuple #[]) ∧ TAfter own B b (m + 1) (bumpF F i k) T W W' := by
  subst hoff
  have hb := H.bnd i k
  refine (count_any own B b (6 * i) m hm (F i) k hk W H.sits (H.book i hi) (wrap1 hb.1 (by omega))).mono ?_
  rintro e W' ⟨rfl, ha⟩
  refine ⟨rfl, H.step i hi (by omega) (fun k' => ?_) ha⟩
  have := H.bnd i k'
  unfold upd
  split <;> omega

theorem readT (own : Own) (B b m : Nat) (hm : m ≤ 1000000) (F : Nat → Int → Int) (T : Int) (i off : Nat) (hi : i < 4) (hoff : off = 6 * i) (k : Int) (hk : I64 k) (W : World) (H : Tal W own B b m F T) :
    Calls Try.prog 19 #[.pointer (some ⟨b, off, none⟩), .int .i64 k] W fun e W' => e = .returned (.int .i64 (F i k)) ∧ TAfter own B b (m + 1) F T W W' := by
  subst hoff
  refine (read_any own B b (6 * i) m hm (F i) k hk W H.sits (H.book i hi)).mono ?_
  rintro e W' ⟨rfl, ha⟩
  have z := H.step i hi (by omega) (fun k' => by have := H.bnd i k'; omega) ha
  rw [put1_same] at z
  exact ⟨rfl, z⟩

theorem thread_any (own : Own) (B b m : Nat) (hm : m ≤ 1000000) (F : Nat → Int → Int) (T : Int) (k : Int) (hk : I64 k) (W : World) (H : Tal W own B b m F T) :
    Calls Try.prog 10 #[.pointer (some ⟨b, 0, none⟩), .int .i64 k] W fun e W' => e = .returned (.int .i64 (F 0 k)) ∧ TAfter own B b (m + 1) F T W W' := by
  go_enter Try.func10, Try.ntmps10
  go_wp2_with (first | (go_at_call 19; refine (readT own B b m hm F T 0 _ (by omega) rfl k hk W H).mono ?_; rintro e W1 ⟨rfl, ha⟩))
  go_ret
  exact ⟨rfl, ha⟩
theorem group_any (own : Own) (B b m : Nat) (hm : m ≤ 1000000) (F : Nat → Int → Int) (T : Int) (k : Int) (hk : I64 k) (W : World) (H : Tal W own B b m F T) :
    Calls Try.prog 12 #[.pointer (some ⟨b, 0, none⟩), .int .i64 k] W fun e W' => e = .returned (.int .i64 (F 1 k)) ∧ TAfter own B b (m + 1) F T W W' := by
  go_enter Try.func12, Try.ntmps12
  go_wp2_with (first | (go_at_call 19; refine (readT own B b m hm F T 1 _ (by omega) rfl k hk W H).mono ?_; rintro e W1 ⟨rfl, ha⟩))
  go_ret
  exact ⟨rfl, ha⟩
theorem busy_any (own : Own) (B b m : Nat) (hm : m ≤ 1000000) (F : Nat → Int → Int) (T : Int) (k : Int) (hk : I64 k) (W : World) (H : Tal W own B b m F T) :
    Calls Try.prog 13 #[.pointer (some ⟨b, 0, none⟩), .int .i64 k] W fun e W' => e = .returned (.int .i64 (F 2 k)) ∧ TAfter own B b (m + 1) F T W W' := by
  go_enter Try.func13, Try.ntmps13
  go_wp2_with (first | (go_at_call 19; refine (readT own B b m hm F T 2 _ (by omega) rfl k hk W H).mono ?_; rintro e W1 ⟨rfl, ha⟩))
  go_ret
  exact ⟨rfl, ha⟩
theorem idles_any (own : Own) (B b m : Nat) (hm : m ≤ 1000000) (F : Nat → Int → Int) (T : Int) (k : Int) (hk : I64 k) (W : World) (H : Tal W own B b m F T) :
    Calls Try.prog 14 #[.pointer (some ⟨b, 0, none⟩), .int .i64 k] W fun e W' => e = .returned (.int .i64 (F 3 k)) ∧ TAfter own B b (m + 1) F T W W' := by
  go_enter Try.func14, Try.ntmps14
  go_wp2_with (first | (go_at_call 19; refine (readT own B b m hm F T 3 _ (by omega) rfl k hk W H).mono ?_; rintro e W1 ⟨rfl, ha⟩))
  go_ret
  exact ⟨rfl, ha⟩
theorem total_any (own : Own) (B b m : Nat) (F : Nat → Int → Int) (T : Int) (W : World) (H : Tal W own B b m F T) :
    Calls Try.prog 15 #[.pointer (some ⟨b, 0, none⟩)] W fun e W' => e = .returned (.int .i64 T) ∧ W' = W := by
  go_enter Try.func15, Try.ntmps15
  go_wp2_with (first | (go_at_call 20; refine (load_any ⟨b, 24, none⟩ T W H.total).mono ?_; rintro e W1 ⟨rfl, rfl⟩))
  go_ret
  exact ⟨rfl, rfl⟩
end Go.Proofs.Ytohgckdkkeiggaa
