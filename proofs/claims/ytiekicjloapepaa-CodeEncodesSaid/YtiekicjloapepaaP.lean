/- A part of the proof of a law of roundel: contracts of functions and lemmas, each true as it stands; no condition beyond those that its theorems state. -/
import Derived.Test.YtiekicjloapepaaM
namespace Go.Proofs.Ytiekicjloapepaa
set_option linter.unusedSimpArgs false
set_option linter.unusedVariables false
open Go.RowKit

/-- What a word's op is: its number, or 0 of none. -/
def IsNo (word : ByteArray) (r : Nat) : Prop := (1 ≤ r ∧ r ≤ 19 ∧ ((wd r).toList == word.toList) = true) ∨ (r = 0 ∧ ∀ i, 1 ≤ i → i ≤ 19 → ((wd i).toList == word.toList) = false)

def NamedPost (word : ByteArray) (w : World) (e : Ending) (w' : World) : Prop := ∃ r : Nat, e = .returned (.tuple #[.int .u8 (r : Int), .bool (decide (0 < r))]) ∧ r ≤ 19 ∧ IsNo word r ∧ Ext w w'

set_option maxHeartbeats 1000000 in
theorem named_any (word : ByteArray) (w : World) : Calls Try.prog 14 #[.string word] w (NamedPost word w) := by
  go_enter Try.func14, Try.ntmps14
  go_wp2
  go_loopw [4] (fun o wr => ∃ k : Nat, 1 ≤ k ∧ k ≤ 20 ∧ o = .int .u8 (k : Int) ∧ (∀ i, 1 ≤ i → i < k → ((wd i).toList == word.toList) = false) ∧ Ext w wr) (fun o _ => 20 - (intOf o).toNat)
  case atStart => exact ⟨1, by omega, by omega, rfl, fun i h1 h2 => by omega, Ext.refl _⟩
  case round =>
    obtain ⟨k, h1, h2, rfl, hall, he⟩ := hrel
    have HA := Lib.hid hall
    clear hall
    by_cases hk : k < 20
    · cases hw : (wd k).toList == word.toList with
      | true =>
        go_wp2_with (first | (go_at_call 15; refine (word_any _ _).mono ?_; rintro e w1 ⟨rfl, he1⟩; obtain ⟨he1c, he1f⟩ := Ext.cells he1; have he1z := Ext.sz he1; (try simp only [World.size_alloc, World.size_drew, World.heap_drewN, World.size_setCell] at he1z)))
        go_ret2
        exact ⟨k, by simp; omega, by omega, .inl ⟨h1, by omega, hw⟩, he.trans he1⟩
      | false =>
        have HW := Lib.hid hw
        go_wp2_with (first | (go_at_call 15; refine (word_any _ _).mono ?_; rintro e w1 ⟨rfl, he1⟩; obtain ⟨he1c, he1f⟩ := Ext.cells he1; have he1z := Ext.sz he1; (try simp only [World.size_alloc, World.size_drew, World.heap_drewN, World.size_setCell] at he1z)))
        go_roundw
        case rel =>
          refine ⟨k + 1, by omega, by omega, by go_num, fun i hi1 hi2 => ?_, he.trans he1⟩
          by_cases e : i = k
          · subst e; exact HW.out
          · exact HA.out i hi1 (by omega)
        case measure => simp [intOf]; omega
    · obtain rfl : k = 20 := by omega
      go_wp2
      go_ret2
      exact ⟨0, rfl, by omega, .inr ⟨rfl, fun i hi1 hi2 => HA.out i hi1 (by omega)⟩, he⟩

set_option maxHeartbeats 1000000 in
theorem words_any (w : World) : Calls Try.prog 12 #[] w fun e w' => e = .returned (.slice (some ⟨w.heap.size, 0, none⟩) 20 20) ∧ (∀ i, i < 20 → w'.cell? ⟨w.heap.size, i, none⟩ = some (.string (wd i))) ∧ w.heap.size < w'.heap.size ∧ Ext w w' := by
  go_enter Try.func12, Try.ntmps12
  go_wp2
  go_ret
  refine ⟨rfl, fun i hi => ?_, by simp, (Ext.refl _).alloc _⟩
  rw [World.cell?_alloc_new]
  obtain rfl | rfl | rfl | rfl | rfl | rfl | rfl | rfl | rfl | rfl | rfl | rfl | rfl | rfl | rfl | rfl | rfl | rfl | rfl | rfl : i = 0 ∨ i = 1 ∨ i = 2 ∨ i = 3 ∨ i = 4 ∨ i = 5 ∨ i = 6 ∨ i = 7 ∨ i = 8 ∨ i = 9 ∨ i = 10 ∨ i = 11 ∨ i = 12 ∨ i = 13 ∨ i = 14 ∨ i = 15 ∨ i = 16 ∨ i = 17 ∨ i = 18 ∨ i = 19 := by omega
  all_goals simp [wd]

theorem wd_inj' : ∀ r f : Fin 20, 1 ≤ r.1 → 1 ≤ f.1 → (wd r.1).data.toList = (wd f.1).data.toList → r = f := by decide +kernel
theorem wd_inj {r f : Nat} (h1 : 1 ≤ r) (h2 : r ≤ 19) (h3 : 1 ≤ f) (h4 : f ≤ 19) (h : (wd r).toList = (wd f).toList) : r = f := by
  rw [ByteArray.toList_eq, ByteArray.toList_eq] at h
  have := wd_inj' ⟨r, by omega⟩ ⟨f, by omega⟩ h1 h3 h
  exact congrArg Fin.val this
theorem IsNo.unique {word : ByteArray} {r f : Nat} (h : IsNo word r) (k : IsNo word f) : r = f := by
  rcases h with ⟨a1, a2, a3⟩ | ⟨a1, a2⟩ <;> rcases k with ⟨b1, b2, b3⟩ | ⟨b1, b2⟩
  · exact wd_inj a1 a2 b1 b2 (by rw [eq_of_beq a3, eq_of_beq b3])
  · rw [b2 r a1 a2] at a3
    cases a3
  · rw [a2 f b1 b2] at b3
    cases b3
  · omega

/-- While the words are gone through. -/
def UpTo (word : ByteArray) (k f : Nat) : Prop := (1 ≤ f ∧ f < k ∧ ((wd f).toList == word.toList) = true) ∨ (f = 0 ∧ ∀ i, 1 ≤ i → i < k → ((wd i).toList == word.toList) = false)
theorem UpTo.done {word : ByteArray} {f : Nat} (h : UpTo word 20 f) : IsNo word f := by
  rcases h with ⟨a, b, c⟩ | ⟨a, b⟩
  · exact .inl ⟨a, by omega, c⟩
  · exact .inr ⟨a, fun i h1 h2 => b i h1 (by omega)⟩

set_option maxHeartbeats 2000000 in
theorem words_walk (op : Nat) (hop : op ≤ 255) (word : ByteArray) (w : World) :
    Calls Try.prog 4 #[.int .u8 (op : Int), .string word] w fun e w' => e = .returned (.bool true) ∧ Ext w w' := by
  by_cases hl : 50 < word.size
  · have hl' : (50 : Int) < (word.size : Int) := by omega
    go_enter Try.func4, Try.ntmps4
    go_wp2_with (first | (go_at_call 8; refine (awake_any _).mono ?_; rintro e w1 ⟨rfl, he1⟩; obtain ⟨he1c, he1f⟩ := Ext.cells he1; have he1z := Ext.sz he1; (try simp only [World.size_alloc, World.size_drew, World.heap_drewN, World.size_setCell] at he1z)))
    go_ret
    refine ⟨rfl, ?_⟩
    (repeat (first | with_reducible exact Ext.refl _ | with_reducible assumption | with_reducible apply Ext.drew | with_reducible apply Ext.drewN | with_reducible apply Ext.alloc | (with_reducible refine Ext.setCell ?_ (by simp <;> omega) _) | (with_reducible refine Ext.trans ?_ (by with_reducible assumption))))
  · have hl' : (word.size : Int) ≤ 50 := by omega
    clear hl
    cases hg : isOp op with
    | true =>
      have hb : 1 ≤ op ∧ op ≤ 19 := by simpa [isOp] using hg
      have hb1 := hb.1
      have hb2 := hb.2
      clear hb
      have ha := wa_in op
      have hb' := wb_in op
      have hm := wm_in op
      go_enter Try.func4, Try.ntmps4
      go_wp2_with (first
        | (go_at_call 8; refine (awake_any _).mono ?_; rintro e w1 ⟨rfl, he1⟩; obtain ⟨he1c, he1f⟩ := Ext.cells he1; have he1z := Ext.sz he1; (try simp only [World.size_alloc, World.size_drew, World.heap_drewN, World.size_setCell] at he1z))
        | (go_at_call 12; refine (words_any _).mono ?_; rintro e w2 ⟨rfl, hcw, hsz, he2⟩; have hco := hcw op (by omega))
        | (go_at_call 13; refine (widths_any _ hg _).mono ?_; rintro e w3 ⟨rfl, rfl⟩))
      have HC := Lib.hid hcw
      clear hcw
      go_loopw [11, 12] (fun f i wr => ∃ k q : Nat, 1 ≤ k ∧ k ≤ 20 ∧ i = .int .i64 (k : Int) ∧ f = .int .i64 (q : Int) ∧ q < 20 ∧ UpTo word k q ∧ Ext w2 wr) (fun _ i _ => 20 - (intOf i).toNat)
      case atStart => exact ⟨1, 0, by omega, by omega, rfl, rfl, by omega, .inr ⟨rfl, fun i h1 h2 => by omega⟩, Ext.refl _⟩
      case round =>
        obtain ⟨k, q, hk1, hk2, rfl, rfl, hq, hup, hew⟩ := hrel
        have HU := Lib.hid hup
        clear hup
        by_cases hk : k < 20
        · have hck : wr.cell? ⟨w1.heap.size, k, none⟩ = some (.string (wd k)) := (hew.cell (p := ⟨w1.heap.size, k, none⟩) hsz).trans (HC.out k hk)
          cases hw : (wd k).toList == word.toList with
          | true =>
            have HW := Lib.hid hw
            go_wp2
            go_roundw
            case rel => exact ⟨k + 1, k, by omega, by omega, by go_num, rfl, hk, .inl ⟨hk1, by omega, HW.out⟩, hew⟩
            case measure => simp [intOf]; omega
          | false =>
            have HW := Lib.hid hw
            go_wp2
            go_roundw
            case rel =>
              refine ⟨k + 1, q, by omega, by omega, by go_num, rfl, hq, ?_, hew⟩
              rcases HU.out with ⟨u1, u2, u3⟩ | ⟨u1, u2⟩
              · exact .inl ⟨u1, by omega, u3⟩
              · refine .inr ⟨u1, fun i h1 h2 => ?_⟩
                by_cases e : i = k
                · subst e; exact HW.out
                · exact u2 i h1 (by omega)
            case measure => simp [intOf]; omega
        · obtain rfl : k = 20 := by omega
          clear hk hk1 hk2
          go_wp2_with fail
          refine (named_any word _).mono ?_
          rintro e w5 ⟨r, rfl, hr, hno, he5⟩
          obtain rfl : r = q := hno.unique HU.out.done
          clear hno
          go_wp2_with (first
            | (go_at_call 15; refine (word_any _ _).mono ?_; rintro e w6 ⟨rfl, he6⟩; obtain ⟨he6c, he6f⟩ := Ext.cells he6; have he6z := Ext.sz he6; (try simp only [World.size_alloc, World.size_drew, World.heap_drewN, World.size_setCell] at he6z))
            | (go_at_call 16; refine (size_op _ hg _).mono ?_; rintro e w7 ⟨rfl, he7⟩; obtain ⟨he7c, he7f⟩ := Ext.cells he7; have he7z := Ext.sz he7; (try simp only [World.size_alloc, World.size_drew, World.heap_drewN, World.size_setCell] at he7z)))
          go_ret
          refine ⟨by simp, ?_⟩
          (repeat (first | with_reducible exact Ext.refl _ | with_reducible assumption | with_reducible apply Ext.drew | with_reducible apply Ext.drewN | with_reducible apply Ext.alloc | (with_reducible refine Ext.setCell ?_ (by simp <;> omega) _) | (with_reducible refine Ext.trans ?_ (by with_reducible assumption))))
    | false =>
      have hb : op = 0 ∨ 20 ≤ op := by
        have : ¬ (1 ≤ op ∧ op ≤ 19) := by simpa [isOp] using hg
        omega
      obtain ⟨_, _, _, hwd⟩ := wa_none op (by simpa [isOp] using hg)
      rcases hb with rfl | hb
      · go_enter Try.func4, Try.ntmps4
        go_wp2_with (first
          | (go_at_call 8; refine (awake_any _).mono ?_; rintro e w1 ⟨rfl, he1⟩; obtain ⟨he1c, he1f⟩ := Ext.cells he1; have he1z := Ext.sz he1; (try simp only [World.size_alloc, World.size_drew, World.heap_drewN, World.size_setCell] at he1z))
          | (go_at_call 12; refine (words_any _).mono ?_; rintro e w2 ⟨rfl, hcw, hsz, he2⟩))
        have HC := Lib.hid hcw
        clear hcw
        go_loopw [11, 12] (fun f i wr => ∃ k q : Nat, 1 ≤ k ∧ k ≤ 20 ∧ i = .int .i64 (k : Int) ∧ f = .int .i64 (q : Int) ∧ q < 20 ∧ UpTo word k q ∧ Ext w2 wr) (fun _ i _ => 20 - (intOf i).toNat)
        case atStart => exact ⟨1, 0, by omega, by omega, rfl, rfl, by omega, .inr ⟨rfl, fun i h1 h2 => by omega⟩, Ext.refl _⟩
        case round =>
          obtain ⟨k, q, hk1, hk2, rfl, rfl, hq, hup, hew⟩ := hrel
          have HU := Lib.hid hup
          clear hup
          by_cases hk : k < 20
          · have hck : wr.cell? ⟨w1.heap.size, k, none⟩ = some (.string (wd k)) := (hew.cell (p := ⟨w1.heap.size, k, none⟩) hsz).trans (HC.out k hk)
            cases hw : (wd k).toList == word.toList with
            | true =>
              have HW := Lib.hid hw
              go_wp2
              go_roundw
              case rel => exact ⟨k + 1, k, by omega, by omega, by go_num, rfl, hk, .inl ⟨hk1, by omega, HW.out⟩, hew⟩
              case measure => simp [intOf]; omega
            | false =>
              have HW := Lib.hid hw
              go_wp2
              go_roundw
              case rel =>
                refine ⟨k + 1, q, by omega, by omega, by go_num, rfl, hq, ?_, hew⟩
                rcases HU.out with ⟨u1, u2, u3⟩ | ⟨u1, u2⟩
                · exact .inl ⟨u1, by omega, u3⟩
                · refine .inr ⟨u1, fun i h1 h2 => ?_⟩
                  by_cases e : i = k
                  · subst e; exact HW.out
                  · exact u2 i h1 (by omega)
              case measure => simp [intOf]; omega
          · obtain rfl : k = 20 := by omega
            clear hk hk1 hk2
            go_wp2_with fail
            refine (named_any word _).mono ?_
            rintro e w5 ⟨r, rfl, hr, hno, he5⟩
            obtain rfl : r = q := hno.unique HU.out.done
            clear hno
            go_wp2_with (first
              | (go_at_call 15; refine (word_any _ _).mono ?_; rintro e w6 ⟨rfl, he6⟩; obtain ⟨he6c, he6f⟩ := Ext.cells he6; have he6z := Ext.sz he6; (try simp only [World.size_alloc, World.size_drew, World.heap_drewN, World.size_setCell] at he6z))
              | (go_at_call 16; refine (size_none _ hg _).mono ?_; rintro e w7 ⟨rfl, he7⟩; obtain ⟨he7c, he7f⟩ := Ext.cells he7; have he7z := Ext.sz he7; (try simp only [World.size_alloc, World.size_drew, World.heap_drewN, World.size_setCell] at he7z)))
            go_ret
            refine ⟨by simp, ?_⟩
            (repeat (first | with_reducible exact Ext.refl _ | with_reducible assumption | with_reducible apply Ext.drew | with_reducible apply Ext.drewN | with_reducible apply Ext.alloc | (with_reducible refine Ext.setCell ?_ (by simp <;> omega) _) | (with_reducible refine Ext.trans ?_ (by with_reducible assumption))))
      · go_enter Try.func4, Try.ntmps4
        go_wp2_with (first
          | (go_at_call 8; refine (awake_any _).mono ?_; rintro e w1 ⟨rfl, he1⟩; obtain ⟨he1c, he1f⟩ := Ext.cells he1; have he1z := Ext.sz he1; (try simp only [World.size_alloc, World.size_drew, World.heap_drewN, World.size_setCell] at he1z))
          | (go_at_call 12; refine (words_any _).mono ?_; rintro e w2 ⟨rfl, hcw, hsz, he2⟩))
        have HC := Lib.hid hcw
        clear hcw
        go_loopw [11, 12] (fun f i wr => ∃ k q : Nat, 1 ≤ k ∧ k ≤ 20 ∧ i = .int .i64 (k : Int) ∧ f = .int .i64 (q : Int) ∧ q < 20 ∧ UpTo word k q ∧ Ext w2 wr) (fun _ i _ => 20 - (intOf i).toNat)
        case atStart => exact ⟨1, 0, by omega, by omega, rfl, rfl, by omega, .inr ⟨rfl, fun i h1 h2 => by omega⟩, Ext.refl _⟩
        case round =>
          obtain ⟨k, q, hk1, hk2, rfl, rfl, hq, hup, hew⟩ := hrel
          have HU := Lib.hid hup
          clear hup
          by_cases hk : k < 20
          · have hck : wr.cell? ⟨w1.heap.size, k, none⟩ = some (.string (wd k)) := (hew.cell (p := ⟨w1.heap.size, k, none⟩) hsz).trans (HC.out k hk)
            cases hw : (wd k).toList == word.toList with
            | true =>
              have HW := Lib.hid hw
              go_wp2
              go_roundw
              case rel => exact ⟨k + 1, k, by omega, by omega, by go_num, rfl, hk, .inl ⟨hk1, by omega, HW.out⟩, hew⟩
              case measure => simp [intOf]; omega
            | false =>
              have HW := Lib.hid hw
              go_wp2
              go_roundw
              case rel =>
                refine ⟨k + 1, q, by omega, by omega, by go_num, rfl, hq, ?_, hew⟩
                rcases HU.out with ⟨u1, u2, u3⟩ | ⟨u1, u2⟩
                · exact .inl ⟨u1, by omega, u3⟩
                · refine .inr ⟨u1, fun i h1 h2 => ?_⟩
                  by_cases e : i = k
                  · subst e; exact HW.out
                  · exact u2 i h1 (by omega)
              case measure => simp [intOf]; omega
          · obtain rfl : k = 20 := by omega
            clear hk hk1 hk2
            go_wp2_with fail
            refine (named_any word _).mono ?_
            rintro e w5 ⟨r, rfl, hr, hno, he5⟩
            obtain rfl : r = q := hno.unique HU.out.done
            clear hno
            go_wp2_with (first
              | (go_at_call 15; refine (word_any _ _).mono ?_; rintro e w6 ⟨rfl, he6⟩; obtain ⟨he6c, he6f⟩ := Ext.cells he6; have he6z := Ext.sz he6; (try simp only [World.size_alloc, World.size_drew, World.heap_drewN, World.size_setCell] at he6z))
              | (go_at_call 16; refine (size_none _ hg _).mono ?_; rintro e w7 ⟨rfl, he7⟩; obtain ⟨he7c, he7f⟩ := Ext.cells he7; have he7z := Ext.sz he7; (try simp only [World.size_alloc, World.size_drew, World.heap_drewN, World.size_setCell] at he7z)))
            go_ret
            refine ⟨by simp, ?_⟩
            (repeat (first | with_reducible exact Ext.refl _ | with_reducible assumption | with_reducible apply Ext.drew | with_reducible apply Ext.drewN | with_reducible apply Ext.alloc | (with_reducible refine Ext.setCell ?_ (by simp <;> omega) _) | (with_reducible refine Ext.trans ?_ (by with_reducible assumption))))
end Go.Proofs.Ytiekicjloapepaa
