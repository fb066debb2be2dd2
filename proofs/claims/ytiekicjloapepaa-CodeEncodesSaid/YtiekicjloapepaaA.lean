/- A part of the proof of a law of roundel: contracts of functions and lemmas, each true as it stands; no condition beyond those that its theorems state. -/
import Derived.Test.YtiekicjloapepaaL
namespace Go.Proofs.Ytiekicjloapepaa
set_option linter.unusedSimpArgs false
set_option linter.unusedVariables false
open Go.RowKit

def sh80 : Array Value := #[Value.string { data := #[] }, .int .i64 0, .int .i64 0, .int .i64 0, Value.string { data := #[116, 105, 99, 107] }, .int .i64 1, .int .i64 0, .int .i64 0, Value.string { data := #[115, 112, 97, 119, 110] }, .int .i64 4, .int .i64 2, .int .i64 8, Value.string { data := #[98, 108, 111, 99, 107] }, .int .i64 4, .int .i64 0, .int .i64 0, Value.string { data := #[119, 97, 107, 101] }, .int .i64 4, .int .i64 0, .int .i64 0, Value.string { data := #[121, 105, 101, 108, 100] }, .int .i64 4, .int .i64 0, .int .i64 0, Value.string { data := #[101, 120, 105, 116] }, .int .i64 4, .int .i64 0, .int .i64 0, Value.string { data := #[119, 101, 105, 103, 104, 116] }, .int .i64 4, .int .i64 2, .int .i64 0, Value.string { data := #[109, 97, 115, 107] }, .int .i64 4, .int .i64 0, .int .i64 8, Value.string { data := #[109, 111, 118, 101] }, .int .i64 4, .int .i64 4, .int .i64 0, Value.string { data := #[111, 110, 108, 105, 110, 101] }, .int .i64 1, .int .i64 0, .int .i64 0, Value.string { data := #[111, 102, 102, 108, 105, 110, 101] }, .int .i64 1, .int .i64 0, .int .i64 0, Value.string { data := #[110, 101, 119, 103, 114, 111, 117, 112] }, .int .i64 4, .int .i64 2, .int .i64 0, Value.string { data := #[100, 114, 111, 112, 103, 114, 111, 117, 112] }, .int .i64 4, .int .i64 0, .int .i64 0, Value.string { data := #[103, 114, 111, 117, 112, 119, 101, 105, 103, 104, 116] }, .int .i64 4, .int .i64 2, .int .i64 0, Value.string { data := #[103, 114, 111, 117, 112, 109, 111, 118, 101] }, .int .i64 4, .int .i64 4, .int .i64 0, Value.string { data := #[116, 104, 114, 101, 97, 100] }, .int .i64 4, .int .i64 0, .int .i64 0, Value.string { data := #[99, 111, 114, 101] }, .int .i64 1, .int .i64 0, .int .i64 0, Value.string { data := #[103, 114, 111, 117, 112] }, .int .i64 4, .int .i64 0, .int .i64 0, Value.string { data := #[100, 111, 109, 97, 105, 110] }, .int .i64 1, .int .i64 0, .int .i64 0]
def zs80 : Array Value := #[Value.string { data := #[] }, .int .i64 0, .int .i64 0, .int .i64 0, Value.string { data := #[] }, .int .i64 0, .int .i64 0, .int .i64 0, Value.string { data := #[] }, .int .i64 0, .int .i64 0, .int .i64 0, Value.string { data := #[] }, .int .i64 0, .int .i64 0, .int .i64 0, Value.string { data := #[] }, .int .i64 0, .int .i64 0, .int .i64 0, Value.string { data := #[] }, .int .i64 0, .int .i64 0, .int .i64 0, Value.string { data := #[] }, .int .i64 0, .int .i64 0, .int .i64 0, Value.string { data := #[] }, .int .i64 0, .int .i64 0, .int .i64 0, Value.string { data := #[] }, .int .i64 0, .int .i64 0, .int .i64 0, Value.string { data := #[] }, .int .i64 0, .int .i64 0, .int .i64 0, Value.string { data := #[] }, .int .i64 0, .int .i64 0, .int .i64 0, Value.string { data := #[] }, .int .i64 0, .int .i64 0, .int .i64 0, Value.string { data := #[] }, .int .i64 0, .int .i64 0, .int .i64 0, Value.string { data := #[] }, .int .i64 0, .int .i64 0, .int .i64 0, Value.string { data := #[] }, .int .i64 0, .int .i64 0, .int .i64 0, Value.string { data := #[] }, .int .i64 0, .int .i64 0, .int .i64 0, Value.string { data := #[] }, .int .i64 0, .int .i64 0, .int .i64 0, Value.string { data := #[] }, .int .i64 0, .int .i64 0, .int .i64 0, Value.string { data := #[] }, .int .i64 0, .int .i64 0, .int .i64 0, Value.string { data := #[] }, .int .i64 0, .int .i64 0, .int .i64 0]
theorem build69 (w : World) : (Instr.build 69 #[(1, Value.agg #[Value.string { data := #[116, 105, 99, 107] }, .int .i64 1, .int .i64 0, .int .i64 0]), (2, Value.agg #[Value.string { data := #[115, 112, 97, 119, 110] }, .int .i64 4, .int .i64 2, .int .i64 8]), (3, Value.agg #[Value.string { data := #[98, 108, 111, 99, 107] }, .int .i64 4, .int .i64 0, .int .i64 0]), (4, Value.agg #[Value.string { data := #[119, 97, 107, 101] }, .int .i64 4, .int .i64 0, .int .i64 0]), (5, Value.agg #[Value.string { data := #[121, 105, 101, 108, 100] }, .int .i64 4, .int .i64 0, .int .i64 0]), (6, Value.agg #[Value.string { data := #[101, 120, 105, 116] }, .int .i64 4, .int .i64 0, .int .i64 0]), (7, Value.agg #[Value.string { data := #[119, 101, 105, 103, 104, 116] }, .int .i64 4, .int .i64 2, .int .i64 0]), (8, Value.agg #[Value.string { data := #[109, 97, 115, 107] }, .int .i64 4, .int .i64 0, .int .i64 8]), (9, Value.agg #[Value.string { data := #[109, 111, 118, 101] }, .int .i64 4, .int .i64 4, .int .i64 0]), (10, Value.agg #[Value.string { data := #[111, 110, 108, 105, 110, 101] }, .int .i64 1, .int .i64 0, .int .i64 0]), (11, Value.agg #[Value.string { data := #[111, 102, 102, 108, 105, 110, 101] }, .int .i64 1, .int .i64 0, .int .i64 0]), (12, Value.agg #[Value.string { data := #[110, 101, 119, 103, 114, 111, 117, 112] }, .int .i64 4, .int .i64 2, .int .i64 0]), (13, Value.agg #[Value.string { data := #[100, 114, 111, 112, 103, 114, 111, 117, 112] }, .int .i64 4, .int .i64 0, .int .i64 0]), (14, Value.agg #[Value.string { data := #[103, 114, 111, 117, 112, 119, 101, 105, 103, 104, 116] }, .int .i64 4, .int .i64 2, .int .i64 0]), (15, Value.agg #[Value.string { data := #[103, 114, 111, 117, 112, 109, 111, 118, 101] }, .int .i64 4, .int .i64 4, .int .i64 0]), (16, Value.agg #[Value.string { data := #[116, 104, 114, 101, 97, 100] }, .int .i64 4, .int .i64 0, .int .i64 0]), (17, Value.agg #[Value.string { data := #[99, 111, 114, 101] }, .int .i64 1, .int .i64 0, .int .i64 0]), (18, Value.agg #[Value.string { data := #[103, 114, 111, 117, 112] }, .int .i64 4, .int .i64 0, .int .i64 0]), (19, Value.agg #[Value.string { data := #[100, 111, 109, 97, 105, 110] }, .int .i64 1, .int .i64 0, .int .i64 0])]).run Try.prog w = .ok (.agg sh80) w := by kernel_rfl
theorem info69 : (Try.prog.info? 69).map (fun i => (i.zero, i.size)) = some (some (.agg zs80), 80) := by kernel_rfl

set_option maxHeartbeats 400000 in
theorem size_any (s : ByteArray) (a b m : Int) (ha : 0 ≤ a ∧ a ≤ 8) (hb : 0 ≤ b ∧ b ≤ 8) (hm : 0 ≤ m ∧ m ≤ 8) (w : World) :
    Calls Try.prog 25 #[.agg #[.string s, .int .i64 a, .int .i64 b, .int .i64 m]] w fun e w' => e = .returned (.int .i64 (1 + a + b + m)) ∧ Ext w w' := by
  obtain ⟨ha0, ha1⟩ := ha
  obtain ⟨hb0, hb1⟩ := hb
  obtain ⟨hm0, hm1⟩ := hm
  go_enter Try.func25, Try.ntmps25
  go_wp2
  go_ret
  exact ⟨rfl, (Ext.refl _).alloc _⟩

theorem zero69 (w : World) : (zeroValue 69).run Try.prog w = .ok (.agg zs80) w := (zero_of_info info69).1 w
theorem size69 : (Try.prog.info? 69).map (·.size) = some 80 := (zero_of_info info69).2
theorem size69' : (Try.prog.info? 69).map (·.size) = some sh80.size := by kernel_rfl
theorem one80 : sh80.all (·.oneCell') = true := by kernel_rfl
theorem store69 (w : World) : (Instr.storeAt 69 (.pointer (some ⟨w.heap.size, 0, none⟩)) (.agg sh80)).run Try.prog (w.alloc (.cells zs80 69)) = .ok () (w.alloc (.cells sh80 69)) :=
  run_storeAt_new (P := Try.prog) w 69 zs80 sh80 size69 rfl one80
attribute [irreducible] sh80 zs80

set_option maxHeartbeats 400000 in
theorem shapes_any (w : World) :
    Calls Try.prog 30 #[] w fun e w' => e = .returned (.agg sh80) ∧ Ext w w' := by
  have hz := zero69 w
  go_enter Try.func30, Try.ntmps30
  go_wp2_with (first | (refine wpList_pure (o := ⟨some 20, _, _, _, _, _⟩) (.agg sh80) rfl ?_ ?_; (kernel_rfl)) | (refine wpList_store_new 69 zs80 sh80 _ _ rfl rfl rfl rfl ?_ ?_ ?_ ?_; exact size69'; kernel_rfl; exact one80))
  refine bodyPost_ret (v := .agg sh80) (results_cell_row (P := Try.prog) rfl _ _ w.heap.size 69 sh80 (0, 0) _ rfl ?_ Try.underlying69 rfl size69') rfl ⟨rfl, (Ext.refl _).alloc _⟩
  exact heap_alloc_new w _

end Go.Proofs.Ytiekicjloapepaa
