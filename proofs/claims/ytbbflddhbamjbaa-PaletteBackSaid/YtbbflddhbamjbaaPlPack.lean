/- palette.Pack of three bits, palette.Bits of five. -/
import Derived.Test.YtbbflddhbamjbaaPicFacts
import Derived.Test.YtbbflddhbamjbaaAgg
import Derived.Deep.DeepCutAuto
import Derived.Laws.BitsAllLaws
set_option linter.unusedSimpArgs false
set_option linter.unusedVariables false
namespace Go.Proofs.Ytbbflddhbamjbaa
open Go.RowKit

theorem info_u8 : (Try.prog.info? 5).map (fun i => (i.zero, i.size, i.bytes)) = some (some (.int .u8 0), 1, 1) := by kernel_rfl
theorem bits5_any (w : World) : Calls Try.prog 36 #[.int .i64 5] w fun e w' => e = .returned (.int .i64 4) ∧ w = w' := by
  go_enter Try.func36, Try.ntmps36
  go_wp2
  go_ret
  exact ⟨rfl, rfl⟩
theorem issize1_any (w : World) : Calls Try.prog 60 #[.int .i64 1] w fun e w' => e = .returned (.bool true) ∧ w = w' := by
  go_enter Try.func60, Try.ntmps60
  go_wp2
  go_ret
  exact ⟨rfl, rfl⟩
set_option maxHeartbeats 4000000 in
set_option maxRecDepth 100000 in
theorem pack3_any {w : World} {g : Nat} (h : Blk w g 3 #[.int .i64 1, .int .i64 0, .int .i64 1]) :
    Calls Try.prog 34 #[.slice (some ⟨g, 0, none⟩) 3 3, .int .i64 1] w fun e w' => ∃ g', e = .returned (.tuple #[.slice (some ⟨g', 0, none⟩) 1 1, .bool true]) ∧ RdI w' w'.heap.size .u8 (some ⟨g', 0, none⟩) [160] ∧ Below w.heap.size w w' := by
  have HS := Lib.hid (fun W => issize1_any W)
  have hmk : (Instr.makeSlice 62 (.int .i64 1) (.int .i64 1)).run Try.prog w = .ok (.slice (some ⟨w.heap.size, 0, none⟩) 1 1) (w.alloc (.cells #[.int .u8 0] 5)) := run_make_ints (P := Try.prog) w 62 Try.underlying62 info_u8 (by omega) .i64 1 1 (Nat.le_refl _) (by omega)
  go_enter Try.func34, Try.ntmps34
  go_upto_region 4 with (first
    | (go_at_call 60; (with_reducible refine (HS.out _).mono ?_); rintro e w1 ⟨rfl, rfl⟩))
  have kg := Blk.new w 5 #[.int .u8 0]
  have h1 := h.alloc (.cells #[.int .u8 0] 5)
  have b1 := below_alloc (Below.refl w.heap.size w) (.cells #[.int .u8 0] 5)
  have hne : g ≠ w.heap.size := by have := h.lt; omega
  generalize w.alloc (.cells #[.int .u8 0] 5) = w1 at *
  have c0 := h1.cell 0
  have c1 := h1.cell 1
  have c2 := h1.cell 2
  clear hmk h
  go_wp2
  refine wp_loop_rounds 4 ?_
  rw [rounds_succ]
  have v0 : IntKind.i64.wrap 0 = 0 := by decide
  have v7 : IntKind.i64.wrap 7 = 7 := by decide
  have v1 : IntKind.i64.wrap 1 = 1 := by decide
  have v2 : IntKind.i64.wrap 2 = 2 := by decide
  have v5 : IntKind.i64.wrap 5 = 5 := by decide
  have v6 : IntKind.i64.wrap 6 = 6 := by decide
  have v128 : IntKind.i64.wrap 128 = 128 := by decide
  have v32 : IntKind.i64.wrap 32 = 32 := by decide
  have u0 : w1.cell? ⟨w.heap.size, 0, none⟩ = some (.int .u8 0) := kg.cell 0
  have f0 := kg.frozen 0
  have d0 : w1.drew.cell? ⟨w.heap.size, 0, none⟩ = some (.int .u8 0) := u0
  have d1 : w1.drew.frozen? ⟨w.heap.size, 0, none⟩ = false := f0
  have o1 : bits .or .u8 0 128 = 128 := by decide
  have o2 : bits .or .u8 128 0 = 128 := by decide
  have o3 : bits .or .u8 128 32 = 160 := by decide
  go_upto_region 10 with fail
  refine wp_still_tail 15 (by kernel_rfl) (by kernel_rfl) ?_
  simp only [List.take_succ_cons, List.take_zero, List.drop_succ_cons, List.drop_zero]
  repeat still_step
  refine wpStill_nil ?_
  go_wp2
  have kg2 : Blk (w1.setCell ⟨w.heap.size, 0, none⟩ (.int .u8 128)).drew w.heap.size 5 #[.int .u8 128] := kg.set_ 0 (.int .u8 128)
  have h2 : Blk (w1.setCell ⟨w.heap.size, 0, none⟩ (.int .u8 128)).drew g 3 #[.int .i64 1, .int .i64 0, .int .i64 1] := h1.far hne _
  have b2 : Below w.heap.size w (w1.setCell ⟨w.heap.size, 0, none⟩ (.int .u8 128)).drew := (b1.setCell (by simp) _).drew
  clear u0 f0 d0 d1 c0 c1 c2 kg h1 b1
  generalize (w1.setCell ⟨w.heap.size, 0, none⟩ (.int .u8 128)).drew = w2 at *
  have c0 := h2.cell 0
  have c1 := h2.cell 1
  have c2 := h2.cell 2
  have u0 : w2.cell? ⟨w.heap.size, 0, none⟩ = some (.int .u8 128) := kg2.cell 0
  have f0 := kg2.frozen 0
  have d0 : w2.drew.cell? ⟨w.heap.size, 0, none⟩ = some (.int .u8 128) := u0
  have d1 : w2.drew.frozen? ⟨w.heap.size, 0, none⟩ = false := f0
  rw [rounds_succ]
  go_upto_region 10 with fail
  refine wp_still_tail 15 (by kernel_rfl) (by kernel_rfl) ?_
  simp only [List.take_succ_cons, List.take_zero, List.drop_succ_cons, List.drop_zero]
  repeat still_step
  refine wpStill_nil ?_
  go_wp2
  have kg3 : Blk (w2.setCell ⟨w.heap.size, 0, none⟩ (.int .u8 128)).drew w.heap.size 5 #[.int .u8 128] := kg2.set_ 0 (.int .u8 128)
  have h3 : Blk (w2.setCell ⟨w.heap.size, 0, none⟩ (.int .u8 128)).drew g 3 #[.int .i64 1, .int .i64 0, .int .i64 1] := h2.far hne _
  have b3 : Below w.heap.size w (w2.setCell ⟨w.heap.size, 0, none⟩ (.int .u8 128)).drew := (b2.setCell (by simp) _).drew
  clear u0 f0 d0 d1 c0 c1 c2 kg2 h2 b2
  generalize (w2.setCell ⟨w.heap.size, 0, none⟩ (.int .u8 128)).drew = w3 at *
  have c0 := h3.cell 0
  have c1 := h3.cell 1
  have c2 := h3.cell 2
  have u0 : w3.cell? ⟨w.heap.size, 0, none⟩ = some (.int .u8 128) := kg3.cell 0
  have f0 := kg3.frozen 0
  have d0 : w3.drew.cell? ⟨w.heap.size, 0, none⟩ = some (.int .u8 128) := u0
  have d1 : w3.drew.frozen? ⟨w.heap.size, 0, none⟩ = false := f0
  rw [rounds_succ]
  go_upto_region 10 with fail
  refine wp_still_tail 15 (by kernel_rfl) (by kernel_rfl) ?_
  simp only [List.take_succ_cons, List.take_zero, List.drop_succ_cons, List.drop_zero]
  repeat still_step
  refine wpStill_nil ?_
  go_wp2
  have kg4 : Blk (w3.setCell ⟨w.heap.size, 0, none⟩ (.int .u8 160)).drew w.heap.size 5 (ic .u8 [160]).toArray := kg3.set_ 0 (.int .u8 160)
  have b4 : Below w.heap.size w (w3.setCell ⟨w.heap.size, 0, none⟩ (.int .u8 160)).drew := (b3.setCell (by simp) _).drew
  clear u0 f0 d0 d1 c0 c1 c2 kg3 h3 b3
  generalize (w3.setCell ⟨w.heap.size, 0, none⟩ (.int .u8 160)).drew = w4 at *
  rw [rounds_succ]
  go_wp2
  go_ret2
  refine ⟨w.heap.size, rfl, ⟨rfl, fun _ => ⟨_, rfl, kg4.lt, fun j u hu => ?_⟩⟩, b4⟩
  have h1 := kg4.seg 0 1 j u
  exact h1 hu
end Go.Proofs.Ytbbflddhbamjbaa
