/- lays, opens of chapter 32. -/
import Derived.Test.YtkgenjgomnalpaaPkRLay
import Derived.Test.YtkgenjgomnalpaaPkOpen
import Derived.Test.YtkgenjgomnalpaaRPkOpen
import Derived.Test.YtkgenjgomnalpaaPkSame
import Derived.Test.YtkgenjgomnalpaaPgLaws
set_option linter.unusedSimpArgs false
set_option linter.unusedVariables false
namespace Go.Proofs.Ytkgenjgomnalpaa
open Go.RowKit

theorem layB_byte {p : Pk} (hw : p.wf) : byteB (layB p) := by
  by_cases h : layE p = 0
  · rw [layB, if_pos h]; exact bytes_byte h hw
  · rw [layB, if_neg h]; exact byteB.nil_

set_option maxHeartbeats 4000000 in
theorem lays_any (p : Pk) (A : Option Addr) (c : Nat) (hw : p.wf) (w : World) (hr : RdI w w.heap.size .u8 A p.data) :
    Calls Try.prog 14 #[p.val A c] w fun e w' => e = .returned (.bool true) ∧ Below w.heap.size w w' := by
  have HL := Lib.hid (fun W (hb : Below w.heap.size w W) => lay_any p A c hw W (RdI.more (hr.below hb (Nat.le_refl _)) hb.size))
  have HR := Lib.hid (fun W (hb : Below w.heap.size w W) => rlay_any p A c hw W (RdI.more (hr.below hb (Nat.le_refl _)) hb.size))
  obtain ⟨st, at_, ln, key, hid, data⟩ := p
  generalize layE ⟨st, at_, ln, key, hid, data⟩ = E at *
  generalize layB ⟨st, at_, ln, key, hid, data⟩ = B at *
  simp only [Pk.val] at HL HR ⊢
  clear hr hw
  go_enter Try.func14, Try.ntmps14
  go_wp2_with fail
  have kb := Blk.new w 25 #[.int .i64 st, .int .i64 at_, .int .i64 ln, .bool key, .bool hid, .slice A data.length c]
  have hbw : Below w.heap.size w (w.alloc (.cells #[.int .i64 st, .int .i64 at_, .int .i64 ln, .bool key, .bool hid, .slice A data.length c] 25)) := below_alloc (Below.refl _ _) _
  generalize w.alloc (.cells #[.int .i64 st, .int .i64 at_, .int .i64 ln, .bool key, .bool hid, .slice A data.length c] 25) = wb at *
  have hgl := kb.lt
  have x0 := kb.cell 0
  have x1 := kb.cell 1
  have x2 := kb.cell 2
  have x3 := kb.cell 3
  have x4 := kb.cell 4
  have x5 := kb.cell 5
  go_wp2_with (first
    | (go_at_call 11; (with_reducible refine (HL.out _ hbw).mono ?_); rintro e w1 ⟨v1, rfl, ho1, hb1⟩; have k1 := kb.below hb1 hgl; have y0 := k1.cell 0; have y1 := k1.cell 1; have y2 := k1.cell 2; have y3 := k1.cell 3; have y4 := k1.cell 4; have y5 := k1.cell 5; obtain ⟨A1, c1, rfl, hc1, hr1, _⟩ := ho1.form)
    | (go_at_call 35; (with_reducible refine (HR.out _ (below_then hbw hb1)).mono ?_); rintro e w2 ⟨v2, rfl, ho2, hb2⟩; obtain ⟨A2, c2, rfl, hc2, hr2, _⟩ := ho2.form; have g1 := run_str (P := Try.prog) Try.underlying23 Try.underlying5 Try.underlying9 (hr1.below hb2 (Nat.le_refl _)) c1; have g2 := run_str (P := Try.prog) Try.underlying23 Try.underlying5 Try.underlying9 hr2 c2))
  go_ret
  exact ⟨rfl, below_then (below_then hbw hb1) hb2⟩

set_option maxHeartbeats 4000000 in
set_option maxRecDepth 100000 in
theorem opens_n {b : List Int} (n : Nat) (hn : b.length = n) {A : Option Addr} {c : Nat} {w : World} {B : Nat} (hr : RdI w B .u8 A b) (hB : B ≤ w.heap.size) (hb : byteB b) (hc : n ≤ c) (hl : n ≤ 1000000000) :
    Calls Try.prog 15 #[.slice A n c] w fun e w' => e = .returned (.bool true) ∧ Below w.heap.size w w' := by
  subst hn
  have HO := Lib.hid (fun W (h : Below w.heap.size w W) => open_any (c := c) (hr.below h hB) (Nat.le_trans hB h.size) hb hc hl)
  have HR := Lib.hid (fun W (h : Below w.heap.size w W) => ropen_any (c := c) (hr.below h hB) (Nat.le_trans hB h.size) hb hc hl)
  have hw := openP_wf hb (by omega)
  generalize openE b = E at *
  generalize openP b = P at *
  have HS := Lib.hid (fun (A A' : Option Addr) (c c' : Nat) (W : World) ha hb => samepk_any P P A A' c c' W ha hb hw.bytes hw.bytes)
  rw [decide_eq_true rfl] at HS
  obtain ⟨st, at_, ln, key, hid, data⟩ := P
  simp only [Pk.val] at HO HR HS
  clear hr hb hw
  go_enter Try.func15, Try.ntmps15
  go_wp2_with (first
    | (go_at_call 12; (with_reducible refine (HO.out _ (Below.refl _ _)).mono ?_); rintro e w1 ⟨A1, c1, rfl, ho1, hb1⟩; have k1 := Blk.new w1 25 #[.int .i64 st, .int .i64 at_, .int .i64 ln, .bool key, .bool hid, .slice A1 data.length c1]; have b1 := below_alloc hb1 (.cells #[.int .i64 st, .int .i64 at_, .int .i64 ln, .bool key, .bool hid, .slice A1 data.length c1] 25))
    | (go_at_call 36; (with_reducible refine (HR.out _ b1).mono ?_); rintro e w2 ⟨A2, c2, rfl, ho2, hb2⟩; have k2 := (k1.below hb2 k1.lt).alloc (.cells #[.int .i64 st, .int .i64 at_, .int .i64 ln, .bool key, .bool hid, .slice A2 data.length c2] 25); have q0 := k2.cell 0; have q1 := k2.cell 1; have q2 := k2.cell 2; have q3 := k2.cell 3; have q4 := k2.cell 4; have q5 := k2.cell 5; have b2 := below_alloc (below_then b1 hb2) (.cells #[.int .i64 st, .int .i64 at_, .int .i64 ln, .bool key, .bool hid, .slice A2 data.length c2] 25); have r1 := ((ho1.rds.2.2.top.alloc (Nat.le_refl _) (.cells #[.int .i64 st, .int .i64 at_, .int .i64 ln, .bool key, .bool hid, .slice A1 data.length c1] 25)).below hb2 (by simp)).alloc (by have := hb2.size; simp at this; omega) (.cells #[.int .i64 st, .int .i64 at_, .int .i64 ln, .bool key, .bool hid, .slice A2 data.length c2] 25); have r1 := r1.more (B' := w2.heap.size + 1) (by have := hb2.size; simp at this; omega); have r2 := (ho2.rds.2.2.top.alloc (Nat.le_refl _) (.cells #[.int .i64 st, .int .i64 at_, .int .i64 ln, .bool key, .bool hid, .slice A2 data.length c2] 25)).more (B' := w2.heap.size + 1) (by omega); have hz : (w2.alloc (.cells #[.int .i64 st, .int .i64 at_, .int .i64 ln, .bool key, .bool hid, .slice A2 data.length c2] 25)).heap.size = w2.heap.size + 1 := (by simp); rw [← hz] at r1 r2; have hne : w1.heap.size < w2.heap.size := (by have := hb2.size; simp at this; omega); clear hz)
    | (go_at_call 13; (with_reducible refine (HS.out A1 A2 c1 c2 _ r1 r2).mono ?_); rintro e w3 ⟨rfl, hb3⟩))
  go_ret
  exact ⟨rfl, below_then b2 hb3⟩
end Go.Proofs.Ytkgenjgomnalpaa
