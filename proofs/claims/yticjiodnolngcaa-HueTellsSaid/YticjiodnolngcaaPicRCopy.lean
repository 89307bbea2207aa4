/- The reference's PicCopy. -/
import Derived.Test.YticjiodnolngcaaPicSame
set_option linter.unusedSimpArgs false
set_option linter.unusedVariables false
namespace Go.Proofs.Yticjiodnolngcaa
open Go.RowKit

set_option maxHeartbeats 8000000 in
theorem rcopy_any {w : World} {B : Nat} {q : Pc} {A : Option Addr} {c : Nat} (hr : RdLL w B .i64 A q.p) (hB : B ≤ w.heap.size) (hs : Small q.p) :
    Calls Try.prog 49 #[.agg #[.int .i64 q.w, .int .i64 q.h, .int .i64 q.d, .slice A q.p.length c]] w fun e w' => ∃ A' c', e = .returned (.agg #[.int .i64 q.w, .int .i64 q.h, .int .i64 q.d, .slice A' q.p.length c']) ∧
      OwnLL w' w.heap.size 22 3 .i64 (.slice A' q.p.length c') q.p ∧ Below w.heap.size w w' := by
  obtain ⟨qw, qh, qd, qp⟩ := q
  simp only at *
  obtain ⟨s1, s2⟩ := hs
  have HS := Lib.hid s2
  clear s2
  go_enter Try.func49, Try.ntmps49
  go_wp2
  obtain ⟨wa, hwa⟩ : ∃ wa, wa = ((w.alloc (.cells #[.int .i64 qw, .int .i64 qh, .int .i64 qd, .slice A qp.length c] 27)).alloc (.cells #[.int .i64 0, .int .i64 0, .int .i64 0, .slice none 0 0] 27)).alloc
    (.cells #[.int .i64 qw, .int .i64 qh, .int .i64 qd, .slice none 0 0] 27) := ⟨_, rfl⟩
  rw [← hwa]
  have bxa : Below w.heap.size w wa := by rw [hwa]; exact below_alloc (below_alloc (below_alloc (Below.refl _ _) _) _) _
  have b0 : Blk wa w.heap.size 27 #[.int .i64 qw, .int .i64 qh, .int .i64 qd, .slice A qp.length c] := by
    rw [hwa]
    exact ((Blk.new w _ _).alloc _).alloc _
  have b1 : Blk wa (w.heap.size + 1) 27 #[.int .i64 0, .int .i64 0, .int .i64 0, .slice none 0 0] := by
    rw [hwa]
    exact (Blk.new1 w _ _ _).alloc _
  have b2 : Blk wa (w.heap.size + 1 + 1) 27 #[.int .i64 qw, .int .i64 qh, .int .i64 qd, .slice none 0 0] := by
    rw [hwa]
    exact Blk.new2 w _ _ _ _
  clear hwa
  go_loopw [4] (fun i wr => ∃ (j : Nat) (v : Value), j ≤ qp.length ∧ i = .int .i64 j ∧ Below w.heap.size w wr ∧ Blk wr w.heap.size 27 #[.int .i64 qw, .int .i64 qh, .int .i64 qd, .slice A qp.length c] ∧ Blk wr (w.heap.size + 1) 27 #[.int .i64 0, .int .i64 0, .int .i64 0, .slice none 0 0] ∧
      Blk wr (w.heap.size + 1 + 1) 27 #[.int .i64 qw, .int .i64 qh, .int .i64 qd, v] ∧ OwnLL wr (w.heap.size + 3) 22 3 .i64 v (qp.take j)) (fun i _ => qp.length - (intOf i).toNat)
  case atStart => exact ⟨0, _, Nat.zero_le _, rfl, bxa, b0, b1, b2, by simpa using OwnLL.nil_ _ _ _ _ _⟩
  case round =>
    obtain ⟨j, v, hj, rfl, hbx, hb0, hb1, hb2, hll⟩ := hrel
    obtain ⟨y0, y1, y2, y3, _⟩ := hb0.four
    clear y0 y1 y2
    by_cases hlt : j < qp.length
    · obtain ⟨ad, Aj, cj, rfl, hadB, hcell, hcj, hrj⟩ := (hr.below hbx hB) j hlt
      have HE : Hid (qp.take (j + 1) = qp.take j ++ [qp.getD j []] ∧ (qp.getD j []).length ≤ 1000000 ∧ (qp.take j).length ≤ 1000000 ∧ (qp.take j).length = j) := by
        have e : qp.getD j [] = qp[j] := by simp [List.getD, List.getElem?_eq_getElem hlt]
        rw [Hid, e]
        exact ⟨List.take_succ_eq_append_getElem hlt, HS.out _ (List.getElem_mem hlt), by rw [List.length_take]; omega, by rw [List.length_take]; omega⟩
      generalize qp.getD j [] = l at *
      have hB2 : B ≤ w.heap.size := hB
      have hsz : w.heap.size + 3 ≤ wr.heap.size := hb2.lt
      have hBr : B ≤ wr.heap.size := by omega
      obtain ⟨k0, k1, k2, k3, f0, f1, f2, f3⟩ := hb2.four
      clear k0 k1 k2 f0 f1 f2
      have hba := hb2.alloc (.cells #[] 3)
      have k3a := hba.cell 3
      have y3a := (hb0.alloc (.cells #[] 3)).cell 3
      have hca : (wr.alloc (.cells #[] 3)).cell? (ad.add j) = some (.slice Aj l.length cj) := (World.cell?_alloc_lt wr _ _ (by rw [add_block]; omega)).trans hcell
      have hemp := OwnI.empty (e := 3) (k := .i64) wr wr.heap.size (Nat.le_refl _)
      have hba0 := below_alloc (Below.refl wr.heap.size wr) (.cells #[] 3)
      go_wp2
      go_region_law (first
        | (refine step_append_int _ (by rfl) (.tmp 21) (.tmp 26) _ (by rfl) wr wr.heap.size wr.heap.size 3 .i64 8 Try.underlying22 info_int _ [] (by rfl) (by exact hemp) B Aj l.length cj l (by rfl) (by rfl) (by exact hrj.alloc hBr _) (by have := HE.out.2.1; simp; omega) (by omega) (by repeat (first | exact Below.refl _ _ | assumption | refine Below.drew ?_ | refine below_drewN ?_ _ | refine below_alloc ?_ _)) (Nat.le_refl _) (by simp) ?_; intro v1 w1 hown1' hbel1 _ _; have hown1 : OwnI w1 wr.heap.size 3 .i64 v1 l := hown1'; clear hown1'; obtain ⟨A1, c1, rfl, hc1, hr1', hA1⟩ := hown1.form; clear hr1'; have hb21 := hb2.below hbel1 hsz; have k3' := hb21.cell 3; have k3b := (hb21.alloc (.cells #[.slice A1 l.length c1] 22)).cell 3; have hlo1 : ∀ ad, A1 = some ad → wr.heap.size ≤ ad.block := hown1.lo)
        | (refine step_push_ll (by rfl) (.tmp 20) (.tmp 28) _ (by rfl) w1 (w.heap.size + 3) 22 3 .i64 24 Try.underlying25 info_ints (by omega) (by decide) v (by rfl) _ _ hll (by exact hbel1) _ _ (by rfl) (by rfl) A1 _ _ l (by rfl) (hown1.base_ (by exact hsz)) (by exact hlo1) HE.out.2.2.1 (by have := hbel1.size; exact Nat.le_trans hsz this) ?_; intro v2 w2 hL2 hb2'; have hb2x := hb21.below hb2' (by omega); obtain ⟨_, _, _, k3x, _, _, _, f3x⟩ := hb2x.four; obtain ⟨A2, c2, hv2, hq2⟩ := hL2.form; clear hq2; subst hv2))
      all_goals
        have hL3 : OwnLL w2 (w.heap.size + 3) 22 3 .i64 (.slice A2 (j + 1) c2) (qp.take (j + 1)) := by
          rw [← HE.out.1, HE.out.1, List.length_append, HE.out.2.2.2, ← HE.out.1] at hL2
          exact hL2
        have hbw : Below (w.heap.size + 3) wr w2 := (hbel1.mono (by omega)).trans hb2'
        go_wp2
        go_roundw
        case rel =>
          exact ⟨j + 1, _, by omega, by go_num, (hbx.trans (hbw.mono (by omega))).setCell (by simp; omega) _, (hb0.below hbw (by omega)).far (by simp; omega) _, (hb1.below hbw (by omega)).far (by simp) _, hb2x.set_ 3 _, hL3.far (by simp) _⟩
        case measure => simp [intOf]; omega
    · have hjl : j = qp.length := by omega
      subst hjl
      rw [List.take_length] at hll
      obtain ⟨A', c', rfl, hc', _, _⟩ := hll.form
      obtain ⟨k0, k1, k2, k3, _⟩ := hb2.four
      obtain ⟨q0, q1, q2, q3, f0, f1, f2, f3⟩ := hb1.four
      go_wp2
      refine bodyPost_ret (v := .agg #[.int .i64 qw, .int .i64 qh, .int .i64 qd, .slice A' qp.length c']) (by simp [results, Try.results49, go_sem, q0, q1, q2, q3]) rfl ⟨A', c', rfl, ?_, ?_⟩
      · exact ((((hll.far (by simp) _).far (by simp) _).far (by simp) _).far (by simp) _).base_ (by omega)
      · exact (((hbx.setCell (by simp) _).setCell (by simp) _).setCell (by simp) _).setCell (by simp) _
end Go.Proofs.Yticjiodnolngcaa
