/- slices.Clone, pic.Copy. -/
import Derived.Test.YticjiodnolngcaaPicIs
import Derived.Test.YticjiodnolngcaaPicLL
import Derived.Deep.RegionLaw
import Derived.Lib.SliceRun
set_option linter.unusedSimpArgs false
set_option linter.unusedVariables false
namespace Go.Proofs.Yticjiodnolngcaa
open Go.RowKit

theorem info_int : (Try.prog.info? 3).map (fun i => (i.zero, i.size, i.bytes)) = some (some (.int .i64 0), 1, 8) := by kernel_rfl
theorem info_ints : (Try.prog.info? 22).map (fun i => (i.zero, i.size, i.bytes)) = some (some (.slice none 0 0), 1, 24) := by kernel_rfl

theorem clone_any (A : Option Addr) (n c : Nat) (l : List Int) (hnl : n = l.length) (hn : l.length ≤ 1000000) (w : World) (B : Nat) (hB : B ≤ w.heap.size) (hr : RdI w B .i64 A l) :
    Calls Try.prog 44 #[.slice A n c] w fun e w' => ∃ A' c', e = .returned (.slice A' l.length c') ∧ OwnI w' w.heap.size 3 .i64 (.slice A' l.length c') l ∧ Below w.heap.size w w' := by
  subst hnl
  have hnil := fun W => Lib.run_eql_slice_nil (P := Try.prog) W 22 _ A l.length c 0 0 Try.underlying22
  rcases A with _ | ad
  · have h0 : l = [] := by
      rcases Nat.eq_zero_or_pos l.length with h0 | h0
      · exact List.eq_nil_of_length_eq_zero h0
      · obtain ⟨ad, h, _⟩ := hr.2 h0
        cases h
    subst h0
    simp only [List.length_nil, Option.isNone_none] at hnil
    go_enter Try.func44, Try.ntmps44
    go_wp2
    go_ret
    exact ⟨none, 0, rfl, OwnI.nil_ _ _ _ _, Below.refl _ _⟩
  · simp only [Option.isNone_some] at hnil
    go_enter Try.func44, Try.ntmps44
    go_wp2_with (first
      | (at_builtin; go_must (refine wpList_append_int _ rfl (.tmp 5) (.tmp 6) _ rfl w w.heap.size w.heap.size 3 .i64 8 Try.underlying22 info_int _ [] rfl (OwnI.empty w _ _ _ (Nat.le_refl _)) B (some ad) l.length c l rfl rfl (hr.alloc hB _) (by simp; omega) (by omega) (by repeat (first | exact Below.refl _ _ | assumption | refine Below.drew ?_ | refine below_drewN ?_ _ | refine below_alloc ?_ _)) (Nat.le_refl _) (by simp) ?_); intro v1 w1 hown1 hbel1; simp only [List.nil_append] at hown1; obtain ⟨A1, c1, rfl, hc1, hr1, hA1⟩ := hown1.form))
    go_ret
    exact ⟨_, _, rfl, hown1, hbel1⟩

/-- The bounds of pictures that are walked over. -/
def Small (ls : List (List Int)) : Prop := ls.length ≤ 1000000 ∧ ∀ l ∈ ls, l.length ≤ 1000000

set_option maxHeartbeats 2000000 in
theorem copy_any {w : World} {B : Nat} {q : Pc} {A : Option Addr} {c : Nat} (hr : RdLL w B .i64 A q.p) (hB : B ≤ w.heap.size) (hs : Small q.p) :
    Calls Try.prog 31 #[.agg #[.int .i64 q.w, .int .i64 q.h, .int .i64 q.d, .slice A q.p.length c]] w fun e w' => ∃ A' c', e = .returned (.agg #[.int .i64 q.w, .int .i64 q.h, .int .i64 q.d, .slice A' q.p.length c']) ∧
      OwnLL w' w.heap.size 22 3 .i64 (.slice A' q.p.length c') q.p ∧ Below w.heap.size w w' := by
  obtain ⟨qw, qh, qd, qp⟩ := q
  simp only at *
  obtain ⟨s1, s2⟩ := hs
  have HS := Lib.hid s2
  clear s2
  go_enter Try.func31, Try.ntmps31
  go_wp2
  obtain ⟨wa, hwa⟩ : ∃ wa, wa = ((w.alloc (.cells #[.int .i64 qw, .int .i64 qh, .int .i64 qd, .slice A qp.length c] 27)).alloc (.cells #[.int .i64 0, .int .i64 0, .int .i64 0, .slice none 0 0] 27)).alloc
    (.cells #[.int .i64 qw, .int .i64 qh, .int .i64 qd, .slice none 0 0] 27) := ⟨_, rfl⟩
  rw [← hwa]
  have bxa : Below w.heap.size w wa := by rw [hwa]; exact below_alloc (below_alloc (below_alloc (Below.refl _ _) _) _) _
  have b1 : Blk wa (w.heap.size + 1) 27 #[.int .i64 0, .int .i64 0, .int .i64 0, .slice none 0 0] := by
    rw [hwa]
    exact (Blk.new1 w _ _ _).alloc _
  have b2 : Blk wa (w.heap.size + 1 + 1) 27 #[.int .i64 qw, .int .i64 qh, .int .i64 qd, .slice none 0 0] := by
    rw [hwa]
    exact Blk.new2 w _ _ _ _
  clear hwa
  go_loopw [16] (fun i wr => ∃ (j : Nat) (v : Value), j ≤ qp.length ∧ i = .int .i64 j ∧ Below w.heap.size w wr ∧ Blk wr (w.heap.size + 1) 27 #[.int .i64 0, .int .i64 0, .int .i64 0, .slice none 0 0] ∧
      Blk wr (w.heap.size + 1 + 1) 27 #[.int .i64 qw, .int .i64 qh, .int .i64 qd, v] ∧ OwnLL wr (w.heap.size + 3) 22 3 .i64 v (qp.take j)) (fun i _ => qp.length - (intOf i).toNat)
  case atStart => exact ⟨0, _, Nat.zero_le _, rfl, bxa, b1, b2, by simpa using OwnLL.nil_ _ _ _ _ _⟩
  case round =>
    obtain ⟨j, v, hj, rfl, hbx, hb1, hb2, hll⟩ := hrel
    by_cases hlt : j < qp.length
    · obtain ⟨ad, Aj, cj, rfl, hadB, hcell, hcj, hrj⟩ := (hr.below hbx hB) j hlt
      have HE : Hid (qp.take (j + 1) = qp.take j ++ [qp.getD j []] ∧ (qp.getD j []).length ≤ 1000000 ∧ (qp.take j).length ≤ 1000000) := by
        have e : qp.getD j [] = qp[j] := by simp [List.getD, List.getElem?_eq_getElem hlt]
        rw [Hid, e]
        exact ⟨List.take_succ_eq_append_getElem hlt, HS.out _ (List.getElem_mem hlt), by rw [List.length_take]; omega⟩
      generalize qp.getD j [] = l at *
      have hB2 : B ≤ w.heap.size := hB
      have hsz : w.heap.size + 3 ≤ wr.heap.size := hb2.lt
      obtain ⟨k0, k1, k2, k3, f0, f1, f2, f3⟩ := hb2.four
      clear k0 k1 k2 f0 f1 f2
      go_wp2
      go_region_law (first
        | (go_simp; go_at_call 44; refine (clone_any _ _ _ l (by rfl) HE.out.2.1 _ B (by exact Nat.le_trans hB2 hbx.size) (by exact hrj)).mono ?_; rintro e w1 ⟨A1, c1, rfl, hown1, hbel1'⟩; have hbel1 := below_undrew hbel1'; clear hbel1'; have k3' := (hb2.below hbel1 (by exact hsz)).cell 3; have k3a := ((hb2.below hbel1 (by exact hsz)).alloc (.cells #[.slice A1 l.length c1] 22)).cell 3; have hlo1 : ∀ ad, A1 = some ad → wr.heap.size ≤ ad.block := hown1.lo)
        | (refine step_push_ll (by rfl) (.tmp 21) (.tmp 24) _ (by rfl) w1 (w.heap.size + 3) 22 3 .i64 24 Try.underlying25 info_ints (by omega) (by decide) v (by rfl) _ _ hll (by exact hbel1) _ _ (by rfl) (by rfl) A1 _ _ l (by rfl) (hown1.base_ (by exact hsz)) (by exact hlo1) HE.out.2.2 (by have := hbel1.size; exact Nat.le_trans hsz this) ?_; intro v2 w2 hL2 hb2'; have hb2x := (hb2.below hbel1 (by exact hsz)).below hb2' (by omega); obtain ⟨_, _, _, k3x, _, _, _, f3x⟩ := hb2x.four; obtain ⟨A2, c2, hv2, hq2⟩ := hL2.form; clear hq2; subst hv2))
      all_goals
        have hL3 : OwnLL w2 (w.heap.size + 3) 22 3 .i64 (.slice A2 (j + 1) c2) (qp.take (j + 1)) := by
          rw [← HE.out.1, List.length_take, Nat.min_eq_left (by omega)] at hL2
          exact hL2
        have hbw : Below (w.heap.size + 3) wr w2 := (hbel1.mono (by omega)).trans hb2'
        go_wp2
        go_roundw
        case rel =>
          exact ⟨j + 1, _, by omega, by go_num, (hbx.trans (hbw.mono (by omega))).setCell (by simp; omega) _, (hb1.below hbw (by omega)).far (by simp) _, hb2x.set_ 3 _, hL3.far (by simp) _⟩
        case measure => simp [intOf]; omega
    · have hjl : j = qp.length := by omega
      subst hjl
      rw [List.take_length] at hll
      obtain ⟨A', c', rfl, hc', _, _⟩ := hll.form
      obtain ⟨k0, k1, k2, k3, _⟩ := hb2.four
      obtain ⟨q0, q1, q2, q3, f0, f1, f2, f3⟩ := hb1.four
      go_wp2
      refine bodyPost_ret (v := .agg #[.int .i64 qw, .int .i64 qh, .int .i64 qd, .slice A' qp.length c']) (by simp [results, Try.results31, go_sem, q0, q1, q2, q3]) rfl ⟨A', c', rfl, ?_, ?_⟩
      · exact ((((hll.far (by simp) _).far (by simp) _).far (by simp) _).far (by simp) _).base_ (by omega)
      · exact (((hbx.setCell (by simp) _).setCell (by simp) _).setCell (by simp) _).setCell (by simp) _
end Go.Proofs.Yticjiodnolngcaa
