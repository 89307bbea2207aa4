/- The reference's PicIs. -/
import Derived.Test.YtbbflddhbamjbaaPicRef
set_option linter.unusedSimpArgs false
set_option linter.unusedVariables false
namespace Go.Proofs.Ytbbflddhbamjbaa
open Go.RowKit

theorem isB_planes {q : Pc} (h : isB q = true) : 1 ≤ q.p.length ∧ q.p.length ≤ 4 ∧ ∀ l ∈ q.p, planeB q.w q.h q.d l = true := by
  rw [isB, Bool.and_eq_true, List.all_eq_true] at h
  obtain ⟨h1, h2⟩ := h
  simp only [possB, decide_eq_true_eq] at h1
  refine ⟨by omega, by omega, fun l hl => ?_⟩
  have h3 := h2 l hl
  rw [okPl, Bool.and_eq_true, decide_eq_true_eq] at h3
  simp only [planeB, Bool.and_eq_true, decide_eq_true_eq]
  exact ⟨⟨⟨⟨by omega, by omega⟩, by omega⟩, h3.1⟩, h3.2⟩
theorem planes_isB {q : Pc} (h1 : 1 ≤ q.p.length) (h4 : q.p.length ≤ 4) (h : ∀ l ∈ q.p, planeB q.w q.h q.d l = true) : isB q = true := by
  simp only [planeB, Bool.and_eq_true, decide_eq_true_eq] at h
  have h0 := h _ (getDD_mem (j := 0) (by omega))
  rw [isB, Bool.and_eq_true, List.all_eq_true]
  refine ⟨by simp only [possB, decide_eq_true_eq]; omega, fun l hl => ?_⟩
  rw [okPl, Bool.and_eq_true, decide_eq_true_eq]
  exact ⟨(h l hl).1.2, (h l hl).2⟩

set_option maxHeartbeats 4000000 in
theorem picis_any {w : World} {B : Nat} {q : Pc} {A : Option Addr} {c : Nat} (hr : RdLL w B .i64 A q.p) (hB : B ≤ w.heap.size) (h63 : Len63 q.p) :
    Calls Try.prog 29 #[.agg #[.int .i64 q.w, .int .i64 q.h, .int .i64 q.d, .slice A q.p.length c]] w fun e w' => e = .returned (.bool (isB q)) ∧ Below w.heap.size w w' := by
  have hPl := fun (h1 : 1 ≤ q.p.length) (h4 : q.p.length ≤ 4) (h : ∀ l ∈ q.p, planeB q.w q.h q.d l = true) => planes_isB h1 h4 h
  have hPm := fun (h : isB q = true) => isB_planes h
  obtain ⟨qw, qh, qd, qp⟩ := q
  simp only at *
  obtain ⟨s1, s2⟩ := h63
  generalize isB ⟨qw, qh, qd, qp⟩ = r at *
  have HPl := Lib.hid hPl
  have HPm := Lib.hid hPm
  have HS := Lib.hid s2
  clear hPl hPm s2
  go_enter Try.func29, Try.ntmps29
  go_wp2
  have k0 := (Blk.new w 30 #[.int .i64 qw, .int .i64 qh, .int .i64 qd, .slice A qp.length c])
  have bxa := below_alloc (Below.refl w.heap.size w) (.cells #[.int .i64 qw, .int .i64 qh, .int .i64 qd, .slice A qp.length c] 30)
  generalize w.alloc (.cells #[.int .i64 qw, .int .i64 qh, .int .i64 qd, .slice A qp.length c] 30) = wa at *
  go_loopw [3] (fun i wr => ∃ (j : Nat), j ≤ qp.length ∧ i = .int .i64 j ∧ j ≤ 4 ∧ (∀ l ∈ qp.take j, planeB qw qh qd l = true) ∧ Blk wr w.heap.size 30 #[.int .i64 qw, .int .i64 qh, .int .i64 qd, .slice A qp.length c] ∧ Below w.heap.size w wr) (fun i _ => qp.length - (intOf i).toNat)
  case atStart => exact ⟨0, Nat.zero_le _, rfl, by omega, by simp, k0, bxa⟩
  case round =>
    obtain ⟨j, hj, rfl, hj4, hall, hk, hbw⟩ := hrel
    have HA := Lib.hid hall
    clear hall
    obtain ⟨x0, x1, x2, x3, _⟩ := hk.four
    by_cases hlt : j < qp.length
    · by_cases h4 : 4 ≤ j
      · have HF := Lib.hid (show r = false by
          rcases hr' : r with _ | _
          · rfl
          · have := HPm.out hr'
            omega)
        have h4' : (4 : Int) ≤ (j : Int) := by omega
        go_wp2
        go_quiet (fail)
        go_wp2
        go_ret
        exact ⟨ret_bool HF.out.symm, below_drewN hbw _⟩
      · obtain ⟨ad, Aj, cj, rfl, hadB, hcell, hcj, hrj⟩ := (hr.below hbw hB) j hlt
        have HM := Lib.hid (getDD_mem hlt)
        have HT := Lib.hid (show qp.take (j + 1) = qp.take j ++ [qp.getD j []] by
          have e : qp.getD j [] = qp[j] := by simp [List.getD, List.getElem?_eq_getElem hlt]
          rw [e]
          exact List.take_succ_eq_append_getElem hlt)
        have h63j := Lib.hid (HS.out _ HM.out)
        have h4' : ¬ (4 : Int) ≤ (j : Int) := by omega
        generalize qp.getD j [] = l at *
        have HC := fun m => quiet_left (rplane_any (w := wr.drewN m) (c := cj) (RdI.drewN hrj m) h63j.out qw qh qd)
        cases hpb : planeB qw qh qd l
        · have HF := Lib.hid (show r = false by
            rcases hr' : r with _ | _
            · rfl
            · have := (HPm.out hr').2.2 l HM.out
              rw [hpb] at this
              cases this)
          simp only [hpb] at HC
          replace HC := Lib.hid HC
          clear hpb
          go_wp2
          go_quiet ((go_at_call 57; exact HC.out _))
          go_wp2
          go_ret
          exact ⟨ret_bool HF.out.symm, below_drewN hbw _⟩
        · simp only [hpb] at HC
          replace HC := Lib.hid HC
          have HPb := Lib.hid hpb
          clear hpb
          go_wp2
          go_quiet ((go_at_call 57; exact HC.out _))
          go_wp2
          go_roundw
          case rel =>
            refine ⟨j + 1, by omega, by go_num, by omega, fun l' hl' => ?_, hk.drewN _, below_drewN hbw _⟩
            rw [HT.out, List.mem_append, List.mem_singleton] at hl'
            rcases hl' with hl' | rfl
            · exact HA.out _ hl'
            · exact HPb.out
          case measure => simp [intOf]; omega
    · have hjl : j = qp.length := by omega
      subst hjl
      by_cases h1 : 1 ≤ qp.length
      · have HF := Lib.hid (show r = true from HPl.out h1 hj4 (by have := HA.out; rwa [List.take_length] at this))
        have h1' : (1 : Int) ≤ (qp.length : Int) := by omega
        go_wp2
        go_ret
        exact ⟨ret_bool HF.out.symm, hbw⟩
      · have HF := Lib.hid (show r = false by
          rcases hr' : r with _ | _
          · rfl
          · have := (HPm.out hr').1
            omega)
        have h1' : ¬ (1 : Int) ≤ (qp.length : Int) := by omega
        go_wp2
        go_ret
        exact ⟨ret_bool HF.out.symm, hbw⟩
end Go.Proofs.Ytbbflddhbamjbaa
