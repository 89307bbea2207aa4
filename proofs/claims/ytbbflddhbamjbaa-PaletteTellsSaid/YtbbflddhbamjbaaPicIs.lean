/- pic.possible, inside, Is. -/
import Derived.Test.YtbbflddhbamjbaaPicNumL
set_option linter.unusedSimpArgs false
set_option linter.unusedVariables false
namespace Go.Proofs.Ytbbflddhbamjbaa
open Go.RowKit

theorem ret_bool {a b : Bool} (h : a = b) : Ending.returned (.bool a) = .returned (.bool b) := by rw [h]

def possB (w h d n : Int) : Bool := decide (1 ≤ w ∧ w ≤ 64 ∧ 1 ≤ h ∧ h ≤ 64 ∧ 1 ≤ d ∧ d ≤ 16 ∧ 1 ≤ n ∧ n ≤ 4)
set_option maxHeartbeats 1000000 in
theorem possible_any (a b c d : Int) (w : World) : Calls Try.prog 63 #[.int .i64 a, .int .i64 b, .int .i64 c, .int .i64 d] w fun e w' => e = .returned (.bool (possB a b c d)) ∧ w = w' := by
  go_enter Try.func63, Try.ntmps63
  go_wp2
  all_goals
    go_ret
    exact ⟨ret_bool (by unfold possB; first | (simp; omega) | (rw [decide_eq_decide]; omega)), rfl⟩

/-- A picture. -/
structure Pc where
  w : Int
  h : Int
  d : Int
  p : List (List Int)
def okV (d v : Int) : Bool := decide (0 ≤ v ∧ v < 2 ^ d.toNat)
def okPl (q : Pc) (l : List Int) : Bool := decide ((l.length : Int) = q.w * q.h) && l.all (okV q.d)
def isB (q : Pc) : Bool := possB q.w q.h q.d q.p.length && q.p.all (okPl q)
/-- The value of a picture whose planes lie at A. -/
def picV (q : Pc) (A : Option Addr) (c : Nat) : Value := .agg #[.int .i64 q.w, .int .i64 q.h, .int .i64 q.d, .slice A q.p.length c]

theorem mul_64 {a b : Int} (h1 : 1 ≤ a ∧ a ≤ 64) (h2 : 1 ≤ b ∧ b ≤ 64) : 1 ≤ a * b ∧ a * b ≤ 4096 := by
  have h3 : a * b ≤ 64 * b := Int.mul_le_mul_of_nonneg_right h1.2 (by omega)
  have h4 : 1 * b ≤ a * b := Int.mul_le_mul_of_nonneg_right h1.1 (by omega)
  omega

set_option maxHeartbeats 2000000 in
theorem is_any {w : World} {B : Nat} {q : Pc} {A : Option Addr} {c : Nat} (hr : RdLL w B .i64 A q.p) (hB : B ≤ w.heap.size) :
    Calls Try.prog 44 #[.agg #[.int .i64 q.w, .int .i64 q.h, .int .i64 q.d, .slice A q.p.length c]] w fun e w' => e = .returned (.bool (isB q)) ∧ Below w.heap.size w w' := by
  have HP := Lib.hid (fun W => possible_any q.w q.h q.d q.p.length W)
  cases hp : possB q.w q.h q.d q.p.length
  · rw [hp] at HP
    have HF := Lib.hid (show isB q = false by simp [isB, hp])
    clear hp
    go_enter Try.func44, Try.ntmps44
    go_wp2_with (first
      | (go_at_call 63; go_must (refine (HP.out _).mono ?_); rintro e w1 ⟨rfl, rfl⟩))
    go_ret
    exact ⟨ret_bool HF.out.symm, below_alloc (Below.refl _ _) _⟩
  · rw [hp] at HP
    have hb := hp
    simp only [possB, decide_eq_true_eq] at hb
    obtain ⟨b1, b2, b3, b4, b5, b6, b7, b8⟩ := hb
    obtain ⟨m1, m2⟩ := mul_64 ⟨b1, b2⟩ ⟨b3, b4⟩
    have HPo := Lib.hid hp
    clear hp
    obtain ⟨qw, qh, qd, qp⟩ := q
    simp only at *
    obtain ⟨dk, rfl⟩ := Int.eq_ofNat_of_zero_le (show 0 ≤ qd by omega)
    have p1 := (pow_16 (k := dk) (by omega) (by omega)).2.1
    have p0 := (pow_16 (k := dk) (by omega) (by omega)).1
    go_enter Try.func44, Try.ntmps44
    go_wp2_with (first
      | (go_at_call 63; go_must (refine (HP.out _).mono ?_); rintro e w1 ⟨rfl, rfl⟩))
    obtain ⟨wa, hwa⟩ : ∃ wa, wa = w.alloc (.cells #[.int .i64 qw, .int .i64 qh, .int .i64 (dk : Int), .slice A qp.length c] 30) := ⟨_, rfl⟩
    rw [← hwa]
    have bxa : Below w.heap.size w wa := by rw [hwa]; exact below_alloc (Below.refl _ _) _
    have k0 : wa.cell? ⟨w.heap.size, 0, none⟩ = some (.int .i64 qw) := by rw [hwa]; exact (Blk.new w _ _).cell 0
    have k1 : wa.cell? ⟨w.heap.size, 1, none⟩ = some (.int .i64 qh) := by rw [hwa]; exact (Blk.new w _ _).cell 1
    have k2 : wa.cell? ⟨w.heap.size, 2, none⟩ = some (.int .i64 (dk : Int)) := by rw [hwa]; exact (Blk.new w _ _).cell 2
    have hra := hr.below bxa hB
    clear hwa hr
    go_loop [21] (fun i => ∃ j : Nat, j ≤ qp.length ∧ i = .int .i64 j ∧ ∀ x ∈ qp.take j, okPl ⟨qw, qh, dk, qp⟩ x = true) (fun i => qp.length - (intOf i).toNat)
    case atStart => exact ⟨0, Nat.zero_le _, rfl, by simp⟩
    case round =>
      obtain ⟨j, hj, rfl, hall⟩ := hrel
      have HA := Lib.hid hall
      clear hall
      by_cases hlt : j < qp.length
      · obtain ⟨ad, Aj, cj, rfl, hadB, hcell, hcj, hrj⟩ := hra j hlt
        have HE : Hid (qp.getD j [] ∈ qp ∧ qp.take (j + 1) = qp.take j ++ [qp.getD j []]) := by
          have e : qp.getD j [] = qp[j] := by simp [List.getD, List.getElem?_eq_getElem hlt]
          rw [Hid, e]
          exact ⟨List.getElem_mem hlt, List.take_succ_eq_append_getElem hlt⟩
        have hmax : (qp.getD j []).length ≤ 9223372036854775807 ∨ ¬ (qp.getD j []).length ≤ 9223372036854775807 := by omega
        by_cases hlen : ((qp.getD j []).length : Int) = qw * qh
        · have t1 : (((qp.getD j []).length : Int) != qw * qh) = false := by rw [hlen]; simp
          have hl4 : (qp.getD j []).length ≤ 4096 := by omega
          have HL := Lib.hid hlen
          clear hlen hmax
          generalize qp.getD j [] = l at *
          go_wp2
          go_loop [35] (fun i => ∃ k : Nat, k ≤ l.length ∧ i = .int .i64 k ∧ ∀ x ∈ l.take k, okV (dk : Int) x = true) (fun i => l.length - (intOf i).toNat)
          case atStart => exact ⟨0, Nat.zero_le _, rfl, by simp⟩
          case round =>
            obtain ⟨k, hk, rfl, hallk⟩ := hrel
            have HK := Lib.hid hallk
            clear hallk
            by_cases hkl : k < l.length
            · obtain ⟨ad2, rfl, _, hcell2⟩ := hrj.at_ hkl
              have HS : Hid (l.getD k 0 ∈ l ∧ l.take (k + 1) = l.take k ++ [l.getD k 0]) := by
                have e : l.getD k 0 = l[k] := by simp [List.getD, List.getElem?_eq_getElem hkl]
                rw [Hid, e]
                exact ⟨List.getElem_mem hkl, List.take_succ_eq_append_getElem hkl⟩
              generalize l.getD k 0 = x at *
              have HOk : Hid (okV (dk : Int) x = (decide (0 ≤ x ∧ x < 2 ^ dk))) := rfl
              by_cases hx0 : x < 0
              · have HF : Hid (isB ⟨qw, qh, dk, qp⟩ = false) := by
                  show _ = _
                  have h1 : okV (dk : Int) x = false := by rw [HOk.out]; simp; omega
                  have h2 : l.all (okV (dk : Int)) = false := by
                    rw [List.all_eq_false]
                    exact ⟨x, HS.out.1, by simp [h1]⟩
                  have h3 : qp.all (okPl ⟨qw, qh, dk, qp⟩) = false := by
                    rw [List.all_eq_false]
                    exact ⟨l, HE.out.1, by simp [okPl, h2]⟩
                  simp [isB, h3]
                go_wp2
                go_ret
                exact ⟨ret_bool HF.out.symm, bxa⟩
              · by_cases hx1 : 2 ^ dk ≤ x
                · have HF : Hid (isB ⟨qw, qh, dk, qp⟩ = false) := by
                    show _ = _
                    have h1 : okV (dk : Int) x = false := by rw [HOk.out]; simp; omega
                    have h2 : l.all (okV (dk : Int)) = false := by
                      rw [List.all_eq_false]
                      exact ⟨x, HS.out.1, by simp [h1]⟩
                    have h3 : qp.all (okPl ⟨qw, qh, dk, qp⟩) = false := by
                      rw [List.all_eq_false]
                      exact ⟨l, HE.out.1, by simp [okPl, h2]⟩
                    simp [isB, h3]
                  go_wp2
                  go_ret
                  exact ⟨ret_bool HF.out.symm, bxa⟩
                · have HX : Hid (okV (dk : Int) x = true) := by show _ = _; rw [HOk.out]; simp; omega
                  go_wp2
                  go_round
                  case rel =>
                    refine ⟨k + 1, by omega, by go_num, fun y hy => ?_⟩
                    rw [HS.out.2] at hy
                    rcases List.mem_append.1 hy with h | h
                    · exact HK.out y h
                    · simp at h; rw [h]; exact HX.out
                  case measure => simp [intOf]; omega
            · have hkl2 : k = l.length := by omega
              have HOkl : Hid (okPl ⟨qw, qh, dk, qp⟩ l = true) := by
                show _ = _
                have h := HK.out
                rw [hkl2, List.take_length] at h
                simp only [okPl, HL.out, decide_true, Bool.true_and]
                rw [List.all_eq_true]
                exact h
              subst hkl2
              go_wp2
              go_round
              case rel =>
                refine ⟨j + 1, by omega, by go_num, fun y hy => ?_⟩
                rw [HE.out.2] at hy
                rcases List.mem_append.1 hy with h | h
                · exact HA.out y h
                · simp at h; rw [h]; exact HOkl.out
              case measure => simp [intOf]; omega
        · have t1 : (((qp.getD j []).length : Int) != qw * qh) = true := by simpa using hlen
          have HF : Hid (isB ⟨qw, qh, dk, qp⟩ = false) := by
            show _ = _
            have h3 : qp.all (okPl ⟨qw, qh, dk, qp⟩) = false := by
              rw [List.all_eq_false]
              exact ⟨qp.getD j [], HE.out.1, by unfold okPl; rw [decide_eq_false hlen]; simp⟩
            simp [isB, h3]
          clear hlen hmax
          generalize qp.getD j [] = l at *
          go_wp2
          go_ret
          exact ⟨ret_bool HF.out.symm, bxa⟩
      · have hjl : j = qp.length := by omega
        have HF : Hid (isB ⟨qw, qh, dk, qp⟩ = true) := by
          show _ = _
          have h := HA.out
          rw [hjl, List.take_length] at h
          have h2 : qp.all (okPl ⟨qw, qh, dk, qp⟩) = true := by
            rw [List.all_eq_true]
            exact h
          simp [isB, h2, HPo.out]
        subst hjl
        go_wp2
        go_ret
        exact ⟨ret_bool HF.out.symm, bxa⟩
end Go.Proofs.Ytbbflddhbamjbaa
