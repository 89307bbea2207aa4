/- The reference's below. -/
import Derived.Test.YtbbflddhbamjbaaPlSort
import Derived.Test.YtbbflddhbamjbaaPicSame
import Derived.Deep.DeepCutAuto
set_option linter.unusedSimpArgs false
set_option linter.unusedVariables false
namespace Go.Proofs.Ytbbflddhbamjbaa
open Go.RowKit

theorem ltL_drop {a b : List Int} {j : Nat} (ha : j < a.length) (hb : j < b.length) : ltL (a.drop j) (b.drop j) = if a.getD j 0 < b.getD j 0 then true else if b.getD j 0 < a.getD j 0 then false else ltL (a.drop (j + 1)) (b.drop (j + 1)) := by
  rw [List.drop_eq_getElem_cons ha, List.drop_eq_getElem_cons hb]
  have e1 : a.getD j 0 = a[j] := by rw [List.getD_eq_getElem?_getD, List.getElem?_eq_getElem ha]; rfl
  have e2 : b.getD j 0 = b[j] := by rw [List.getD_eq_getElem?_getD, List.getElem?_eq_getElem hb]; rfl
  rw [e1, e2]
  rfl
set_option maxHeartbeats 2000000 in
theorem below_any {w : World} {B : Nat} {A A2 : Option Addr} {c c2 : Nat} {a b : List Int} (hr : RdI w B .i64 A a) (hr2 : RdI w B .i64 A2 b) (hl : a.length = b.length) (h63 : a.length ≤ 9223372036854775807) :
    Calls Try.prog 32 #[.slice A a.length c, .slice A2 b.length c2] w fun e w' => e = .returned (.bool (ltL a b)) ∧ ∃ n, w' = w.drewN n := by
  have hlen := Lib.hid hl
  have hrl : Hid (RdI w B .i64 A2 b) := hr2
  obtain ⟨R, hR⟩ : ∃ R, ltL a b = R := ⟨_, rfl⟩
  rw [hR]
  have HR := Lib.hid (show ltL (a.drop 0) (b.drop 0) = R by rw [List.drop_zero, List.drop_zero]; exact hR)
  have HS := Lib.hid (fun j (h1 : j < a.length) => ltL_drop h1 (show j < b.length by omega))
  clear hr2 hR
  rw [← hl]
  clear hl
  go_enter Try.func32, Try.ntmps32
  go_wp2
  go_loopw [5] (fun i wr => ∃ (j n : Nat), j ≤ a.length ∧ i = .int .i64 j ∧ wr = w.drewN n ∧ ltL (a.drop j) (b.drop j) = R) (fun i _ => a.length - (intOf i).toNat)
  case atStart => exact ⟨0, 0, Nat.zero_le _, rfl, rfl, HR.out⟩
  case round =>
    obtain ⟨j, n, hj, rfl, rfl, ht⟩ := hrel
    have HT := Lib.hid ht
    clear ht
    by_cases hlt : j < a.length
    · obtain ⟨ad, rfl, _, k0⟩ := hr.at_ hlt
      obtain ⟨ad2, rfl, _, k1⟩ := hrl.out.at_ (show j < b.length by rw [← hlen.out]; exact hlt)
      have hs := HS.out j hlt
      rw [HT.out] at hs
      by_cases hx : a.getD j 0 = b.getD j 0
      · rw [hx, if_neg (Int.lt_irrefl _), if_neg (Int.lt_irrefl _)] at hs
        have HSj := Lib.hid hs
        rw [← hx] at k1
        clear hx hs
        generalize a.getD j 0 = x at k0 k1
        go_wp2
        go_quiet (fail)
        go_wp2
        go_roundw
        case rel => exact ⟨j + 1, _, by omega, by go_num, rfl, HSj.out.symm⟩
        case measure => simp [intOf]; omega
      · have hxf : (a.getD j 0 != b.getD j 0) = true := by simpa using hx
        have hd : R = decide (a.getD j 0 < b.getD j 0) := by
          rw [hs]
          by_cases h1 : a.getD j 0 < b.getD j 0
          · rw [if_pos h1, decide_eq_true h1]
          · rw [if_neg h1, if_pos (show b.getD j 0 < a.getD j 0 by omega), decide_eq_false h1]
        have HD := Lib.hid hd
        clear hs hd hx
        generalize a.getD j 0 = x at *
        generalize b.getD j 0 = y at *
        go_wp2
        go_quiet (fail)
        go_wp2
        go_quiet (fail)
        go_wp2
        go_ret
        exact ⟨ret_bool HD.out.symm, _, by rw [World.drewN_drewN, World.drewN_drewN]⟩
    · have hjl : j = a.length := by omega
      have HF := Lib.hid (show R = false by
        have h := HT.out
        rw [hjl, List.drop_length, List.drop_eq_nil_of_le (by rw [hlen.out]; exact Nat.le_refl _)] at h
        exact h.symm)
      subst hjl
      go_wp2
      go_ret
      exact ⟨ret_bool HF.out.symm, _, rfl⟩
end Go.Proofs.Ytbbflddhbamjbaa
