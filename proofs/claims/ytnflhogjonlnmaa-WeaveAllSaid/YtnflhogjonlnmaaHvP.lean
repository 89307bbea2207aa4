/- HeavyPackets. -/
import Derived.Test.YtnflhogjonlnmaaPk
import Derived.Deep.DeepCutAuto
set_option linter.unusedSimpArgs false
set_option linter.unusedVariables false
namespace Go.Proofs.Ytnflhogjonlnmaa
open Go.RowKit

def wsum (l : List Pk) : Nat := (l.map fun p => 20 + p.data.length).sum
def heavyPk (l : List Pk) : Bool := decide (20000 < wsum l)
theorem wsum_snoc (l : List Pk) (p : Pk) : wsum (l ++ [p]) = wsum l + (20 + p.data.length) := by simp [wsum]
theorem wsum_append (a b : List Pk) : wsum (a ++ b) = wsum a + wsum b := by simp [wsum]
theorem wsum_take (l : List Pk) (k : Nat) : wsum (l.take k) ≤ wsum l := by
  have h : wsum (l.take k ++ l.drop k) = wsum (l.take k) + wsum (l.drop k) := wsum_append _ _
  rw [List.take_append_drop] at h
  omega
theorem wsum_len (l : List Pk) : 20 * l.length ≤ wsum l := by
  induction l with
  | nil => simp [wsum]
  | cons x l ih => simp only [wsum, List.map_cons, List.sum_cons, List.length_cons] at ih ⊢; omega
set_option maxHeartbeats 1000000 in
theorem heavypk_any {l : List Pk} {A : Option Addr} {c : Nat} {S : Nat → Prop} {w : World} (hr : RdPk w S A l) (hl : l.length ≤ 9223372036854775807) :
    Calls Try.prog 21 #[.slice A l.length c] w fun e w' => e = .returned (.bool (heavyPk l)) ∧ w = w' := by
  go_enter Try.func21, Try.ntmps21
  go_wp2
  go_loop [3, 4] (fun n i => ∃ k : Nat, k ≤ l.length ∧ i = .int .i64 k ∧ n = .int .i64 ((wsum (l.take k) : Nat) : Int) ∧ wsum (l.take k) ≤ 20000) (fun _ i => l.length - (intOf i).toNat)
  case atStart => exact ⟨0, Nat.zero_le _, rfl, by simp [wsum], by simp [wsum]⟩
  case round =>
    obtain ⟨k, hk, rfl, rfl, hn⟩ := hrel
    by_cases hlt : k < l.length
    · obtain ⟨ad, p, Aj, cj, rfl, _, hp, e0, e1, e2, e3, e4, e5, hcj, hrj, hwj⟩ := RdPk.at_ hr hlt
      have HT := Lib.hid (show wsum (l.take (k + 1)) = wsum (l.take k) + (20 + l[k].data.length) by rw [List.take_succ_eq_append_getElem hlt, wsum_snoc])
      have HL := Lib.hid (wsum_take l (k + 1))
      have hwl := hwj.len
      generalize wsum (l.take k) = n1 at *
      generalize l[k] = q at *
      by_cases ho : 20000 < n1 + (20 + q.data.length)
      · have HB := Lib.hid (show heavyPk l = true by rw [heavyPk, decide_eq_true_eq]; have := HT.out; have := HL.out; omega)
        have ho1 : (20000 : Int) < (n1 : Int) + 20 + (q.data.length : Int) := by omega
        clear ho
        go_wp2
        go_ret
        exact ⟨by rw [HB.out]; rfl, rfl⟩
      · have ho1 : decide ((20000 : Int) < (n1 : Int) + 20 + (q.data.length : Int)) = false := decide_eq_false (by omega)
        go_wp2
        go_round
        case rel => exact ⟨k + 1, by omega, by go_num, by rw [HT.out]; go_num, by rw [HT.out]; omega⟩
        case measure => simp [intOf]; omega
    · have hkl : k = l.length := by omega
      subst hkl
      rw [List.take_length] at hn
      have HB := Lib.hid (show heavyPk l = false by rw [heavyPk, decide_eq_false_iff_not]; omega)
      go_wp2
      go_ret
      exact ⟨by rw [HB.out]; rfl, rfl⟩

end Go.Proofs.Ytnflhogjonlnmaa
