/- HeavyPages. -/
import Derived.Test.YtdnkdjaokmibjaaPk
import Derived.Deep.DeepCutAuto
set_option linter.unusedSimpArgs false
set_option linter.unusedVariables false
namespace Go.Proofs.Ytdnkdjaokmibjaa
open Go.RowKit

def psum (l : List Pg) : Nat := (l.map fun p => 20 + p.body.length).sum
def heavyPg (l : List Pg) : Bool := decide (20000 < psum l)
theorem psum_snoc (l : List Pg) (p : Pg) : psum (l ++ [p]) = psum l + (20 + p.body.length) := by simp [psum]
theorem psum_append (a b : List Pg) : psum (a ++ b) = psum a + psum b := by simp [psum]
theorem psum_take (l : List Pg) (k : Nat) : psum (l.take k) ≤ psum l := by
  have h : psum (l.take k ++ l.drop k) = psum (l.take k) + psum (l.drop k) := psum_append _ _
  rw [List.take_append_drop] at h
  omega
theorem psum_len (l : List Pg) : 20 * l.length ≤ psum l := by
  induction l with
  | nil => simp [psum]
  | cons x l ih => simp only [psum, List.map_cons, List.sum_cons, List.length_cons] at ih ⊢; omega
set_option maxHeartbeats 1000000 in
theorem heavypg_any {l : List Pg} {A : Option Addr} {c : Nat} {S : Nat → Prop} {w : World} (hr : RdPg w S A l) (hl : l.length ≤ 9223372036854775807) :
    Calls Try.prog 16 #[.slice A l.length c] w fun e w' => e = .returned (.bool (heavyPg l)) ∧ w = w' := by
  go_enter Try.func16, Try.ntmps16
  go_wp2
  go_loop [3, 4] (fun n i => ∃ k : Nat, k ≤ l.length ∧ i = .int .i64 k ∧ n = .int .i64 ((psum (l.take k) : Nat) : Int) ∧ psum (l.take k) ≤ 20000) (fun _ i => l.length - (intOf i).toNat)
  case atStart => exact ⟨0, Nat.zero_le _, rfl, by simp [psum], by simp [psum]⟩
  case round =>
    obtain ⟨k, hk, rfl, rfl, hn⟩ := hrel
    by_cases hlt : k < l.length
    · obtain ⟨ad, p, Aj, cj, rfl, _, hp, e0, e1, e2, e3, e4, hcj, hrj, hwj⟩ := RdPg.at_ hr hlt
      have HT := Lib.hid (show psum (l.take (k + 1)) = psum (l.take k) + (20 + l[k].body.length) by rw [List.take_succ_eq_append_getElem hlt, psum_snoc])
      have HL := Lib.hid (psum_take l (k + 1))
      have hwl := hwj.len
      generalize psum (l.take k) = n1 at *
      generalize l[k] = q at *
      by_cases ho : 20000 < n1 + (20 + q.body.length)
      · have HB := Lib.hid (show heavyPg l = true by rw [heavyPg, decide_eq_true_eq]; have := HT.out; have := HL.out; omega)
        have ho1 : (20000 : Int) < (n1 : Int) + 20 + (q.body.length : Int) := by omega
        clear ho
        go_wp2
        go_ret
        exact ⟨by rw [HB.out]; rfl, rfl⟩
      · have ho1 : decide ((20000 : Int) < (n1 : Int) + 20 + (q.body.length : Int)) = false := decide_eq_false (by omega)
        go_wp2
        go_round
        case rel => exact ⟨k + 1, by omega, by go_num, by rw [HT.out]; go_num, by rw [HT.out]; omega⟩
        case measure => simp [intOf]; omega
    · have hkl : k = l.length := by omega
      subst hkl
      rw [List.take_length] at hn
      have HB := Lib.hid (show heavyPg l = false by rw [heavyPg, decide_eq_false_iff_not]; omega)
      go_wp2
      go_ret
      exact ⟨by rw [HB.out]; rfl, rfl⟩

end Go.Proofs.Ytdnkdjaokmibjaa
