/- The reference's first. -/
import Derived.Test.YtnflhogjonlnmaaQu
import Derived.BigQuiet
import Derived.Deep.QuietTactic
import Derived.Deep.DeepCutAuto
set_option linter.unusedSimpArgs false
set_option linter.unusedVariables false
namespace Go.Proofs.Ytnflhogjonlnmaa
open Go.RowKit

set_option maxHeartbeats 4000000 in
set_option maxRecDepth 100000 in
theorem rfirst_any {qs : List Qu} {A : Option Addr} {c : Nat} {S : Nat → Prop} {w : World} (hr : RdQu w S A qs) (hl : qs.length ≤ 1000000) :
    Calls Try.prog 62 #[.slice A qs.length c] w fun e w' => e = .returned (.int .i64 (firstQ (qs.map Qu.wait))) ∧ ∃ n, w' = w.drewN n := by
  have HR := Lib.hid hr
  clear hr
  go_enter Try.func62, Try.ntmps62
  go_wp2
  go_loopw [3, 4] (fun b i wr => ∃ k n : Nat, k ≤ qs.length ∧ i = .int .i64 k ∧ b = .int .i64 (firstUp (qs.map Qu.wait) k) ∧ wr = w.drewN n) (fun _ i _ => qs.length - (intOf i).toNat)
  case atStart => exact ⟨0, 0, Nat.zero_le _, rfl, rfl, rfl⟩
  case round =>
    obtain ⟨k, n, hk, rfl, rfl, rfl⟩ := hrel
    have hbd := firstUp_bd (qs.map Qu.wait) k
    by_cases hlt : k < qs.length
    · obtain ⟨ad, p, Aj, cj, rfl, _, hp, e0, _, _, hcj, hrj⟩ := RdQu.at_ HR.out hlt
      have hgk : (qs.map Qu.wait).getD k [] = qs[k].wait := by rw [List.getD_eq_getElem?_getD, List.getElem?_map, List.getElem?_eq_getElem hlt]; rfl
      have HT := Lib.hid (show firstUp (qs.map Qu.wait) (k + 1) = if qs[k].wait ≠ [] ∧ (firstUp (qs.map Qu.wait) k < 0 ∨ headAt qs[k].wait < headAt ((qs.map Qu.wait).getD (firstUp (qs.map Qu.wait) k).toNat [])) then (k : Int) else firstUp (qs.map Qu.wait) k by rw [firstUp, hgk])
      have HNE := Lib.hid (firstUp_ne (qs.map Qu.wait) k)
      clear hgk
      generalize hb : firstUp (qs.map Qu.wait) k = b at *
      clear hb
      generalize qs[k].wait = x at *
      cases x with
      | nil =>
        have HT' := Lib.hid (HT.out.trans (if_neg (fun h => h.1 rfl)))
        simp only [List.length_nil] at e0
        go_wp2
        go_quiet (fail)
        go_wp2
        go_roundw
        case rel => exact ⟨k + 1, _, by omega, by go_num, by rw [HT'.out], rfl⟩
        case measure => simp [intOf]; omega
      | cons p0 l0 =>
        obtain ⟨a1, A1, c1, hA1, _, y0, y1, _⟩ := RdPk.head_ hrj
        subst hA1
        rw [List.length_cons] at e0
        by_cases hb0 : b < 0
        · have HT' := Lib.hid (HT.out.trans (if_pos ⟨by simp, .inl hb0⟩))
          go_wp2
          go_quiet (fail)
          go_wp2
          go_roundw
          case rel => exact ⟨k + 1, _, by omega, by go_num, by rw [HT'.out], rfl⟩
          case measure => simp [intOf]; omega
        · obtain ⟨m, rfl⟩ := Int.eq_ofNat_of_zero_le (show 0 ≤ b by omega)
          have hm : m < qs.length := by omega
          have hgm : (qs.map Qu.wait).getD m [] = qs[m].wait := by rw [List.getD_eq_getElem?_getD, List.getElem?_map, List.getElem?_eq_getElem hm]; rfl
          have hne := HNE.out (by omega)
          rw [Int.toNat_natCast, hgm] at hne
          have HT2 := HT.out
          rw [Int.toNat_natCast, hgm] at HT2
          replace HT := Lib.hid HT2
          obtain ⟨ad2, p2, A2, c2, hA2, _, hp2, f0, _, _, hc2, hr2⟩ := RdQu.at_ HR.out hm
          injection hA2 with hA2
          subst hA2
          generalize qs[m].wait = z at *
          cases z with
          | nil => exact absurd rfl hne
          | cons p3 l3 =>
            obtain ⟨a3, A3, c3, hA3, _, z0, z1, _⟩ := RdPk.head_ hr2
            subst hA3
            rw [List.length_cons] at f0
            clear HT2 hgm hne HNE hb0
            by_cases hlt2 : p0.at_ < p3.at_
            · have HT' := Lib.hid (HT.out.trans (if_pos ⟨by simp, .inr hlt2⟩))
              go_wp2
              go_quiet (fail)
              go_wp2
              go_roundw
              case rel => exact ⟨k + 1, _, by omega, by go_num, by rw [HT'.out], rfl⟩
              case measure => simp [intOf]; omega
            · have HT' := Lib.hid (HT.out.trans (if_neg (fun h => by rcases h.2 with h | h; omega; exact hlt2 h)))
              have hlt3 : decide (p0.at_ < p3.at_) = false := decide_eq_false hlt2
              go_wp2
              go_quiet (fail)
              go_wp2
              go_roundw
              case rel => exact ⟨k + 1, _, by omega, by go_num, by rw [HT'.out], rfl⟩
              case measure => simp [intOf]; omega
    · have hkl : k = qs.length := by omega
      subst hkl
      have HF := Lib.hid (show firstQ (qs.map Qu.wait) = firstUp (qs.map Qu.wait) qs.length by rw [firstQ, List.length_map])
      go_wp2
      go_ret
      exact ⟨by rw [HF.out]; rfl, _, rfl⟩
end Go.Proofs.Ytnflhogjonlnmaa
