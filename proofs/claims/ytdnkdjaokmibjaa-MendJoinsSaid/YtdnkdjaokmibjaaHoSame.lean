/- SameHoles of the reference. -/
import Derived.Test.YtdnkdjaokmibjaaPkVal
import Derived.Deep.QuietTactic
import Derived.BigQuiet
set_option linter.unusedSimpArgs false
set_option linter.unusedVariables false
namespace Go.Proofs.Ytdnkdjaokmibjaa
open Go.RowKit

set_option maxHeartbeats 2000000 in
set_option maxRecDepth 100000 in
theorem sameho_any {xs ys : List Ho} {A A' : Option Addr} (c c' : Nat) {S S' : Nat → Prop} {w : World} (hx : RdHo w S A xs) (hy : RdHo w S' A' ys) (lx : xs.length ≤ 1000000000) (ly : ys.length ≤ 1000000000) :
    Calls Try.prog 15 #[.slice A xs.length c, .slice A' ys.length c'] w fun e w' => e = .returned (.bool (decide (xs = ys))) ∧ ∃ n, w' = w.drewN n := by
  by_cases hl : xs.length = ys.length
  · have HL := Lib.hid hl
    have HB := Lib.hid hx
    have HC := Lib.hid hy
    have t1 : ((xs.length : Int) != (ys.length : Int)) = false := by rw [hl]; simp
    clear hl hx hy
    go_enter Try.func15, Try.ntmps15
    go_wp2
    go_loopw [5] (fun i wr => ∃ k : Nat, k ≤ xs.length ∧ i = .int .i64 k ∧ xs.take k = ys.take k ∧ ∃ n, wr = w.drewN n) (fun i _ => xs.length - (intOf i).toNat)
    case atStart => exact ⟨0, Nat.zero_le _, rfl, rfl, 0, rfl⟩
    case round =>
      obtain ⟨k, hk, rfl, hkt, n, rfl⟩ := hrel
      have HK := Lib.hid hkt
      clear hkt
      by_cases hlt : k < xs.length
      · have hlt' : k < ys.length := by have := HL.out; omega
        obtain ⟨ad, p, rfl, _, hp, e0, e1, hw⟩ := RdHo.at_ HB.out hlt
        obtain ⟨ad', p', rfl, _, hp', f0, f1, hw'⟩ := RdHo.at_ HC.out hlt'
        have HE := Lib.hid (show xs[k] = ys[k] → xs.take (k + 1) = ys.take (k + 1) from fun h => take_eq_step hlt hlt' HK.out h)
        have HF := Lib.hid (show xs[k] ≠ ys[k] → xs ≠ ys from fun h => ne_of_getElem hlt hlt' h)
        generalize xs[k] = x at *
        generalize ys[k] = y at *
        obtain ⟨x1, x2⟩ := x
        obtain ⟨y1, y2⟩ := y
        simp only at e0 e1 f0 f1
        clear hw hw'
        by_cases hq : x1 = y1 ∧ x2 = y2
        · obtain ⟨rfl, rfl⟩ := hq
          go_wp2
          go_quiet (fail)
          go_wp2
          go_roundw
          case rel => exact ⟨k + 1, by omega, by go_num, HE.out (by first | rfl | trivial), _, rfl⟩
          case measure => simp [intOf]; omega
        · have HG := Lib.hid (show xs ≠ ys from HF.out (fun h => hq (by injection h with h1 h2; exact ⟨h1, h2⟩)))
          by_cases h1 : x1 = y1
          · subst h1
            have t2 : (x2 == y2) = false := by
              rw [beq_eq_false_iff_ne]; exact fun h => hq ⟨rfl, h⟩
            clear hq
            go_wp2
            go_quiet (fail)
            go_wp2
            go_ret
            exact ⟨by rw [decide_eq_false HG.out]; rfl, _, World.drewN_drewN _ _ _⟩
          · have t2 : (x1 == y1) = false := by rwa [beq_eq_false_iff_ne]
            clear hq h1
            go_wp2
            go_quiet (fail)
            go_wp2
            go_ret
            exact ⟨by rw [decide_eq_false HG.out]; rfl, _, World.drewN_drewN _ _ _⟩
      · have hkl : k = xs.length := by omega
        subst hkl
        go_wp2
        go_ret
        have h1 := HK.out
        rw [List.take_length, HL.out, List.take_length] at h1
        exact ⟨by rw [decide_eq_true h1]; rfl, _, rfl⟩
  · have t1 : ((xs.length : Int) != (ys.length : Int)) = true := by simp; omega
    have HL := Lib.hid (show xs ≠ ys from fun h => hl (by rw [h]))
    clear hl hx hy
    go_enter Try.func15, Try.ntmps15
    go_wp2
    go_ret
    exact ⟨by rw [decide_eq_false HL.out]; rfl, 0, rfl⟩
end Go.Proofs.Ytdnkdjaokmibjaa
