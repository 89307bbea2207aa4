/- slices.swapRangeCmpFunc at packets. -/
import Derived.Test.YtnflhogjonlnmaaSrtM
import Derived.Test.YtnflhogjonlnmaaPkInfo
import Derived.Deep.DeepCutAuto
import Derived.Shelf.RegionOpenPlain
set_option linter.unusedSimpArgs false
set_option linter.unusedVariables false
namespace Go.Proofs.Ytnflhogjonlnmaa
open Go.RowKit

def swp (xs : List SP) (i j : Nat) : List SP := (xs.set i (xs.getD j spz)).set j (xs.getD i spz)
theorem swp_len (xs : List SP) (i j : Nat) : (swp xs i j).length = xs.length := by simp [swp]
def swapUp (xs : List SP) (a b : Nat) : Nat → List SP
  | 0 => xs
  | k + 1 => swp (swapUp xs a b k) (a + k) (b + k)
theorem swapUp_len (xs : List SP) (a b : Nat) : ∀ k, (swapUp xs a b k).length = xs.length
  | 0 => rfl
  | k + 1 => by rw [swapUp, swp_len, swapUp_len xs a b k]

set_option maxHeartbeats 8000000 in
set_option maxRecDepth 100000 in
theorem swapRange_any {w : World} {gb : Nat} {xs : List SP} {tl : List Value} (h : SRow w gb xs tl) (c : Nat) (hl : xs.length ≤ 4000000000) (hc : xs.length ≤ c) (a b n : Nat) (hb : b + n ≤ xs.length) (ha : a + n ≤ b) (cmp : Value) :
    Calls Try.prog 83 #[.slice (some ⟨gb, 0, none⟩) xs.length c, .int .i64 a, .int .i64 b, .int .i64 n, cmp] w fun e w' => e = .returned (.tuple #[]) ∧ SRow w' gb (swapUp xs a b n) tl ∧ Mod (· = gb) w w' := by
  have HH := Lib.hid h
  clear h
  go_enter Try.func83, Try.ntmps83
  go_wp2
  go_loopw [10] (fun iv wr => ∃ k : Nat, k ≤ n ∧ iv = .int .i64 k ∧ SRow wr gb (swapUp xs a b k) tl ∧ Mod (· = gb) w wr) (fun iv _ => n - (intOf iv).toNat)
  case atStart => exact ⟨0, Nat.zero_le _, rfl, HH.out, Mod.refl _ _⟩
  case round =>
    obtain ⟨k, hk, rfl, hR, hM⟩ := hrel
    by_cases hkn : k < n
    · have hkz : (k : Int) < (n : Int) := by omega
      have hlx := swapUp_len xs a b k
      have e1 : IntKind.i64.wrap ((a : Int) + (k : Int)) = ((a + k : Nat) : Int) := by rw [IntWalk.i64_in _ (by omega)]; omega
      have e2 : IntKind.i64.wrap ((b : Int) + (k : Int)) = ((b + k : Nat) : Int) := by rw [IntWalk.i64_in _ (by omega)]; omega
      obtain ⟨p, hp⟩ : ∃ p, a + k = p := ⟨_, rfl⟩
      obtain ⟨q, hq⟩ : ∃ q, b + k = q := ⟨_, rfl⟩
      rw [hp] at e1
      rw [hq] at e2
      have hpl : p < xs.length := by omega
      have hql : q < xs.length := by omega
      have hne : p ≠ q := by omega
      obtain ⟨x, hx⟩ : ∃ x, (swapUp xs a b k).getD p spz = x := ⟨_, rfl⟩
      obtain ⟨y, hy⟩ : ∃ y, (swapUp xs a b k).getD q spz = y := ⟨_, rfl⟩
      have HS := Lib.hid (show swapUp xs a b (k + 1) = ((swapUp xs a b k).set p y).set q x by rw [swapUp, swp, hp, hq, hx, hy])
      generalize swapUp xs a b k = ys at *
      obtain ⟨x0, x1, x2, x3, x4, x5⟩ := hR.at_ (by omega) hx
      obtain ⟨y0, y1, y2, y3, y4, y5⟩ := hR.at_ (by omega) hy
      have f0 := hR.fz (p * 6)
      have f1 := hR.fz (p * 6 + 1)
      have f2 := hR.fz (p * 6 + 2)
      have f3 := hR.fz (p * 6 + 3)
      have f4 := hR.fz (p * 6 + 4)
      have f5 := hR.fz (p * 6 + 5)
      have g0 := hR.fz (q * 6)
      have g1 := hR.fz (q * 6 + 1)
      have g2 := hR.fz (q * 6 + 2)
      have g3 := hR.fz (q * 6 + 3)
      have g4 := hR.fz (q * 6 + 4)
      have g5 := hR.fz (q * 6 + 5)
      have HR := Lib.hid hR
      have HPl := Lib.hid (show p < ys.length ∧ q < (ys.set p y).length by rw [List.length_set]; omega)
      have HK1 := Lib.hid hkn
      have HK9 := Lib.hid (show k + 1 ≤ 4000000000 by omega)
      have HM := Lib.hid hM
      clear hR hM hx hy ha hb hp hq hk
      go_wp2_with (fail)
      have hmx : Try.prog.follows .mixedOrders = true := by kernel_rfl
      go_big_region_o
      have hk9 := HK9.out
      go_wp2
      go_roundw
      case rel =>
        refine ⟨k + 1, HK1.out, by go_num, ?_, ?_⟩
        · rw [HS.out]
          refine SRow.drew ?_
          exact (HR.out.put HPl.out.1 y).put (j := q) HPl.out.2 x
        · refine Mod.drew ?_
          exact HM.out.then_ ((SRow.putM wr gb p y).then_ (SRow.putM _ gb q x))
      case measure => have := HK1.out; simp [intOf]; omega
    · have hkz : ¬ (k : Int) < (n : Int) := by omega
      have hke : k = n := by omega
      subst hke
      go_wp2
      go_end0
      exact ⟨rfl, hR, hM⟩
end Go.Proofs.Ytnflhogjonlnmaa
