/- The reference's Part. -/
import Derived.Test.YtbbflddhbamjbaaPicCutL
set_option linter.unusedSimpArgs false
set_option linter.unusedVariables false
namespace Go.Proofs.Ytbbflddhbamjbaa
open Go.RowKit

theorem take_drop_succ {l : List Int} {o i : Nat} (h : o + i < l.length) : (l.drop o).take (i + 1) = (l.drop o).take i ++ [l.getD (o + i) 0] := by
  rw [List.take_succ_eq_append_getElem (by rw [List.length_drop]; omega)]
  congr 1
  simp [List.getD, h]

set_option maxHeartbeats 4000000 in
theorem part_any {w : World} {B : Nat} {A : Option Addr} {c : Nat} {l : List Int} (hr : RdI w B .i64 A l) (hB : B ≤ w.heap.size) (W x y a b : Nat) (hW : W ≤ 64) (hx : x ≤ 64) (hy : y ≤ 64) (ha : a ≤ 64) (hb : b ≤ 64) (hl : l.length ≤ 4096)
    (hrow : ∀ r, r < b → (y + r) * W + x + a ≤ l.length) :
    Calls Try.prog 27 #[.slice A l.length c, .int .i64 (W : Int), .int .i64 (x : Int), .int .i64 (y : Int), .int .i64 (a : Int), .int .i64 (b : Int)] w fun e w' => ∃ A' c', e = .returned (.slice A' (cutPl l W x y a b).length c') ∧ OwnI w' w.heap.size 3 .i64 (.slice A' (cutPl l W x y a b).length c') (cutPl l W x y a b) ∧ Below w.heap.size w w' := by
  have HR := Lib.hid hrow
  clear hrow
  have HLen := Lib.hid (fun k (hk : k ≤ b) => cutPl_length (l := l) (W := W) (x := x) (y := y) (w := a) k (fun r hr => HR.out r (by omega)))
  go_enter Try.func27, Try.ntmps27
  go_wp2
  go_loopw [13, 14] (fun u i wr => ∃ (k r : Nat), k ≤ b ∧ r = y + k ∧ i = .int .i64 r ∧ Below w.heap.size w wr ∧ OwnI wr w.heap.size 3 .i64 u (cutPl l W x y a k)) (fun _ i _ => y + b - (intOf i).toNat)
  case atStart => exact ⟨0, y, Nat.zero_le _, rfl, rfl, Below.refl _ _, OwnI.nil_ _ _ _ _⟩
  case round =>
    obtain ⟨k, r, hk, hrk, rfl, hbw, how⟩ := hrel
    by_cases hkb : k < b
    · obtain ⟨P, hP⟩ : ∃ P : Nat, P = r * W := ⟨_, rfl⟩
      have hin := HR.out k hkb
      rw [← hrk, ← hP] at hin
      have e1 : (r : Int) * (W : Int) = (P : Int) := by rw [hP]; simp
      have hLk := HLen.out k hk
      have hka : k * a ≤ 4096 := Nat.mul_le_mul (show k ≤ 64 by omega) ha
      have HP := Lib.hid (show cutPl l W x y a (k + 1) = cutPl l W x y a k ++ (l.drop (P + x)).take a by rw [cutPl, ← hrk, ← hP])
      have hrb : (r : Int) < (y : Int) + (b : Int) := by omega
      generalize cutPl l W x y a k = lk at *
      go_wp2
      obtain ⟨wo, hwo⟩ : ∃ wo, wo = wr := ⟨_, rfl⟩
      subst hwo
      have hrr : r ≤ 128 := by omega
      have HrK := Lib.hid hrk
      clear hrk hP
      go_loopw [13, 15] (fun u i w3 => ∃ (m q : Nat), m ≤ a ∧ q = x + m ∧ i = .int .i64 q ∧ Below w.heap.size w w3 ∧ OwnI w3 w.heap.size 3 .i64 u (lk ++ (l.drop (P + x)).take m)) (fun _ i _ => x + a - (intOf i).toNat)
      case atStart => exact ⟨0, x, Nat.zero_le _, rfl, rfl, hbw, by simpa using how⟩
      case round =>
        obtain ⟨m, q, hm, hqm, rfl, hb3, ho3⟩ := hrel
        by_cases hma : m < a
        · obtain ⟨at_, hat⟩ : ∃ at_ : Nat, at_ = P + q := ⟨_, rfl⟩
          obtain ⟨ad, rfl, _, k0⟩ := (hr.below hb3 hB).at_ (j := at_) (by omega)
          have e2 : (P : Int) + (q : Int) = (at_ : Int) := by rw [hat]; simp
          have HT := Lib.hid (show (l.drop (P + x)).take (m + 1) = (l.drop (P + x)).take m ++ [l.getD at_ 0] by
            rw [take_drop_succ (by omega)]
            rw [show P + x + m = at_ by omega])
          have hqb : (q : Int) < (x : Int) + (a : Int) := by omega
          have hal : at_ < l.length := by omega
          have HLn := Lib.hid (show (lk ++ (l.drop (P + x)).take m).length ≤ 10000 by rw [List.length_append, List.length_take]; omega)
          generalize l.getD at_ 0 = v at *
          generalize (l.drop (P + x)).take m = lm at *
          have HqM := Lib.hid hqm
          clear hat hqm
          go_wp2_with (first
            | (at_builtin; refine wpList_push_int _ rfl (.tmp 32) (.tmp 41) _ rfl _ w.heap.size w.heap.size 3 .i64 8 Try.underlying22 info_int _ (lk ++ lm) (by rfl) ho3 _ _ v (by rfl) (by rfl) (by have := HLn.out; omega) (by omega) hb3 (Nat.le_refl _) hb3.size ?_; intro v4 w4 hown4 hbw4))
          go_roundw
          case rel => exact ⟨m + 1, q + 1, by omega, by have := HqM.out; omega, by go_num, hbw4, by rw [HT.out, ← List.append_assoc]; exact hown4⟩
          case measure => simp [intOf]; omega
        · have hma' : m = a := by omega
          subst hma'
          have hqb : ¬ (q : Int) < (x : Int) + (m : Int) := by omega
          go_wp2
          go_roundw
          case rel => exact ⟨k + 1, r + 1, by omega, by have := HrK.out; omega, by go_num, hb3, by rw [HP.out]; exact ho3⟩
          case measure => simp [intOf]; omega
    · have hkb' : k = b := by omega
      subst hkb'
      have hrb : ¬ (r : Int) < (y : Int) + (k : Int) := by omega
      obtain ⟨A', c', rfl, _, _, _⟩ := how.form
      go_wp2
      go_ret
      exact ⟨A', c', rfl, how, hbw⟩
end Go.Proofs.Ytbbflddhbamjbaa
