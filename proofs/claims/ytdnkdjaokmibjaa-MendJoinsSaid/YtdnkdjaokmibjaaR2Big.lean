/- The reference's Big. -/
import Derived.Test.YtdnkdjaokmibjaaBigW
import Derived.Test.YtdnkdjaokmibjaaOwnLit
set_option linter.unusedSimpArgs false
set_option linter.unusedVariables false
namespace Go.Proofs.Ytdnkdjaokmibjaa
open Go.RowKit

theorem sm_get (k : Nat) : ∀ (n : Int) (j : Nat), j < k → (sm n k).drop j = (n / 256 ^ j % 256) :: (sm n k).drop (j + 1) := by
  induction k with
  | zero => intro n j h; omega
  | succ k ih =>
    intro n j h
    cases j with
    | zero => simp [sm]
    | succ j =>
      have := ih (n / 256) j (by omega)
      simp only [sm, List.drop_succ_cons]
      rw [this]
      congr 2
      rw [Int.pow_succ, Int.mul_comm, ← Int.ediv_ediv_of_nonneg (by omega)]
set_option maxHeartbeats 1000000 in
set_option maxRecDepth 100000 in
theorem r2big_any (n : Int) (h0 : 0 ≤ n) (h1 : n ≤ 18446744073709551615) (k : Nat) (hk : k ≤ 8) (w : World) :
    Calls Try.prog 78 #[.int .u64 n, .int .i64 (k : Int)] w fun e w' => ∃ v, e = .returned v ∧ OwnI w' w.heap.size 5 .u8 v (bg n k) ∧ Below w.heap.size w w' := by
  have hk2 : (k : Int) ≤ 8 := by omega
  go_enter Try.func78, Try.ntmps78
  go_wp2
  go_loopw [5, 6] (fun o i wr => ∃ j : Nat, j ≤ k ∧ i = .int .i64 ((j : Int) - 1) ∧ OwnI wr w.heap.size 5 .u8 o ((sm n k).drop j).reverse ∧ Below w.heap.size w wr) (fun _ i _ => (intOf i + 1).toNat)
  case atStart => exact ⟨k, Nat.le_refl _, rfl, by rw [List.drop_eq_nil_of_le (by rw [sm_length]; omega)]; exact OwnI.nil_ _ _ _ _, Below.refl _ _⟩
  case round =>
    obtain ⟨j, hj, rfl, hown, hbel⟩ := hrel
    by_cases hlt : 0 < j
    · obtain ⟨m, rfl⟩ : ∃ m, j = m + 1 := ⟨j - 1, by omega⟩
      have HG := Lib.hid (sm_get k n m (by omega))
      have hl : ((sm n k).drop (m + 1)).reverse.length ≤ 8 := by rw [List.length_reverse, List.length_drop, sm_length]; omega
      generalize (sm n k).drop (m + 1) = d at *
      have e1 : ((m + 1 : Nat) : Int) - 1 = (m : Int) := by omega
      rw [e1]
      clear e1
      have hm7 : (m : Int) ≤ 7 := by omega
      go_wp2_with (first
        | (at_builtin; refine wpList_push_int _ rfl (.tmp 15) (.tmp 22) _ rfl w w.heap.size w.heap.size 5 .u8 1 Try.underlying31 info_u8 _ d.reverse rfl hown _ 1 (n / 2 ^ (8 * m) % 256) rfl rfl (by omega) (by omega) hbel (Nat.le_refl _) hbel.size ?_; intro v1 w1 hown1 hb1))
      go_roundw
      case rel => exact ⟨m, by omega, by first | rfl | trivial, by rw [HG.out, List.reverse_cons, pow_256]; exact hown1, hb1⟩
      case measure => simp [intOf]
    · have hj0 : j = 0 := by omega
      subst hj0
      rw [List.drop_zero] at hown
      have HBG := Lib.hid (show bg n k = (sm n k).reverse from rfl)
      generalize (sm n k).reverse = l at *
      go_wp2
      go_ret
      rw [HBG.out]
      exact ⟨_, rfl, hown, hbel⟩
end Go.Proofs.Ytdnkdjaokmibjaa
