/- 'known' and 'Same'. -/
import Derived.Test.YtpohinbhmlcfkaaOctRev
namespace Go.Proofs.Ytpohinbhmlcfkaa
open Go.RowKit

theorem same_any {w : World} {B B' : Nat} {A A' : Option Addr} {a b : List Int} {c c' : Nat} (h : RdI w B .u8 A a) (h' : RdI w B' .u8 A' b) (ha : ∀ x ∈ a, 0 ≤ x ∧ x ≤ 255) (hb : ∀ x ∈ b, 0 ≤ x ∧ x ≤ 255) :
    Calls Try.prog 21 #[.slice A a.length c, .slice A' b.length c'] w fun e w' => e = .returned (.bool (decide (a = b))) ∧ w = w' := by
  have h1 := run_str (P := Try.prog) (dst := 9) Try.underlying24 Try.underlying5 Try.underlying9 h c
  have h2 := run_str (P := Try.prog) (dst := 9) Try.underlying24 Try.underlying5 Try.underlying9 h' c'
  have HI := Lib.hid (str_beq ha hb)
  generalize str a = s at *
  generalize str b = s' at *
  go_enter Try.func21, Try.ntmps21
  go_wp2
  go_ret
  rw [← HI.out]
  exact ⟨rfl, rfl⟩

theorem known_num : Rs.num ⟨[172, 2, 1], 0, 0⟩ 300 = (300, ⟨[172, 2, 1], 2, 0⟩) := by rfl
theorem known_put : put [300, 1] = [172, 2, 1] := by rfl
set_option maxHeartbeats 1000000 in
theorem known_any (w : World) : Calls Try.prog 10 #[] w fun e w' => e = .returned (.bool true) ∧ Below w.heap.size w w' := by
  have hs : ((str [172, 2, 1]).toList == [172, 2, 1]) = true := by rw [ByteArray.toList_eq]; decide
  have hz : zig (-3) = 5 := by decide
  have hz2 : zag 5 = -3 := by decide
  go_enter Try.func10, Try.ntmps10
  go_wp2_with (first
    | (go_at_call 11; go_must (refine (put_any _ _ [300, 1] (by simp) (by simp) _ ((RdI.lit w .u64 _ _ _ rfl).more (by simp))).mono ?_); rintro e w1 ⟨v1, rfl, hown1, hbel1⟩; rw [known_put] at hown1; obtain ⟨A1, c1, rfl, hc1, hr1, _⟩ := hown1.form)
    | (go_at_call 12; go_must (refine (new_any A1 c1 [172, 2, 1] (by simp) (by simp) _ _ hr1).mono ?_); rintro e w2 ⟨g, rfl, hgl, h2, hbel2⟩)
    | (go_at_call 13; have HN := num_any h2 300; rw [known_num] at HN; go_must (refine HN.mono ?_); rintro e w3 ⟨rfl, h3, hg3⟩; clear HN; have hcv : (convert 24 9 (.slice A1 3 c1)).run Try.prog w3 = .ok (.string (str [172, 2, 1])) w3 := run_str (P := Try.prog) (dst := 9) Try.underlying24 Try.underlying5 Try.underlying9 ((hr1.below hbel2 (Nat.le_refl _)).grown hg3 (by have := hbel2.size; omega) (by simp; omega)) c1)
    | (go_at_call 15; go_must (refine (at_any h3).mono ?_); rintro e w4 ⟨rfl, rfl⟩)
    | (go_at_call 14; go_must (refine (err_any (h3.drewN _)).mono ?_); rintro e w4 ⟨rfl, rfl⟩)
    | (go_at_call 18; go_must (refine (left_any h3).mono ?_); rintro e w4 ⟨rfl, nq, rfl⟩)
    | (go_at_call 16; go_must (refine (zig_any (-3) (by omega) (by omega) _).mono ?_); rintro e w4 ⟨rfl, rfl⟩)
    | (go_at_call 17; go_must (refine (zag_any 5 (by omega) (by omega) _).mono ?_); rintro e w4 ⟨rfl, rfl⟩))
  go_ret
  have b1 := below_then (below_alloc (Below.refl _ w) _) hbel1
  have b2 := below_then b1 hbel2
  exact ⟨rfl, below_drewN (below_one b2 hg3 (by have := b1.size; omega)) _⟩

/-- Put of one number, as a literal argument stands. -/
theorem put1_any (W : World) (x : Int) (h0 : 0 ≤ x) (h1 : x ≤ 18446744073709551615) :
    Calls Try.prog 11 #[.slice (some ⟨W.heap.size, 0, none⟩) 1 1] (W.alloc (.cells #[.int .u64 x] 22)) fun e w' => ∃ v, e = .returned v ∧ OwnI w' W.heap.size 5 .u8 v (putOne x) ∧ Below W.heap.size W w' := by
  refine (put_any _ _ [x] (by simpa using ⟨h0, h1⟩) (by simp) _ ((RdI.one W .u64 x _).more (by simp))).mono ?_
  rintro e w1 ⟨v1, rfl, hown1, hbel1⟩
  rw [put_one] at hown1
  exact ⟨v1, rfl, hown1.base_ (by simp), below_then (below_alloc (Below.refl _ W) _) hbel1⟩

end Go.Proofs.Ytpohinbhmlcfkaa
