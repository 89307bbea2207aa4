/- The walk of OctetMost. -/
import Derived.Test.YtpohinbhmlcfkaaOctKnown
import Derived.Test.YtpohinbhmlcfkaaOctLaws
namespace Go.Proofs.Ytpohinbhmlcfkaa.octetMost
open Go.RowKit

theorem num_yes (n most : Int) (r : List Int) (h0 : 0 ≤ n) (h1 : n ≤ 18446744073709551615) (h : n ≤ most) : Rs.num ⟨putOne n ++ r, 0, 0⟩ most = (n, ⟨putOne n ++ r, (putOne n).length, 0⟩) := by
  have hv := vint_put n r h0 h1
  have : ¬ most < n := by omega
  simp [Rs.num, hv, this]
theorem num_no (n most : Int) (r : List Int) (h0 : 0 ≤ n) (h1 : n ≤ 18446744073709551615) (h : most < n) : Rs.num ⟨putOne n ++ r, 0, 0⟩ most = (0, ⟨putOne n ++ r, 0, 4⟩) := by
  have hv := vint_put n r h0 h1
  simp [Rs.num, hv, h]
theorem num_dead (l : List Int) (most : Int) : Rs.num ⟨l, 0, 4⟩ most = (0, ⟨l, 0, 4⟩) := by simp [Rs.num]
theorem take_dead (l : List Int) (n : Nat) : Rs.take ⟨l, 0, 4⟩ n = ([], ⟨l, 0, 4⟩) := by simp [Rs.take]

set_option maxHeartbeats 1000000 in
theorem walk (w : World) (n : Int) (n0 : 0 ≤ n) (n1 : n ≤ 18446744073709551615) (most : Int) (_m0 : 0 ≤ most) (_m1 : most ≤ 18446744073709551615)
    (A : Option Addr) (c : Nat) (l : List Int) (hl : ∀ x ∈ l, 0 ≤ x ∧ x ≤ 255) (_hc : l.length ≤ c) (hr : RdI w w.heap.size .u8 A l) :
    Calls Try.prog 6 #[.int .u64 n, .int .u64 most, .slice A l.length c] w fun e w' => e = .returned (.bool true) ∧ Below w.heap.size w w' := by
  have C1 := Lib.hid (fun W : World => put1_any W n n0 n1)
  have hlen := putOne_length n
  have HB : Hid (∀ x ∈ putOne n ++ l, 0 ≤ x ∧ x ≤ 255) := by
    intro x hx
    rcases List.mem_append.1 hx with h | h
    · exact putOne_bytes n n0 n1 x h
    · exact hl x h
  clear hl
  by_cases hbig : 50 < l.length
  · go_enter Try.func6, Try.ntmps6
    go_wp2_with (first
      | (go_at_call 10; refine (known_any _).mono ?_; rintro e w1 ⟨rfl, hbel⟩))
    go_ret
    exact ⟨rfl, hbel⟩
  · by_cases hle : n ≤ most
    · have HN := Lib.hid (num_yes n most l n0 n1 hle)
      generalize putOne n = b at *
      go_enter Try.func6, Try.ntmps6
      go_wp2_with (first
        | (go_at_call 10; refine (known_any _).mono ?_; rintro e w1 ⟨rfl, hbel⟩; have hr1 := hr.below hbel (Nat.le_refl _); have hs1 := hbel.size)
        | (go_at_call 11; (with_reducible refine (C1.out w1).mono ?_); rintro e w2 ⟨v2, rfl, hown2, hbel2⟩; obtain ⟨A2, c2, rfl, hc2, hr2, _⟩ := hown2.form)
        | (at_builtin; refine wpList_append_int _ rfl (.tmp 20) (.tmp 21) _ rfl w2 w2.heap.size w2.heap.size 5 .u8 1 Try.underlying24 info_u8 _ [] rfl (OwnI.empty _ _ _ _ (Nat.le_refl _)) _ A2 b.length c2 b rfl rfl (hr2.alloc (Nat.le_refl _) _) (by simp; omega) (by omega) (by repeat (first | exact Below.refl _ _ | assumption | refine Below.drew ?_ | refine below_drewN ?_ _ | refine below_alloc ?_ _)) (Nat.le_refl _) (by simp) ?_; intro v4 w4 hown4 hbel4; rw [List.nil_append] at hown4)
        | (at_builtin; refine wpList_append_int _ rfl (.tmp 22) (.tmp 23) _ rfl w2 w2.heap.size w2.heap.size 5 .u8 1 Try.underlying24 info_u8 _ b rfl hown4 _ A l.length c l rfl rfl ((hr1.below hbel2 hs1).below hbel4 (Nat.le_trans hs1 hbel2.size)) (by omega) (by omega) hbel4 (Nat.le_refl _) hbel4.size ?_; intro v5 w5 hown5 hbel5; obtain ⟨A5, c5, rfl, hc5, hr5, _⟩ := hown5.form)
        | (go_at_call 12; (with_reducible refine (new_n A5 c5 (b.length + l.length) (b ++ l) (by simp) HB.out (by omega) w5 _ hr5).mono ?_); rintro e w7 ⟨g7, rfl, hgl7, h7, hbel7⟩)
        | (go_at_call 13; have HN' := num_any h7 most; rw [HN.out] at HN'; (with_reducible refine HN'.mono ?_); rintro e w8 ⟨rfl, h8, hg8⟩; clear HN')
        | (go_at_call 14; (with_reducible refine (err_any h8).mono ?_); rintro e w10 ⟨rfl, rfl⟩)
        | (go_at_call 15; (with_reducible refine (at_any h8).mono ?_); rintro e w10 ⟨rfl, rfl⟩)
        | (go_at_call 18; (with_reducible refine (left_any h8).mono ?_); rintro e w10 ⟨rfl, nq, rfl⟩))
      go_ret
      have k1 := below_then (below_then (below_then hbel hbel2) hbel5) hbel7
      have k2 := below_one k1 hg8 (by have := hbel.size; have := hbel2.size; have := hbel5.size; omega)
      exact ⟨ret_true (by simp; omega), below_drewN k2 _⟩
    · have HN := Lib.hid (num_no n most l n0 n1 (by omega))
      generalize putOne n = b at *
      go_enter Try.func6, Try.ntmps6
      go_wp2_with (first
        | (go_at_call 10; refine (known_any _).mono ?_; rintro e w1 ⟨rfl, hbel⟩; have hr1 := hr.below hbel (Nat.le_refl _); have hs1 := hbel.size)
        | (go_at_call 11; (with_reducible refine (C1.out w1).mono ?_); rintro e w2 ⟨v2, rfl, hown2, hbel2⟩; obtain ⟨A2, c2, rfl, hc2, hr2, _⟩ := hown2.form)
        | (at_builtin; refine wpList_append_int _ rfl (.tmp 20) (.tmp 21) _ rfl w2 w2.heap.size w2.heap.size 5 .u8 1 Try.underlying24 info_u8 _ [] rfl (OwnI.empty _ _ _ _ (Nat.le_refl _)) _ A2 b.length c2 b rfl rfl (hr2.alloc (Nat.le_refl _) _) (by simp; omega) (by omega) (by repeat (first | exact Below.refl _ _ | assumption | refine Below.drew ?_ | refine below_drewN ?_ _ | refine below_alloc ?_ _)) (Nat.le_refl _) (by simp) ?_; intro v4 w4 hown4 hbel4; rw [List.nil_append] at hown4)
        | (at_builtin; refine wpList_append_int _ rfl (.tmp 22) (.tmp 23) _ rfl w2 w2.heap.size w2.heap.size 5 .u8 1 Try.underlying24 info_u8 _ b rfl hown4 _ A l.length c l rfl rfl ((hr1.below hbel2 hs1).below hbel4 (Nat.le_trans hs1 hbel2.size)) (by omega) (by omega) hbel4 (Nat.le_refl _) hbel4.size ?_; intro v5 w5 hown5 hbel5; obtain ⟨A5, c5, rfl, hc5, hr5, _⟩ := hown5.form)
        | (go_at_call 12; (with_reducible refine (new_n A5 c5 (b.length + l.length) (b ++ l) (by simp) HB.out (by omega) w5 _ hr5).mono ?_); rintro e w7 ⟨g7, rfl, hgl7, h7, hbel7⟩)
        | (go_at_call 13; have HN' := num_any h7 most; rw [HN.out] at HN'; (with_reducible refine HN'.mono ?_); rintro e w8 ⟨rfl, h8, hg8⟩; clear HN')
        | (go_at_call 13; have HN' := num_any h8 18446744073709551615; rw [num_dead] at HN'; (with_reducible refine HN'.mono ?_); rintro e w9 ⟨rfl, h9, hg9⟩; clear HN')
        | (go_at_call 19; have HN' := take_any h9 0 (by omega) (by omega); rw [take_dead] at HN'; (with_reducible refine HN'.mono ?_); rintro e w10 ⟨v10, rfl, hown10, h10, hg10⟩; obtain ⟨A10, c10, rfl, _⟩ := hown10.form; clear HN')
        | (go_at_call 14; (with_reducible refine (err_any h10).mono ?_); rintro e w10 ⟨rfl, rfl⟩)
        | (go_at_call 15; (with_reducible refine (at_any h10).mono ?_); rintro e w10 ⟨rfl, rfl⟩)
        | (go_at_call 18; (with_reducible refine (left_any h10).mono ?_); rintro e w10 ⟨rfl, nq, rfl⟩))
      go_ret
      have k1 := below_then (below_then (below_then hbel hbel2) hbel5) hbel7
      have k2 := below_one k1 hg8 (by have := hbel.size; have := hbel2.size; have := hbel5.size; omega)
      have k3 := below_one (below_one k2 hg9 (by have := hbel.size; have := hbel2.size; have := hbel5.size; omega)) hg10 (by have := hbel.size; have := hbel2.size; have := hbel5.size; omega)
      exact ⟨ret_true (by simp), below_drewN k3 _⟩
end Go.Proofs.Ytpohinbhmlcfkaa.octetMost
