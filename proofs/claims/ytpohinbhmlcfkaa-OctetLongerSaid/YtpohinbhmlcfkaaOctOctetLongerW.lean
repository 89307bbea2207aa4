/- The walk of OctetLonger. -/
import Derived.Test.YtpohinbhmlcfkaaOctKnown
import Derived.Test.YtpohinbhmlcfkaaOctLaws
namespace Go.Proofs.Ytpohinbhmlcfkaa.octetLonger
open Go.RowKit

theorem walk (w : World) (a : Int) (a0 : 0 ≤ a) (a1 : a ≤ 18446744073709551615) (b : Int) (b0 : 0 ≤ b) (b1 : b ≤ 18446744073709551615) :
    Calls Try.prog 5 #[.int .u64 a, .int .u64 b] w fun e w' => e = .returned (.bool true) ∧ Below w.heap.size w w' := by
  have C1 : ∀ W : World, _ := fun W => put1_any W a a0 a1
  have C2 : ∀ W : World, _ := fun W => put1_any W b b0 b1
  have h1 := putOne_length a
  have h2 := putOne_length b
  by_cases hab : b < a
  · have hm : (putOne b).length ≤ (putOne a).length := dig_mono 9 b a (by omega)
    have D1 := Lib.hid C1
    have D2 := Lib.hid C2
    clear C1 C2
    generalize putOne a = x at *
    generalize putOne b = y at *
    go_enter Try.func5, Try.ntmps5
    go_wp2_with (first
      | (go_at_call 10; refine (known_any _).mono ?_; rintro e w1 ⟨rfl, hbel⟩)
      | (go_at_call 11; (with_reducible refine (D2.out w1).mono ?_); rintro e w2 ⟨v2, rfl, hown2, hbel2⟩; obtain ⟨A2, c2, rfl, hc2, hr2, _⟩ := hown2.form)
      | (go_at_call 11; (with_reducible refine (D1.out w2).mono ?_); rintro e w3 ⟨v3, rfl, hown3, hbel3⟩; obtain ⟨A3, c3, rfl, hc3, hr3, _⟩ := hown3.form))
    all_goals
      go_ret
      exact ⟨ret_true (by simp; omega), below_then (below_then hbel hbel2) hbel3⟩
  · by_cases hlt : a < b
    · have hm : (putOne a).length ≤ (putOne b).length := dig_mono 9 a b (by omega)
      have D1 := Lib.hid C1
      have D2 := Lib.hid C2
      clear C1 C2
      generalize putOne a = x at *
      generalize putOne b = y at *
      go_enter Try.func5, Try.ntmps5
      go_wp2_with (first
        | (go_at_call 10; refine (known_any _).mono ?_; rintro e w1 ⟨rfl, hbel⟩)
        | (go_at_call 11; (with_reducible refine (D1.out w1).mono ?_); rintro e w2 ⟨v2, rfl, hown2, hbel2⟩; obtain ⟨A2, c2, rfl, hc2, hr2, _⟩ := hown2.form)
        | (go_at_call 11; (with_reducible refine (D2.out w2).mono ?_); rintro e w3 ⟨v3, rfl, hown3, hbel3⟩; obtain ⟨A3, c3, rfl, hc3, hr3, _⟩ := hown3.form))
      all_goals
        go_ret
        exact ⟨ret_true (by simp; omega), below_then (below_then hbel hbel2) hbel3⟩
    · have hm : (putOne a).length ≤ (putOne b).length := dig_mono 9 a b (by omega)
      have D1 := Lib.hid C1
      have D2 := Lib.hid C2
      clear C1 C2
      generalize putOne a = x at *
      generalize putOne b = y at *
      go_enter Try.func5, Try.ntmps5
      go_wp2_with (first
        | (go_at_call 10; refine (known_any _).mono ?_; rintro e w1 ⟨rfl, hbel⟩)
        | (go_at_call 11; (with_reducible refine (D1.out w1).mono ?_); rintro e w2 ⟨v2, rfl, hown2, hbel2⟩; obtain ⟨A2, c2, rfl, hc2, hr2, _⟩ := hown2.form)
        | (go_at_call 11; (with_reducible refine (D1.out w2).mono ?_); rintro e w3 ⟨v3, rfl, hown3, hbel3⟩; obtain ⟨A3, c3, rfl, hc3, hr3, _⟩ := hown3.form))
      all_goals
        go_ret
        exact ⟨ret_true (by simp; omega), below_then (below_then hbel hbel2) hbel3⟩
end Go.Proofs.Ytpohinbhmlcfkaa.octetLonger
