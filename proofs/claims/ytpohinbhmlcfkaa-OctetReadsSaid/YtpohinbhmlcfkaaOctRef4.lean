/- What the reference's reader computes: Lump. -/
import Derived.Test.YtpohinbhmlcfkaaOctRef3
namespace Go.Proofs.Ytpohinbhmlcfkaa
open Go.RowKit

set_option maxHeartbeats 1000000 in
theorem lumpref_any {w : World} {lo hi g : Nat} {s : Rs} (hR : Rdr w 52 lo hi g s) (most : Int) (hm0 : -9223372036854775808 ≤ most) (hm1 : most ≤ 9223372036854775807) :
    Calls Try.prog 30 #[.pointer (some ⟨g, 0, none⟩), .int .i64 most] w fun e w' => ∃ v, e = .returned v ∧
      OwnI w' w.heap.size 5 .u8 v (s.lump (if most < 0 then 0 else most)).1 ∧ Rdr w' 52 lo hi g (s.lump (if most < 0 then 0 else most)).2 ∧ w.grownBy w' (some g) := by
  obtain ⟨A, c, c0, c1, c2, ⟨f1, f2⟩, hc, hr, ha, hl, hby, he0, he1⟩ := hR.cells
  have hm : 0 ≤ (if most < 0 then 0 else most) ∧ (if most < 0 then 0 else most) ≤ 9223372036854775807 := by split <;> omega
  have HL := Lib.hid (show s.lump (if most < 0 then 0 else most) =
    (if ((s.num (if most < 0 then 0 else most)).2.take (s.num (if most < 0 then 0 else most)).1.toNat).2.err ≠ 0 then ([], { ((s.num (if most < 0 then 0 else most)).2.take (s.num (if most < 0 then 0 else most)).1.toNat).2 with at_ := s.at_ })
     else ((s.num (if most < 0 then 0 else most)).2.take (s.num (if most < 0 then 0 else most)).1.toNat)) from rfl)
  have hnb := Rs.num_bounds s _ hm.1 hby
  have hdat := Rs.num_data s (if most < 0 then 0 else most)
  have hat := Rs.num_at s (if most < 0 then 0 else most) ha hby
  have hnum0 := Rs.num_err s (if most < 0 then 0 else most)
  have HC1 := Lib.hid (numref_any hR (if most < 0 then 0 else most))
  generalize hmm : (if most < 0 then 0 else most) = m at *
  generalize s.num m = r1 at *
  obtain ⟨x, s1⟩ := r1
  simp only at *
  by_cases herr : s1.err = 0
  · have hb : (s1.err != 0) = false := by simpa using herr
    have HC2 : ∀ w1 : World, Rdr w1 52 lo hi g s1 → Calls Try.prog 29 #[.pointer (some ⟨g, 0, none⟩), .int .i64 x] w1 fun e w' => ∃ v, e = .returned v ∧ OwnI w' w1.heap.size 5 .u8 v (s1.take x.toNat).1 ∧
        Rdr w' 52 lo hi g (s1.take x.toNat).2 ∧ w1.grownBy w' (some g) := fun w1 h1 => takeref_any h1 _ (by omega) (by omega)
    have HC2' := Lib.hid HC2
    clear HC2
    have hat1 : s1.at_ ≤ s1.data.length := by rw [hdat]; exact hat
    have hpos : 0 ≤ (s1.data.length : Int) - (s1.at_ : Int) := by omega
    by_cases hgt : (s1.data.length : Int) - (s1.at_ : Int) < x
    · have HF : s.lump m = ([], { s1 with at_ := s.at_, err := 3 }) := by
        have ht : s1.take x.toNat = ([], { s1 with err := 3 }) := by
          unfold Rs.take
          rw [if_neg (by simp [herr]), if_pos (by omega)]
        rw [HL.out, ht]
        simp
      have HH := Lib.hid HF
      have HD := Lib.hid hdat
      have hl1 : (s1.data.length : Int) ≤ 1000000000 := by rw [hdat]; omega
      clear HF herr hdat
      have hneg : ¬ most < 0 := by
        intro h
        rw [if_pos h] at hmm
        omega
      rw [if_neg hneg] at hmm
      subst hmm
      go_enter Try.func30, Try.ntmps30
      go_wp2_with (first
        | (go_at_call 24; go_must (refine HC1.out.mono ?_); rintro e w1 ⟨rfl, h1, hg1⟩; obtain ⟨_, _, d0, d1, d2, ⟨e1, e2⟩, _⟩ := h1.cells)
        | (go_at_call 31; go_must (refine (leftref_any h1).mono ?_); rintro e w2 ⟨rfl, nq, rfl⟩))
      go_ret
      rw [HH.out]
      exact ⟨_, rfl, OwnI.nil_ _ _ _ _, ((h1.drewN _).setAt s.at_ (by rw [HD.out]; exact ha)).setErr 3 (by omega) (by omega), only_trans hg1 (only_setCell (p := ⟨g, 2, none⟩) (only_setCell (p := ⟨g, 1, none⟩) (only_drewN (only_refl _ _) _) (.inl rfl) _) (.inl rfl) _)⟩
    · have HF : s.lump m = s1.take x.toNat := by
        have ht : (s1.take x.toNat).2.err = 0 := by
          unfold Rs.take
          rw [if_neg (by simp [herr]), if_neg (by omega)]
          exact herr
        rw [HL.out, if_neg (by simp [ht])]
      have HH := Lib.hid HF
      have hl1 : (s1.data.length : Int) ≤ 1000000000 := by rw [hdat]; omega
      clear HF herr hdat
      by_cases hneg : most < 0
      all_goals
        first
        | rw [if_pos hneg] at hmm
        | rw [if_neg hneg] at hmm
        subst hmm
        go_enter Try.func30, Try.ntmps30
        go_wp2_with (first
          | (go_at_call 24; go_must (refine HC1.out.mono ?_); rintro e w1 ⟨rfl, h1, hg1⟩; obtain ⟨_, _, d0, d1, d2, ⟨e1, e2⟩, _⟩ := h1.cells)
          | (go_at_call 31; go_must (refine (leftref_any h1).mono ?_); rintro e w2 ⟨rfl, nq, rfl⟩)
          | (go_at_call 29; go_must (refine (HC2'.out _ (h1.drewN nq)).mono ?_); rintro e w3 ⟨v3, rfl, hown3, h3, hg3⟩))
        go_ret
        rw [HH.out]
        exact ⟨_, rfl, hown3.base_ hg1.size, h3, only_trans hg1 (only_undrewN hg3)⟩
  · have hb : (s1.err != 0) = true := by simpa using herr
    have hx0 := hnum0 herr
    have HF := Lib.hid (show s.lump m = ([], s1) by
      have ht : s1.take x.toNat = ([], s1) := by
        unfold Rs.take
        rw [if_pos herr]
      rw [HL.out, ht, if_pos herr, ← hx0])
    clear herr hnum0 hx0 hdat
    by_cases hneg : most < 0
    all_goals
      first
      | rw [if_pos hneg] at hmm
      | rw [if_neg hneg] at hmm
      subst hmm
      go_enter Try.func30, Try.ntmps30
      go_wp2_with (first
        | (go_at_call 24; go_must (refine HC1.out.mono ?_); rintro e w1 ⟨rfl, h1, hg1⟩; obtain ⟨_, _, d0, d1, d2, ⟨e1, e2⟩, _⟩ := h1.cells))
      go_ret
      rw [HF.out]
      exact ⟨_, rfl, OwnI.nil_ _ _ _ _, h1, hg1⟩

end Go.Proofs.Ytpohinbhmlcfkaa
