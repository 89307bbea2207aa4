/- What the reference's reader computes: Num, Lump. -/
import Derived.Test.YtpohinbhmlcfkaaOctRef2
namespace Go.Proofs.Ytpohinbhmlcfkaa
open Go.RowKit

theorem and_127 (x : Int) (h0 : 0 ≤ x) (h1 : x ≤ 255) : bits .and .u8 x 127 = x % 128 := by
  rw [u8_and x 127 h0 (by omega) (by omega) (by omega)]
  have : x.toNat &&& (127 : Int).toNat = x.toNat % 128 := Nat.and_two_pow_sub_one_eq_mod x.toNat 7
  rw [this]
  omega

set_option maxRecDepth 100000 in
set_option maxHeartbeats 2000000 in
theorem numref_any {w : World} {lo hi g : Nat} {s : Rs} (hR : Rdr w 52 lo hi g s) (most : Int) :
    Calls Try.prog 24 #[.pointer (some ⟨g, 0, none⟩), .int .u64 most] w fun e w' => e = .returned (.int .u64 (s.num most).1) ∧ Rdr w' 52 lo hi g (s.num most).2 ∧ w.grownBy w' (some g) := by
  obtain ⟨A, c, c0, c1, c2, ⟨f1, f2⟩, hc, hr, ha, hl, hby, he0, he1⟩ := hR.cells
  by_cases herr : s.err = 0
  · have hb : (s.err != 0) = false := by simpa using herr
    have HN := Lib.hid (show s.num most = (if s.err ≠ 0 then (0, s) else
      if (vint 0 0 (s.data.drop s.at_)).2.2 ≠ 0 then (0, { s with err := (vint 0 0 (s.data.drop s.at_)).2.2 })
      else if most < (vint 0 0 (s.data.drop s.at_)).1 then (0, { s with err := 4 })
      else ((vint 0 0 (s.data.drop s.at_)).1, { s with at_ := s.at_ + (vint 0 0 (s.data.drop s.at_)).2.1 })) from rfl)
    simp only [herr, ne_eq, not_true_eq_false, if_false] at HN
    have HBY := Lib.hid hby
    have HE := Lib.hid herr
    clear herr hby
    go_enter Try.func24, Try.ntmps24
    go_wp2
    go_loopw [5, 6] (fun n i wr => ∃ (k : Nat) (m : Int) (q : Nat), s.at_ + k ≤ s.data.length ∧ k ≤ 9 ∧ i = .int .i64 k ∧ n = .int .u64 m ∧ 0 ≤ m ∧ m < 128 ^ k ∧ vint k m (s.data.drop (s.at_ + k)) = vint 0 0 (s.data.drop s.at_) ∧ wr = w.drewN q)
      (fun _ i _ => s.data.length - (intOf i).toNat)
    case atStart => exact ⟨0, 0, 0, by omega, by omega, rfl, rfl, by omega, by omega, by simp, rfl⟩
    case round =>
      obtain ⟨k, m, q, hk, hk9, rfl, rfl, hm0, hm1, hv, rfl⟩ := hrel
      have HV0 := Lib.hid hv
      have HM := Lib.hid hm1
      clear hv hm1
      have e1 := IntWalk.i64_in ((s.at_ : Int) + (k : Int)) (by omega)
      by_cases hlt : s.at_ + k < s.data.length
      · have hlt' : (s.at_ : Int) + (k : Int) < (s.data.length : Int) := by omega
        have hltd : decide ((s.at_ : Int) + (k : Int) < (s.data.length : Int)) = true := by simpa using hlt'
        have htn : ((s.at_ : Int) + (k : Int)).toNat = s.at_ + k := by omega
        have hge0 : 0 ≤ (s.at_ : Int) + (k : Int) := by omega
        obtain ⟨ad, hAd, hadB, hcell⟩ := hr.at_ hlt
        subst hAd
        obtain ⟨hx0, hx1⟩ := HBY.out (s.data.getD (s.at_ + k) 0) (by rw [List.getD_eq_getElem?_getD, List.getElem?_eq_getElem hlt]; exact List.getElem_mem hlt)
        have HV : Hid (vint k m (s.data.getD (s.at_ + k) 0 :: s.data.drop (s.at_ + (k + 1))) = vint 0 0 (s.data.drop s.at_)) := by
          show _ = _
          rw [← Nat.add_assoc, ← drop_cons hlt]
          exact HV0.out
        clear HV0
        generalize s.data.getD (s.at_ + k) 0 = x at *
        have HP : Hid (m + x % 128 * 128 ^ k < 18446744073709551616 ∧ (128 ≤ x → k ≤ 8) ∨ ((k = 9 ∧ 1 < x) ∨ (0 < k ∧ x = 0))) := by
          by_cases hbad : (k = 9 ∧ 1 < x) ∨ (0 < k ∧ x = 0)
          · exact .inr hbad
          · refine .inl ?_
            have := HM.out
            by_cases h9 : k = 9
            · have : x ≤ 1 := by
                rcases Int.lt_or_le 1 x with h | h
                · exact absurd (Or.inl ⟨h9, h⟩) hbad
                · exact h
              subst h9
              have h2 : x % 128 * 128 ^ 9 ≤ 1 * 128 ^ 9 := Int.mul_le_mul_of_nonneg_right (by omega) (by omega)
              omega
            · have h8 : (128 : Int) ^ k ≤ 128 ^ 8 := by
                rcases (show k = 0 ∨ k = 1 ∨ k = 2 ∨ k = 3 ∨ k = 4 ∨ k = 5 ∨ k = 6 ∨ k = 7 ∨ k = 8 by omega) with rfl | rfl | rfl | rfl | rfl | rfl | rfl | rfl | rfl <;> omega
              have hp0 : (0 : Int) < 128 ^ k := Int.pow_pos (by omega)
              have : x % 128 * 128 ^ k ≤ 127 * 128 ^ k := Int.mul_le_mul_of_nonneg_right (by omega) (by omega)
              omega
        by_cases hbad : (k = 9 ∧ 1 < x) ∨ (0 < k ∧ x = 0)
        · have HF := Lib.hid (show s.num most = (0, { s with err := 2 }) by rw [HN.out, ← HV.out, vint_bad hbad]; simp)
          rcases hbad with ⟨h9, h1⟩ | ⟨h0, rfl⟩
          · have hk9' : ((k : Int) == 9) = true := by simp [h9]
            clear h9
            go_wp2
            go_quiet (fail)
            go_wp2_with fail
            go_quiet (fail)
            clear e1
            go_wp2
            go_ret
            rw [HF.out]
            exact ⟨rfl, (hR.drewN _).setErr 2 (by omega) (by omega), only_setCell (by repeat (first | exact only_refl _ _ | assumption | refine only_drew ?_ | refine only_drewN ?_ _ | refine only_alloc ?_ _)) (.inl rfl) _⟩
          · skip
            go_wp2
            go_quiet (fail)
            go_wp2_with fail
            go_quiet (fail)
            clear e1
            go_wp2
            all_goals
              go_ret
              rw [HF.out]
              exact ⟨rfl, (hR.drewN _).setErr 2 (by omega) (by omega), only_setCell (by repeat (first | exact only_refl _ _ | assumption | refine only_drew ?_ | refine only_drewN ?_ _ | refine only_alloc ?_ _)) (.inl rfl) _⟩
        · have hxm := HP.out.resolve_right hbad
          have HA := and_127 x hx0 hx1
          have HO := Lib.hid (or_dig m (x % 128) (7 * k) (128 ^ k) (pow_128 k) hm0 HM.out (by omega) hxm.1)
          rw [pow_128 k] at HO
          have hmod0 : 0 ≤ x % 128 := by omega
          have hmod1 : x % 128 ≤ 127 := by omega
          have HNb : Hid (0 ≤ m + x % 128 * 128 ^ k ∧ m + x % 128 * 128 ^ k < 128 ^ (k + 1)) := by
            have hp0 : (0 : Int) < 128 ^ k := Int.pow_pos (by omega)
            have h1 : x % 128 * 128 ^ k ≤ 127 * 128 ^ k := Int.mul_le_mul_of_nonneg_right (by omega) (by omega)
            have h2 : 0 ≤ x % 128 * 128 ^ k := Int.mul_nonneg hmod0 (by omega)
            have h3 := HM.out
            exact ⟨by omega, by rw [Int.pow_succ]; omega⟩
          have h8 := hxm.2
          clear hxm
          by_cases hge : 128 ≤ x
          · have HF := Lib.hid (HV.out.symm.trans (vint_more hbad hge))
            have hk8 := h8 hge
            clear hbad h8
            go_wp2
            go_quiet (fail)
            go_wp2_with fail
            go_quiet (fail)
            clear e1
            go_wp2
            all_goals
              go_roundw
              case rel =>
                refine ⟨k + 1, _, _, by omega, by omega, by go_num, rfl, ?_, ?_, ?_, rfl⟩
                all_goals rw [HO.out, ← pow_128]
                · exact HNb.out.1
                · exact HNb.out.2
                · exact HF.out.symm
              case measure => simp [intOf]; omega
          · have hlt2 : x < 128 := by omega
            have HVv := Lib.hid (HV.out.symm.trans (vint_last hbad hlt2))
            have HK : Hid (¬ ((k = 9 ∧ 1 < x) ∨ (0 < k ∧ x = 0))) := hbad
            clear h8 hge hbad
            by_cases hgt : most < m + x % 128 * 128 ^ k
            · have HF := Lib.hid (show s.num most = (0, { s with err := 4 }) by rw [HN.out, HVv.out]; simp [hgt])
              have HG : most < bits .or .u64 m (IntKind.u64.wrap (x % 128 * 2 ^ (7 * k))) := by rw [HO.out, ← pow_128]; exact hgt
              clear hgt
              by_cases h9 : k = 9
              · have hx1' : x ≤ 1 := by
                  have h1 : ¬ 1 < x := fun h => HK.out (Or.inl ⟨h9, h⟩)
                  omega
                have hx01 : (x == 0) = false := by
                  have h2 : ¬ x = 0 := fun h => HK.out (Or.inr ⟨by omega, h⟩)
                  simpa using h2
                have hk0 : 0 < k := by omega
                have hb9 : ((k : Int) == 9) = true := by simp [h9]
                clear h9
                go_wp2
                go_quiet (fail)
                go_wp2_with fail
                go_quiet (fail)
                clear e1
                go_wp2
                go_ret
                rw [HF.out]
                exact ⟨rfl, (hR.drewN _).setErr 4 (by omega) (by omega), only_setCell (by repeat (first | exact only_refl _ _ | assumption | refine only_drew ?_ | refine only_drewN ?_ _ | refine only_alloc ?_ _)) (.inl rfl) _⟩
              · have hb9 : ((k : Int) == 9) = false := by simp; omega
                by_cases h0 : 0 < k
                · have hx01 : (x == 0) = false := by
                    have h2 : ¬ x = 0 := fun h => HK.out (Or.inr ⟨by omega, h⟩)
                    simpa using h2
                  clear h9
                  go_wp2
                  go_quiet (fail)
                  go_wp2_with fail
                  go_quiet (fail)
                  clear e1
                  go_wp2
                  go_ret
                  rw [HF.out]
                  exact ⟨rfl, (hR.drewN _).setErr 4 (by omega) (by omega), only_setCell (by repeat (first | exact only_refl _ _ | assumption | refine only_drew ?_ | refine only_drewN ?_ _ | refine only_alloc ?_ _)) (.inl rfl) _⟩
                · clear h9
                  go_wp2
                  go_quiet (fail)
                  go_wp2_with fail
                  go_quiet (fail)
                  clear e1
                  go_wp2
                  go_ret
                  rw [HF.out]
                  exact ⟨rfl, (hR.drewN _).setErr 4 (by omega) (by omega), only_setCell (by repeat (first | exact only_refl _ _ | assumption | refine only_drew ?_ | refine only_drewN ?_ _ | refine only_alloc ?_ _)) (.inl rfl) _⟩
            · have HF := Lib.hid (show s.num most = (m + x % 128 * 128 ^ k, { s with at_ := s.at_ + (k + 1) }) by rw [HN.out, HVv.out]; simp [hgt, HE.out])
              have HG : ¬ most < bits .or .u64 m (IntKind.u64.wrap (x % 128 * 2 ^ (7 * k))) := by rw [HO.out, ← pow_128]; exact hgt
              have HC : Hid ((s.at_ : Int) + (k : Int) + 1 = ((s.at_ + (k + 1) : Nat) : Int)) := by show _ = _; omega
              clear hgt
              by_cases h9 : k = 9
              · have hx1' : x ≤ 1 := by
                  have h1 : ¬ 1 < x := fun h => HK.out (Or.inl ⟨h9, h⟩)
                  omega
                have hx01 : (x == 0) = false := by
                  have h2 : ¬ x = 0 := fun h => HK.out (Or.inr ⟨by omega, h⟩)
                  simpa using h2
                have hk0 : 0 < k := by omega
                have hb9 : ((k : Int) == 9) = true := by simp [h9]
                clear h9
                go_wp2
                go_quiet (fail)
                go_wp2_with fail
                go_quiet (fail)
                clear e1
                go_wp2
                go_ret
                rw [HF.out]
                exact ⟨ret_int (by rw [HO.out, ← pow_128]), by rw [HC.out]; exact (hR.drewN _).setAt (s.at_ + (k + 1)) (by omega), only_setCell (by repeat (first | exact only_refl _ _ | assumption | refine only_drew ?_ | refine only_drewN ?_ _ | refine only_alloc ?_ _)) (.inl rfl) _⟩
              · have hb9 : ((k : Int) == 9) = false := by simp; omega
                by_cases h0 : 0 < k
                · have hx01 : (x == 0) = false := by
                    have h2 : ¬ x = 0 := fun h => HK.out (Or.inr ⟨by omega, h⟩)
                    simpa using h2
                  clear h9
                  go_wp2
                  go_quiet (fail)
                  go_wp2_with fail
                  go_quiet (fail)
                  clear e1
                  go_wp2
                  go_ret
                  rw [HF.out]
                  exact ⟨ret_int (by rw [HO.out, ← pow_128]), by rw [HC.out]; exact (hR.drewN _).setAt (s.at_ + (k + 1)) (by omega), only_setCell (by repeat (first | exact only_refl _ _ | assumption | refine only_drew ?_ | refine only_drewN ?_ _ | refine only_alloc ?_ _)) (.inl rfl) _⟩
                · clear h9
                  go_wp2
                  go_quiet (fail)
                  go_wp2_with fail
                  go_quiet (fail)
                  clear e1
                  go_wp2
                  go_ret
                  rw [HF.out]
                  exact ⟨ret_int (by rw [HO.out, ← pow_128]), by rw [HC.out]; exact (hR.drewN _).setAt (s.at_ + (k + 1)) (by omega), only_setCell (by repeat (first | exact only_refl _ _ | assumption | refine only_drew ?_ | refine only_drewN ?_ _ | refine only_alloc ?_ _)) (.inl rfl) _⟩
      · have hkl : s.at_ + k = s.data.length := by omega
        have hlt' : ¬ (s.at_ : Int) + (k : Int) < (s.data.length : Int) := by omega
        have hltd : decide ((s.at_ : Int) + (k : Int) < (s.data.length : Int)) = false := by simpa using hlt'
        have HF := Lib.hid (show s.num most = (0, { s with err := 3 }) by rw [HN.out, ← HV0.out, List.drop_eq_nil_of_le (by omega), vint_nil]; simp)
        clear hkl
        go_wp2
        go_quiet (fail)
        clear e1
        go_wp2
        go_ret
        rw [HF.out]
        exact ⟨rfl, (hR.drewN _).setErr 3 (by omega) (by omega), only_setCell (by repeat (first | exact only_refl _ _ | assumption | refine only_drew ?_ | refine only_drewN ?_ _ | refine only_alloc ?_ _)) (.inl rfl) _⟩
  · have hb : (s.err != 0) = true := by simpa using herr
    have HF := Lib.hid (show s.num most = (0, s) by simp [Rs.num, herr])
    go_enter Try.func24, Try.ntmps24
    go_wp2
    go_ret
    rw [HF.out]
    exact ⟨rfl, hR, only_refl _ _⟩

end Go.Proofs.Ytpohinbhmlcfkaa
