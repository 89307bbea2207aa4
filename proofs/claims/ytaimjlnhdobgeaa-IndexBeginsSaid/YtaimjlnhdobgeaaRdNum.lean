/- octet.Reader: Num. -/
import Derived.Test.YtaimjlnhdobgeaaRdr
set_option linter.unusedSimpArgs false
set_option linter.unusedVariables false
namespace Go.Proofs.Ytaimjlnhdobgeaa
open Go.RowKit

theorem ret3 {k1 k2 k3 : IntKind} {a b c : Int} {t : Int × Nat × Int} (h : t = (a, b.toNat, c)) (hb : 0 ≤ b) : Ending.returned (.tuple #[.int k1 a, .int k2 b, .int k3 c]) = .returned (.tuple #[.int k1 t.1, .int k2 t.2.1, .int k3 t.2.2]) := by
  subst h
  simp only
  rw [Int.toNat_of_nonneg hb]

set_option maxHeartbeats 1000000 in
theorem varint_any (A : Option Addr) (c : Nat) (l : List Int) (hl : ∀ x ∈ l, 0 ≤ x ∧ x ≤ 255) (hn : l.length ≤ 1000000000) (w : World) (B : Nat) (hr : RdI w B .u8 A l) :
    Calls Try.prog 44 #[.slice A l.length c] w fun e w' => e = .returned (.tuple #[.int .u64 (vint 0 0 l).1, .int .i64 (vint 0 0 l).2.1, .int .i64 (vint 0 0 l).2.2]) ∧ w = w' := by
  go_enter Try.func44, Try.ntmps44
  go_wp2
  go_loop [5, 10] (fun n i => ∃ (k : Nat) (m : Int), k ≤ l.length ∧ k ≤ 9 ∧ i = .int .i64 k ∧ n = .int .u64 m ∧ 0 ≤ m ∧ m < 128 ^ k ∧ vint k m (l.drop k) = vint 0 0 l)
    (fun _ i => l.length - (intOf i).toNat)
  case atStart => exact ⟨0, 0, Nat.zero_le _, Nat.zero_le _, rfl, rfl, by omega, by omega, by simp⟩
  case round =>
    obtain ⟨k, m, hk, hk9, rfl, rfl, hm0, hm1, hv⟩ := hrel
    by_cases hlt : k < l.length
    · obtain ⟨ad, rfl, hadB, hcell⟩ := hr.at_ hlt
      obtain ⟨hx0, hx1⟩ := hl (l.getD k 0) (by rw [List.getD_eq_getElem?_getD, List.getElem?_eq_getElem hlt]; exact List.getElem_mem hlt)
      have hv2 : vint k m (l.getD k 0 :: l.drop (k + 1)) = vint 0 0 l := by rw [← drop_cons hlt]; exact hv
      have HV := Lib.hid hv2
      have HM := Lib.hid hm1
      clear hv hv2 hm1
      generalize l.getD k 0 = x at *
      by_cases hbad : (k = 9 ∧ 1 < x) ∨ (0 < k ∧ x = 0)
      · have HF := Lib.hid (HV.out.symm.trans (vint_bad hbad))
        rcases hbad with ⟨h9, h1⟩ | ⟨h0, rfl⟩
        · have hk9' : ((k : Int) == 9) = true := by simp [h9]
          clear h9
          go_wp2
          go_ret3
          exact ⟨ret3 HF.out (by omega), rfl⟩
        · go_wp2
          all_goals
            go_ret3
            exact ⟨ret3 HF.out (by omega), rfl⟩
      · have hxm : m + x % 128 * 128 ^ k < 18446744073709551616 ∧ (128 ≤ x → k ≤ 8) := by
          have := HM.out
          by_cases h9 : k = 9
          · have : x ≤ 1 := by
              rcases Int.lt_or_le 1 x with h | h
              · exact absurd (Or.inl ⟨h9, h⟩) hbad
              · exact h
            subst h9
            have h2 : x % 128 * 128 ^ 9 ≤ 1 * 128 ^ 9 := Int.mul_le_mul_of_nonneg_right (by omega) (by omega)
            omega
          · have h8 : (128 : Int) ^ k ≤ 128 ^ 8 := by
              rcases (show k = 0 ∨ k = 1 ∨ k = 2 ∨ k = 3 ∨ k = 4 ∨ k = 5 ∨ k = 6 ∨ k = 7 ∨ k = 8 by omega) with rfl | rfl | rfl | rfl | rfl | rfl | rfl | rfl | rfl <;> omega
            have hp0 : (0 : Int) < 128 ^ k := Int.pow_pos (by omega)
            have : x % 128 * 128 ^ k ≤ 127 * 128 ^ k := Int.mul_le_mul_of_nonneg_right (by omega) (by omega)
            omega
        have HO := Lib.hid (or_dig m (x % 128) (7 * k) (128 ^ k) (pow_128 k) hm0 HM.out (by omega) hxm.1)
        rw [pow_128 k] at HO
        have hmod0 : 0 ≤ x % 128 := by omega
        have hmod1 : x % 128 ≤ 127 := by omega
        have HN : Hid (0 ≤ m + x % 128 * 128 ^ k ∧ m + x % 128 * 128 ^ k < 128 ^ (k + 1)) := by
          have hp0 : (0 : Int) < 128 ^ k := Int.pow_pos (by omega)
          have h1 : x % 128 * 128 ^ k ≤ 127 * 128 ^ k := Int.mul_le_mul_of_nonneg_right (by omega) (by omega)
          have h2 : 0 ≤ x % 128 * 128 ^ k := Int.mul_nonneg hmod0 (by omega)
          have h3 := HM.out
          exact ⟨by omega, by rw [Int.pow_succ]; omega⟩
        have h8 := hxm.2
        clear hxm
        by_cases hge : 128 ≤ x
        · have HF := Lib.hid (HV.out.symm.trans (vint_more hbad hge))
          have hk8 := h8 hge
          clear hbad h8
          go_wp2
          all_goals
            go_round
            case rel =>
              refine ⟨k + 1, _, by omega, by omega, by go_num, rfl, ?_, ?_, ?_⟩
              all_goals rw [HO.out, ← pow_128]
              · exact HN.out.1
              · exact HN.out.2
              · exact HF.out.symm
            case measure => simp [intOf]; omega
        · have hlt2 : x < 128 := by omega
          have HF := Lib.hid (HV.out.symm.trans (vint_last hbad hlt2))
          clear h8 hge
          by_cases h9 : k = 9
          · have hx1' : x ≤ 1 := by
              have h1 : ¬ 1 < x := fun h => hbad (Or.inl ⟨h9, h⟩)
              omega
            have hx01 : (x == 0) = false := by
              have h2 : ¬ x = 0 := fun h => hbad (Or.inr ⟨by omega, h⟩)
              simpa using h2
            have hk0 : 0 < k := by omega
            have hb9 : ((k : Int) == 9) = true := by simp [h9]
            clear h9 hbad
            go_wp2
            go_ret3
            exact ⟨ret3 (by rw [HF.out, HO.out, ← pow_128]; simp) (by omega), rfl⟩
          · have hb9 : ((k : Int) == 9) = false := by simp; omega
            by_cases h0 : 0 < k
            · have hx01 : (x == 0) = false := by
                have h2 : ¬ x = 0 := fun h => hbad (Or.inr ⟨by omega, h⟩)
                simpa using h2
              clear h9 hbad
              go_wp2
              go_ret3
              exact ⟨ret3 (by rw [HF.out, HO.out, ← pow_128]; simp) (by omega), rfl⟩
            · clear h9 hbad
              go_wp2
              go_ret3
              exact ⟨ret3 (by rw [HF.out, HO.out, ← pow_128]; simp) (by omega), rfl⟩
    · have hkl : k = l.length := by omega
      have HV := Lib.hid hv
      clear hv hm1
      go_wp2
      go_ret3
      have h1 := HV.out
      rw [List.drop_eq_nil_of_le (by omega), vint_nil] at h1
      exact ⟨ret3 h1.symm (by omega), rfl⟩

set_option maxHeartbeats 1000000 in
theorem num_any {w : World} {lo hi g : Nat} {s : Rs} (h : Rdr w 95 lo hi g s) (most : Int) :
    Calls Try.prog 28 #[.pointer (some ⟨g, 0, none⟩), .int .u64 most] w fun e w' => e = .returned (.int .u64 (s.num most).1) ∧ Rdr w' 95 lo hi g (s.num most).2 ∧ w.grownBy w' (some g) := by
  obtain ⟨A, c, c0, c1, c2, ⟨f1, f2⟩, hc, hr, ha, hl, hby, he0, he1⟩ := h.cells
  obtain ⟨A', hrun, hrd, _⟩ := hr.slice_l Try.underlying27 info_u8 ha hc
  have hdl : (s.data.drop s.at_).length = s.data.length - s.at_ := List.length_drop
  have hdb : ∀ x ∈ s.data.drop s.at_, 0 ≤ x ∧ x ≤ 255 := fun x hx => hby x (List.mem_of_mem_drop hx)
  obtain ⟨hv0, hv1, hv2, hv3, hv4⟩ := vint_bounds 0 0 (s.data.drop s.at_) (by omega) (by omega) (by omega) hdb
  by_cases herr : s.err = 0
  · have hb : (s.err != 0) = false := by simpa using herr
    have HC : ∀ (n : Nat), Calls Try.prog 44 #[.slice A' (s.data.length - s.at_) (c - s.at_)] (w.drewN n) fun e w' =>
        e = .returned (.tuple #[.int .u64 (vint 0 0 (s.data.drop s.at_)).1, .int .i64 (vint 0 0 (s.data.drop s.at_)).2.1, .int .i64 (vint 0 0 (s.data.drop s.at_)).2.2]) ∧ ∃ m, w' = w.drewN m := fun n => by
      rw [← hdl]
      exact quiet_left (varint_any _ _ _ hdb (by omega) _ hi (hrd.drewN n))
    have HC' := Lib.hid HC
    have HN := Lib.hid (show s.num most = (if s.err ≠ 0 then (0, s) else
      if (vint 0 0 (s.data.drop s.at_)).2.2 ≠ 0 then (0, { s with err := (vint 0 0 (s.data.drop s.at_)).2.2 })
      else if most < (vint 0 0 (s.data.drop s.at_)).1 then (0, { s with err := 4 })
      else ((vint 0 0 (s.data.drop s.at_)).1, { s with at_ := s.at_ + (vint 0 0 (s.data.drop s.at_)).2.1 })) from rfl)
    rw [hdl] at hv2
    clear HC hdl hdb hr
    generalize vint 0 0 (s.data.drop s.at_) = r at *
    obtain ⟨x, n, e⟩ := r
    simp only at *
    have hn2 : s.at_ + n ≤ s.data.length := by omega
    clear hv2
    by_cases he : e = 0
    · have hbe : (e == 0) = true := by simpa using he
      have hbn : (e != 0) = false := by simpa using he
      by_cases hx : most < x
      · have HF := Lib.hid (show s.num most = (0, { s with err := 4 }) by rw [HN.out]; simp [herr, he, hx])
        clear he herr
        go_enter Try.func28, Try.ntmps28
        go_wp2
        go_quiet ((go_at_call 44; exact HC'.out _))
        go_wp2
        go_ret
        rw [HF.out]
        exact ⟨rfl, (h.drewN _).setErr 4 (by omega) (by omega), only_setCell (only_drewN (only_refl _ _) _) (.inl rfl) _⟩
      · have HF := Lib.hid (show s.num most = (x, { s with at_ := s.at_ + n }) by rw [HN.out]; simp [herr, he, hx])
        clear he herr
        go_enter Try.func28, Try.ntmps28
        go_wp2
        go_quiet ((go_at_call 44; exact HC'.out _))
        go_wp2
        go_ret
        rw [HF.out]
        exact ⟨rfl, (h.drewN _).setAt (s.at_ + n) hn2, only_setCell (only_drewN (only_refl _ _) _) (.inl rfl) _⟩
    · have hbe : (e == 0) = false := by simpa using he
      have hbn : (e != 0) = true := by simpa using he
      have HF := Lib.hid (show s.num most = (0, { s with err := e }) by rw [HN.out]; simp [herr, he])
      clear he herr
      go_enter Try.func28, Try.ntmps28
      go_wp2
      go_quiet ((go_at_call 44; exact HC'.out _))
      go_wp2
      go_ret
      rw [HF.out]
      exact ⟨rfl, (h.drewN _).setErr e (by omega) (by omega), only_setCell (only_drewN (only_refl _ _) _) (.inl rfl) _⟩
  · have hb : (s.err != 0) = true := by simpa using herr
    have HF := Lib.hid (show s.num most = (0, s) by simp [Rs.num, herr])
    go_enter Try.func28, Try.ntmps28
    go_wp2
    go_ret
    rw [HF.out]
    exact ⟨rfl, h, only_refl _ _⟩
end Go.Proofs.Ytaimjlnhdobgeaa
