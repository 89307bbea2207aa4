/- octet.Reader: Left, Take; New. -/
import Derived.Test.YtdnkdjaokmibjaaRdr
set_option linter.unusedSimpArgs false
set_option linter.unusedVariables false
namespace Go.Proofs.Ytdnkdjaokmibjaa
open Go.RowKit

theorem left_any {w : World} {lo hi g : Nat} {s : Rs} (h : Rdr w 126 lo hi g s) :
    Calls Try.prog 88 #[.pointer (some ⟨g, 0, none⟩)] w fun e w' => e = .returned (.int .i64 ((s.data.length : Int) - (s.at_ : Int))) ∧ ∃ n, w' = w.drewN n := by
  obtain ⟨A, c, c0, c1, c2, hf, hc, hr, ha, hl, hby, he0, he1⟩ := h.cells
  go_enter Try.func88, Try.ntmps88
  go_wp2
  go_quiet (fail)
  go_wp2
  go_ret
  exact ⟨rfl, _, rfl⟩

set_option maxHeartbeats 1000000 in
set_option maxRecDepth 100000 in
theorem take_any {w : World} {lo hi g : Nat} {s : Rs} (h : Rdr w 126 lo hi g s) (n : Int) (hn0 : -9223372036854775808 ≤ n) (hn1 : n ≤ 9223372036854775807) :
    Calls Try.prog 81 #[.pointer (some ⟨g, 0, none⟩), .int .i64 n] w fun e w' => ∃ v, e = .returned v ∧ OwnI w' w.heap.size 5 .u8 v (s.take n.toNat).1 ∧
      Rdr w' 126 lo hi g (s.take n.toNat).2 ∧ w.grownBy w' (some g) := by
  obtain ⟨A, c, c0, c1, c2, ⟨f1, f2⟩, hc, hr, ha, hl, hby, he0, he1⟩ := h.cells
  by_cases herr : s.err = 0
  · have hb : (s.err != 0) = false := by simpa using herr
    have hlen : 0 ≤ (s.data.length : Int) - (s.at_ : Int) := by omega
    by_cases hneg : n < 0
    · have hnt : n.toNat = 0 := by omega
      rw [hnt]
      have HF := Lib.hid (show s.take 0 = ([], { s with at_ := s.at_ + 0 }) by simp [Rs.take, herr])
      obtain ⟨A', hrun, hrd, _⟩ := hr.slice_lh Try.underlying31 info_u8 (Nat.le_refl s.at_) ha hc
      simp only [Nat.sub_self] at hrun hrd
      have hle3 : (s.at_ : Int) ≤ (c : Int) := by omega
      have hw := IntWalk.i64_in (s.at_ : Int) (by omega)
      clear herr
      go_enter Try.func81, Try.ntmps81
      go_wp2_with (first | (go_at_call 88; refine (left_any h).mono ?_; rintro e w' ⟨rfl, nq, rfl⟩))
      refine wp_still_tail 15 (by kernel_rfl) (by kernel_rfl) ?_
      simp only [List.take_succ_cons, List.take_zero, List.drop_succ_cons, List.drop_zero]
      repeat still_step
      refine wpStill_nil ?_
      clear hw
      go_wp2_with (first
          | (at_builtin; go_must (refine wpList_append_int _ rfl (.const (.slice none 0 0)) (.tmp 34) _ rfl w _ w.heap.size 5 .u8 1 Try.underlying31 info_u8 _ [] rfl (OwnI.nil_ _ _ _ _) hi A' 0 _ _ rfl (by simp) hrd (by simp) (by omega) (by repeat (first | exact Below.refl _ _ | assumption | refine Below.drew ?_ | refine below_drewN ?_ _ | refine below_alloc ?_ _)) (Nat.le_refl _) (Nat.le_refl _) ?_); intro v1 w1 hown1 hbel1; have h1 := h.below hbel1; obtain ⟨_, _, _, d1, _, ⟨e1, _⟩, _⟩ := h1.cells))
      go_ret
      rw [HF.out]
      exact ⟨_, rfl, hown1.far h.lt _, h1.setAt (s.at_ + 0) ha, only_setCell (only_below hbel1 _) (.inl rfl) _⟩
    · obtain ⟨m, rfl⟩ := Int.eq_ofNat_of_zero_le (show 0 ≤ n by omega)
      clear hneg hn0
      rw [Int.toNat_natCast]
      by_cases hgt : s.data.length - s.at_ < m
      · have HF := Lib.hid (show s.take m = ([], { s with err := 3 }) by simp [Rs.take, herr, hgt])
        have hgt' : (s.data.length : Int) - (s.at_ : Int) < m := by omega
        clear herr hgt
        go_enter Try.func81, Try.ntmps81
        go_wp2_with (first | (go_at_call 88; refine (left_any h).mono ?_; rintro e w' ⟨rfl, nq, rfl⟩))
        go_ret
        rw [HF.out]
        exact ⟨_, rfl, OwnI.nil_ _ _ _ _, (h.drewN _).setErr 3 (by omega) (by omega), only_setCell (only_drewN (only_refl _ _) _) (.inl rfl) _⟩
      · have HF := Lib.hid (show s.take m = ((s.data.drop s.at_).take m, { s with at_ := s.at_ + m }) by simp [Rs.take, herr, hgt])
        have hle : (m : Int) ≤ (s.data.length : Int) - (s.at_ : Int) := by omega
        have hle2 : s.at_ + m ≤ s.data.length := by omega
        have hle3 : (s.at_ : Int) + (m : Int) ≤ (c : Int) := by omega
        obtain ⟨A', hrun, hrd, _⟩ := hr.slice_lh Try.underlying31 info_u8 (lo := s.at_) (hh := s.at_ + m) (by omega) hle2 hc
        simp only [Nat.add_sub_cancel_left, Int.natCast_add] at hrun hrd
        have hw := IntWalk.i64_in ((s.at_ : Int) + (m : Int)) (by omega)
        clear herr hgt
        go_enter Try.func81, Try.ntmps81
        go_wp2_with (first | (go_at_call 88; refine (left_any h).mono ?_; rintro e w' ⟨rfl, nq, rfl⟩))
        refine wp_still_tail 15 (by kernel_rfl) (by kernel_rfl) ?_
        simp only [List.take_succ_cons, List.take_zero, List.drop_succ_cons, List.drop_zero]
        repeat still_step
        refine wpStill_nil ?_
        clear hw
        go_wp2_with (first
            | (at_builtin; go_must (refine wpList_append_int _ rfl (.const (.slice none 0 0)) (.tmp 34) _ rfl w _ w.heap.size 5 .u8 1 Try.underlying31 info_u8 _ [] rfl (OwnI.nil_ _ _ _ _) hi A' m _ _ rfl (by simp; omega) hrd (by simp; omega) (by omega) (by repeat (first | exact Below.refl _ _ | assumption | refine Below.drew ?_ | refine below_drewN ?_ _ | refine below_alloc ?_ _)) (Nat.le_refl _) (Nat.le_refl _) ?_); intro v1 w1 hown1 hbel1; have h1 := h.below hbel1; obtain ⟨_, _, _, d1, _, ⟨e1, _⟩, _⟩ := h1.cells))
        go_ret
        rw [HF.out]
        exact ⟨_, rfl, hown1.far h.lt _, h1.setAt (s.at_ + m) hle2, only_setCell (only_below hbel1 _) (.inl rfl) _⟩
  · have hb : (s.err != 0) = true := by simpa using herr
    have HF := Lib.hid (show s.take n.toNat = ([], s) by simp [Rs.take, herr])
    go_enter Try.func81, Try.ntmps81
    go_wp2
    go_ret
    rw [HF.out]
    exact ⟨_, rfl, OwnI.nil_ _ _ _ _, h, only_refl _ _⟩

theorem new_any (A : Option Addr) (c : Nat) (l : List Int) (hl : ∀ x ∈ l, 0 ≤ x ∧ x ≤ 255) (hn : l.length ≤ 1000000000) (w : World) (B : Nat) (hr : RdI w B .u8 A l) :
    Calls Try.prog 61 #[.slice A l.length c] w fun e w' => ∃ g, e = .returned (.pointer (some ⟨g, 0, none⟩)) ∧ w.heap.size ≤ g ∧ Rdr w' 126 w.heap.size g g ⟨l, 0, 0⟩ ∧ Below w.heap.size w w' := by
  go_enter Try.func61, Try.ntmps61
  go_wp2_with (first
    | (at_builtin; go_must (refine wpList_append_int _ rfl (.const (.slice none 0 0)) (.tmp 3) _ rfl w w.heap.size w.heap.size 5 .u8 1 Try.underlying31 info_u8 _ [] rfl (OwnI.nil_ _ _ _ _) B A l.length c l rfl rfl hr (by simp; omega) (by omega) (by repeat (first | exact Below.refl _ _ | assumption | refine Below.drew ?_ | refine below_drewN ?_ _ | refine below_alloc ?_ _)) (Nat.le_refl _) (Nat.le_refl _) ?_); intro v1 w1 hown1 hbel1; simp only [List.nil_append] at hown1; obtain ⟨A1, c1, rfl, hc1, hr1, hA1⟩ := hown1.form))
  go_ret
  exact ⟨_, rfl, hbel1.size, Rdr.made hr1 hc1 (fun ad h => (hA1 ad h).1) hn hl, (by repeat (first | exact Below.refl _ _ | assumption | refine Below.drew ?_ | refine below_drewN ?_ _ | refine below_alloc ?_ _))⟩

theorem new_n (A : Option Addr) (c n : Nat) (l : List Int) (hnl : l.length = n) (hl : ∀ x ∈ l, 0 ≤ x ∧ x ≤ 255) (hn : n ≤ 1000000000) (w : World) (B : Nat) (hr : RdI w B .u8 A l) :
    Calls Try.prog 61 #[.slice A n c] w fun e w' => ∃ g, e = .returned (.pointer (some ⟨g, 0, none⟩)) ∧ w.heap.size ≤ g ∧ Rdr w' 126 w.heap.size g g ⟨l, 0, 0⟩ ∧ Below w.heap.size w w' := by
  subst hnl
  exact new_any A c l hl hn w B hr

end Go.Proofs.Ytdnkdjaokmibjaa
