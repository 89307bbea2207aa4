/- What the reference's reader computes: the same as octet's. -/
import Derived.Test.YtpohinbhmlcfkaaOctKnown
import Derived.Test.YtpohinbhmlcfkaaOctLaws
import Derived.Deep.RegionHeld3
namespace Go.Proofs.Ytpohinbhmlcfkaa
open Go.RowKit

theorem Rdr.hi_le {w : World} {T lo hi g : Nat} {s : Rs} (h : Rdr w T lo hi g s) : hi ≤ w.heap.size := by
  obtain ⟨A, c, _, _, _, _, _, h1, _⟩ := h
  exact h1
theorem Rdr.frz {w : World} {T lo hi g : Nat} {s : Rs} (h : Rdr w T lo hi g s) : w.frozen? ⟨g, 1, none⟩ = false ∧ w.frozen? ⟨g, 2, none⟩ = false := by
  obtain ⟨A, c, hb, _⟩ := h
  exact ⟨hb.frozen 1, hb.frozen 2⟩
theorem newref_any (A : Option Addr) (c : Nat) (l : List Int) (hl : ∀ x ∈ l, 0 ≤ x ∧ x ≤ 255) (hn : l.length ≤ 1000000000) (hc : l.length ≤ c) (w : World) (B : Nat) (hB : B ≤ w.heap.size) (hr : RdI w B .u8 A l) :
    Calls Try.prog 23 #[.slice A l.length c] w fun e w' => ∃ g, e = .returned (.pointer (some ⟨g, 0, none⟩)) ∧ g = w.heap.size ∧ Rdr w' 52 0 B g ⟨l, 0, 0⟩ ∧ Below w.heap.size w w' := by
  go_enter Try.func23, Try.ntmps23
  go_wp2
  go_ret
  exact ⟨_, rfl, rfl, ⟨A, c, Blk.new _ _ _, hc, hr.alloc hB _, fun _ _ _ => Nat.zero_le _, .inr hB, by simp; omega, Nat.zero_le _, hn, hl, by simp, by simp⟩, below_alloc (Below.refl _ _) _⟩

theorem leftref_any {w : World} {lo hi g : Nat} {s : Rs} (h : Rdr w 52 lo hi g s) :
    Calls Try.prog 31 #[.pointer (some ⟨g, 0, none⟩)] w fun e w' => e = .returned (.int .i64 ((s.data.length : Int) - (s.at_ : Int))) ∧ ∃ n, w' = w.drewN n := by
  obtain ⟨A, c, c0, c1, c2, hf, hc, hr, ha, hl, hby, he0, he1⟩ := h.cells
  go_enter Try.func31, Try.ntmps31
  go_wp2
  go_quiet (fail)
  go_wp2
  go_ret
  exact ⟨rfl, _, rfl⟩

set_option maxHeartbeats 1000000 in
theorem takeref_any {w : World} {lo hi g : Nat} {s : Rs} (hR : Rdr w 52 lo hi g s) (n : Int) (hn0 : -9223372036854775808 ≤ n) (hn1 : n ≤ 9223372036854775807) :
    Calls Try.prog 29 #[.pointer (some ⟨g, 0, none⟩), .int .i64 n] w fun e w' => ∃ v, e = .returned v ∧ OwnI w' w.heap.size 5 .u8 v (s.take n.toNat).1 ∧
      Rdr w' 52 lo hi g (s.take n.toNat).2 ∧ w.grownBy w' (some g) := by
  obtain ⟨A, c, c0, c1, c2, ⟨f1, f2⟩, hc, hr, ha, hl, hby, he0, he1⟩ := hR.cells
  by_cases herr : s.err = 0
  · have hb : (s.err != 0) = false := by simpa using herr
    have hlen : 0 ≤ (s.data.length : Int) - (s.at_ : Int) := by omega
    by_cases hneg : n < 0
    · have hnt : n.toNat = 0 := by omega
      rw [hnt]
      have HF := Lib.hid (show s.take 0 = ([], { s with at_ := s.at_ + 0 }) by simp [Rs.take, herr])
      obtain ⟨A', hrun, hrd, _⟩ := hr.slice_lh Try.underlying24 info_u8 (Nat.le_refl s.at_) ha hc
      simp only [Nat.sub_self] at hrun hrd
      have hle3 : (s.at_ : Int) ≤ (c : Int) := by omega
      have hw := IntWalk.i64_in (s.at_ : Int) (by omega)
      clear herr
      go_enter Try.func29, Try.ntmps29
      go_wp2_with (first | (go_at_call 31; refine (leftref_any hR).mono ?_; rintro e w' ⟨rfl, nq, rfl⟩))
      go_region_held3 (fun w' => w'.cell? ⟨g, 0, none⟩ = some (.slice A s.data.length c) ∧ w'.cell? ⟨g, 1, none⟩ = some (.int .i64 s.at_)) (first | go_keep)
        ((refine step_append_int _ (by rfl) (.tmp 20) (.tmp 35) _ (by rfl) w w.heap.size w.heap.size 5 .u8 1 Try.underlying24 info_u8 _ [] (by rfl) (by exact OwnI.empty (w.drewN nq) _ _ _ (Nat.le_refl _)) hi A' 0 _ (List.take 0 (List.drop s.at_ s.data)) (by rfl) (by simp) (by exact (hrd.drewN nq).alloc hR.hi_le _) (by simp) (by omega) (by repeat (first | exact Below.refl _ _ | assumption | refine Below.drew ?_ | refine below_drewN ?_ _ | refine below_alloc ?_ _)) (Nat.le_refl _) (by simp) ?_; intro v1 w1 hown1 hbel1 _ _; have h1 := hR.below hbel1; have e1 := h1.frz.1; have d0 : w1.cell? ⟨g, 0, none⟩ = some (.slice A s.data.length c) := (hbel1.cell (p := ⟨g, 0, none⟩) hR.lt).trans c0; have d1 : w1.cell? ⟨g, 1, none⟩ = some (.int .i64 s.at_) := (hbel1.cell (p := ⟨g, 1, none⟩) hR.lt).trans c1))
      clear hw
      go_wp2
      go_ret
      rw [HF.out]
      exact ⟨_, rfl, hown1.far hR.lt _, h1.setAt (s.at_ + 0) ha, only_setCell (only_below hbel1 _) (.inl rfl) _⟩
    · obtain ⟨m, rfl⟩ := Int.eq_ofNat_of_zero_le (show 0 ≤ n by omega)
      clear hneg hn0
      rw [Int.toNat_natCast]
      by_cases hgt : s.data.length - s.at_ < m
      · have HF := Lib.hid (show s.take m = ([], { s with err := 3 }) by simp [Rs.take, herr, hgt])
        have hgt' : (s.data.length : Int) - (s.at_ : Int) < m := by omega
        clear herr hgt
        go_enter Try.func29, Try.ntmps29
        go_wp2_with (first | (go_at_call 31; refine (leftref_any hR).mono ?_; rintro e w' ⟨rfl, nq, rfl⟩))
        go_ret
        rw [HF.out]
        exact ⟨_, rfl, OwnI.nil_ _ _ _ _, (hR.drewN _).setErr 3 (by omega) (by omega), only_setCell (only_drewN (only_refl _ _) _) (.inl rfl) _⟩
      · have HF := Lib.hid (show s.take m = ((s.data.drop s.at_).take m, { s with at_ := s.at_ + m }) by simp [Rs.take, herr, hgt])
        have hle : (m : Int) ≤ (s.data.length : Int) - (s.at_ : Int) := by omega
        have hle2 : s.at_ + m ≤ s.data.length := by omega
        have hle3 : (s.at_ : Int) + (m : Int) ≤ (c : Int) := by omega
        obtain ⟨A', hrun, hrd, _⟩ := hr.slice_lh Try.underlying24 info_u8 (lo := s.at_) (hh := s.at_ + m) (by omega) hle2 hc
        simp only [Nat.add_sub_cancel_left, Int.natCast_add] at hrun hrd
        have hw := IntWalk.i64_in ((s.at_ : Int) + (m : Int)) (by omega)
        clear herr hgt
        go_enter Try.func29, Try.ntmps29
        go_wp2_with (first | (go_at_call 31; refine (leftref_any hR).mono ?_; rintro e w' ⟨rfl, nq, rfl⟩))
        go_region_held3 (fun w' => w'.cell? ⟨g, 0, none⟩ = some (.slice A s.data.length c) ∧ w'.cell? ⟨g, 1, none⟩ = some (.int .i64 s.at_)) (first | go_keep)
          ((refine step_append_int _ (by rfl) (.tmp 20) (.tmp 35) _ (by rfl) w w.heap.size w.heap.size 5 .u8 1 Try.underlying24 info_u8 _ [] (by rfl) (by exact OwnI.empty (w.drewN nq) _ _ _ (Nat.le_refl _)) hi A' m _ (List.take m (List.drop s.at_ s.data)) (by rfl) (by simp; omega) (by exact (hrd.drewN nq).alloc hR.hi_le _) (by simp; omega) (by omega) (by repeat (first | exact Below.refl _ _ | assumption | refine Below.drew ?_ | refine below_drewN ?_ _ | refine below_alloc ?_ _)) (Nat.le_refl _) (by simp) ?_; intro v1 w1 hown1 hbel1 _ _; have h1 := hR.below hbel1; have e1 := h1.frz.1; have d0 : w1.cell? ⟨g, 0, none⟩ = some (.slice A s.data.length c) := (hbel1.cell (p := ⟨g, 0, none⟩) hR.lt).trans c0; have d1 : w1.cell? ⟨g, 1, none⟩ = some (.int .i64 s.at_) := (hbel1.cell (p := ⟨g, 1, none⟩) hR.lt).trans c1))
        clear hw
        go_wp2
        go_ret
        rw [HF.out]
        exact ⟨_, rfl, hown1.far hR.lt _, h1.setAt (s.at_ + m) hle2, only_setCell (only_below hbel1 _) (.inl rfl) _⟩
  · have hb : (s.err != 0) = true := by simpa using herr
    have HF := Lib.hid (show s.take n.toNat = ([], s) by simp [Rs.take, herr])
    go_enter Try.func29, Try.ntmps29
    go_wp2
    all_goals
      go_ret
      rw [HF.out]
      exact ⟨_, rfl, OwnI.nil_ _ _ _ _, hR, only_refl _ _⟩
end Go.Proofs.Ytpohinbhmlcfkaa
