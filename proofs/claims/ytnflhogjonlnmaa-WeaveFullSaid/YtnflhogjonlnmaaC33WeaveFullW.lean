/- WeaveFull: the walk. -/
import Derived.Test.YtnflhogjonlnmaaWvKnown
import Derived.Test.YtnflhogjonlnmaaTapeN
set_option linter.unusedSimpArgs false
set_option linter.unusedVariables false
namespace Go.Proofs.Ytnflhogjonlnmaa.weaveFull
open Go.RowKit

def fp (st i : Nat) : Pk := ⟨(st : Int), (i : Int), 0, false, false, []⟩
structure FullI (st i : Nat) (s : Wv) : Prop where
  len : s.qs.length = 4
  open_ : (quAt s.qs st).ended = false
  cnt : (quAt s.qs st).wait.length = min i 256
  last : (quAt s.qs st).last ≤ (i : Int)
theorem full_zero {st : Nat} (h : st < 4) : FullI st 0 ⟨0, List.replicate 4 ⟨[], 0, false⟩, 0, 0⟩ := by
  have hq : quAt (List.replicate 4 (⟨[], 0, false⟩ : Qu)) st = ⟨[], 0, false⟩ := by rw [quAt_get (by simp; exact h), List.getElem_replicate]
  exact ⟨by simp, by rw [hq], by rw [hq]; rfl, by rw [hq]; simp⟩
theorem fp_lay {st i : Nat} (h : st < 4) (hi : i ≤ 1000) : layE (fp st i) = 0 := by
  rw [layE, if_pos (by simp [Pk.head, fp]; omega), if_neg (by simp [fp])]
theorem fp_wf {st i : Nat} (h : st < 4) (hi : i ≤ 1000) : (fp st i).wf := ⟨by simp [fp, i64B]; omega, by simp [fp, i64B]; omega, by simp [fp, i64B], by simp [fp], fun x hx => by simp [fp] at hx⟩
theorem full_E {st i : Nat} {s : Wv} (hs : st < 4) (hi : i ≤ 1000) (h : FullI st i s) : s.putE (fp st i) = if i < 256 then 0 else 9 := by
  have hc := h.cnt
  have hl := h.last
  have he : (fp st i).st.toNat = st := by simp [fp]
  have ha : (fp st i).at_ = (i : Int) := rfl
  have hst : (fp st i).st = (st : Int) := rfl
  rw [Wv.putE, if_neg (by rw [fp_lay hs hi]; simp), he, ha, hst, h.len, if_neg (by omega), h.open_, if_neg (by simp), if_neg (by omega), hc]
  by_cases h2 : i < 256
  · rw [if_neg (by omega), if_pos h2]
  · rw [if_pos (by omega), if_neg h2]
theorem full_put {st i : Nat} {s : Wv} (hs : st < 4) (hi : i ≤ 1000) (h : FullI st i s) : FullI st (i + 1) (s.put (fp st i)) := by
  have hE := full_E hs hi h
  have he : (fp st i).st.toNat = st := by simp [fp]
  have hl := h.len
  have hc := h.cnt
  have hla := h.last
  rw [Wv.put]
  by_cases h2 : i < 256
  · rw [if_pos (by rw [hE, if_pos h2]), he]
    have hg : ∀ q : Qu, quAt (s.qs.set st q) st = q := fun q => by
      rw [quAt_get (by rw [List.length_set]; omega), List.getElem_set_self]
    refine ⟨by rw [List.length_set]; exact hl, by rw [hg]; exact h.open_, ?_, ?_⟩
    · rw [hg]; simp only [List.length_append, List.length_singleton]; omega
    · rw [hg]; simp only [fp]; omega
  · rw [if_neg (by rw [hE, if_neg h2]; simp)]
    exact ⟨hl, h.open_, by omega, by omega⟩
theorem full_waits {st i : Nat} {s : Wv} (hs : st < 4) (h : FullI st i s) : s.waits (st : Int) = ((min i 256 : Nat) : Int) := by
  have hl := h.len
  rw [Wv.waits, if_pos (by simp [inB]; omega), Int.toNat_natCast, h.cnt]

set_option maxHeartbeats 8000000 in
set_option maxRecDepth 100000 in
theorem walk (w : World) (n : Int) (n0 : -9223372036854775808 ≤ n) (n1 : n ≤ 9223372036854775807) (str : Int) (s0 : -9223372036854775808 ≤ str) (s1 : str ≤ 9223372036854775807) :
    Calls Try.prog 4 #[.int .i64 n, .int .i64 str] w fun e w' => e = .returned (.bool true) ∧ Below w.heap.size w w' := by
  have HK := Lib.hid (fun W => known_any W)
  have HW := Lib.hid (fun W => within_any str 0 3 s0 s1 (by omega) (by omega) (by omega) W)
  have hwb := withinV_in (n := str) (lo := 0) (hi := 3) (by omega)
  have HN := Lib.hid (wvn_new (N := 4) (n := 4) (most := 0) rfl (by omega) (by omega) (by omega) (by omega) (w0 := w) (X := fun _ => False) w (Nat.le_refl _) (fun b hb => hb.elim))
  obtain ⟨st, hst⟩ := Int.eq_ofNat_of_zero_le hwb.1
  rw [hst] at HW hwb
  clear hst
  have hs4 : st < 4 := by omega
  have HF0 := Lib.hid (full_zero hs4)
  go_enter Try.func4, Try.ntmps4
  go_wp2_with (first
    | (go_at_call 16; (with_reducible refine (HW.out _).mono ?_); rintro e w1 ⟨rfl, rfl⟩)
    | (go_at_call 17; (with_reducible refine HN.out.mono ?_); rintro e w1 ⟨rfl, hw1, hb1⟩))
  go_loopw [8] (fun iv wr => ∃ (i : Nat) (s : Wv), i ≤ 300 ∧ (i : Int) ≤ max n 0 ∧ iv = .int .i64 i ∧ FullI st i s ∧ WvN w (fun _ => False) wr (w.heap.size + 1) s ∧ Mod (fun b => w.heap.size ≤ b) w wr) (fun iv _ => 300 - (intOf iv).toNat)
  case atStart => exact ⟨0, _, by omega, by omega, rfl, HF0.out, hw1, Mod.of_fresh hb1⟩
  case round =>
    obtain ⟨i, s, hi, hin, rfl, hI, hN, hm⟩ := hrel
    by_cases hc : i < 300 ∧ (i : Int) < n
    · obtain ⟨hc1, hc2⟩ := hc
      have HI := Lib.hid (full_put hs4 (by omega) hI)
      have hE := full_E hs4 (by omega) hI
      have HP := fun W (h : WvN w (fun _ => False) W (w.heap.size + 1) s) => wvn_put h (fp st i) none 0 (fp_wf hs4 (by omega)) (by exact RdI.nil_)
      rw [hE] at HP
      simp only [fp, Pk.val, List.length_nil] at HP
      simp only [fp] at HI
      clear hE hI
      by_cases h2 : i < 256
      · rw [if_pos h2] at HP
        replace HP := Lib.hid HP
        go_wp2_with (first
          | (go_at_call 18; (with_reducible refine (HP.out _ hN).mono ?_); rintro e w2 ⟨rfl, hw2, hm2⟩))
        go_roundw
        case rel => exact ⟨i + 1, _, by omega, by omega, by go_num, HI.out, hw2, hm.then_ (hm2.mono (fun b hb _ => hb.1))⟩
        case measure => simp [intOf]; omega
      · rw [if_neg h2] at HP
        replace HP := Lib.hid HP
        have h2' : decide (i < 256) = false := decide_eq_false h2
        have h2'' : decide ((i : Int) < 256) = false := decide_eq_false (by omega)
        go_wp2_with (first
          | (go_at_call 18; (with_reducible refine (HP.out _ hN).mono ?_); rintro e w2 ⟨rfl, hw2, hm2⟩))
        go_roundw
        case rel => exact ⟨i + 1, _, by omega, by omega, by go_num, HI.out, hw2, hm.then_ (hm2.mono (fun b hb _ => hb.1))⟩
        case measure => simp [intOf]; omega
    · have hWt : Calls Try.prog 19 #[.pointer (some ⟨w.heap.size + 1, 0, none⟩), .int .i64 (st : Int)] wr fun e w' => e = .returned (.int .i64 (max (min n 256) 0)) ∧ wr = w' := by
        have h1 := wvn_waits hN (st : Int)
        rw [full_waits hs4 hI] at h1
        rwa [show ((min i 256 : Nat) : Int) = max (min n 256) 0 by omega] at h1
      have HWt := Lib.hid hWt
      have hbf := hm.below (Nat.le_refl _) (fun b hb => hb)
      clear hWt hI
      have hend : (if (if n < 256 then n else 256) < 0 then (0 : Int) else (if n < 256 then n else 256)) = max (min n 256) 0 := by split <;> split <;> omega
      generalize max (min n 256) 0 = M at *
      by_cases hi3 : i < 300
      · have hni : decide ((i : Int) < n) = false := decide_eq_false (fun h => hc ⟨hi3, h⟩)
        have hi3' : (i : Int) < 300 := by omega
        clear hc
        by_cases hn1 : n < 0
        · have hM : M = 0 := by rw [← hend, if_pos (show n < 256 by omega), if_pos hn1]
          subst hM
          clear hend
          go_wp2_with (first
            | (go_at_call 19; (with_reducible refine HWt.out.mono ?_); rintro e w2 ⟨rfl, rfl⟩)
            | (go_at_call 15; (with_reducible refine (HK.out _).mono ?_); rintro e w3 ⟨rfl, hb3⟩))
          go_ret
          exact ⟨rfl, below_then hbf hb3⟩
        · by_cases hn2 : n < 256
          · have hM : M = n := by rw [← hend, if_pos hn2, if_neg hn1]
            subst hM
            have hn1' : 0 ≤ M := by omega
            clear hend
            go_wp2_with (first
              | (go_at_call 19; (with_reducible refine HWt.out.mono ?_); rintro e w2 ⟨rfl, rfl⟩)
              | (go_at_call 15; (with_reducible refine (HK.out _).mono ?_); rintro e w3 ⟨rfl, hb3⟩))
            go_ret
            exact ⟨rfl, below_then hbf hb3⟩
          · have hM : M = 256 := by rw [← hend, if_neg hn2, if_neg (by omega)]
            subst hM
            clear hend
            by_cases hn3 : n = 256
            · subst hn3
              clear hn1 hn2
              go_wp2_with (first
                | (go_at_call 19; (with_reducible refine HWt.out.mono ?_); rintro e w2 ⟨rfl, rfl⟩)
                | (go_at_call 15; (with_reducible refine (HK.out _).mono ?_); rintro e w3 ⟨rfl, hb3⟩))
              go_ret
              exact ⟨rfl, below_then hbf hb3⟩
            · have hn2' : 256 < n := by omega
              clear hn3
              go_wp2_with (first
                | (go_at_call 19; (with_reducible refine HWt.out.mono ?_); rintro e w2 ⟨rfl, rfl⟩)
                | (go_at_call 15; (with_reducible refine (HK.out _).mono ?_); rintro e w3 ⟨rfl, hb3⟩))
              go_ret
              exact ⟨rfl, below_then hbf hb3⟩
      · have hi3' : decide ((i : Int) < 300) = false := decide_eq_false (by omega)
        have hn2 : ¬ n < 256 := by omega
        have hM : M = 256 := by rw [← hend, if_neg hn2, if_neg (by omega)]
        subst hM
        have hn2' : 256 ≤ n := by omega
        clear hend hc
        go_wp2_with (first
          | (go_at_call 19; (with_reducible refine HWt.out.mono ?_); rintro e w2 ⟨rfl, rfl⟩)
          | (go_at_call 15; (with_reducible refine (HK.out _).mono ?_); rintro e w3 ⟨rfl, hb3⟩))
        go_ret
        exact ⟨rfl, below_then hbf hb3⟩
end Go.Proofs.Ytnflhogjonlnmaa.weaveFull
