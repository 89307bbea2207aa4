/- The reference's find, PalMay. -/
import Derived.Test.YtbbflddhbamjbaaPlL
import Derived.Test.YtbbflddhbamjbaaPicRef
import Derived.Deep.DeepCutAuto
set_option linter.unusedSimpArgs false
set_option linter.unusedVariables false
namespace Go.Proofs.Ytbbflddhbamjbaa
open Go.RowKit

/-- the place of a colour; -1: there is none -/
def findI (l : List (List Int)) (c : List Int) : Int := if c ∈ l then (l.idxOf c : Int) else -1
theorem findI_at {l : List (List Int)} {c : List Int} {j : Nat} (hj : j < l.length) (h : l.getD j [] = c) (hn : c ∉ l.take j) : findI l c = j := by
  have hm : c ∈ l := by rw [← h, getDL hj]; exact List.getElem_mem hj
  have hi : l.idxOf c = j := by
    have h1 : l = l.take j ++ l.drop j := (List.take_append_drop j l).symm
    have e : List.idxOf c (l.drop j) = 0 := by
      rw [List.drop_eq_getElem_cons hj, ← getDL hj, h, List.idxOf_cons]
      simp
    rw [h1, List.idxOf_append, if_neg hn, e, List.length_take]
    omega
  rw [findI, if_pos hm, hi]
theorem findI_no {l : List (List Int)} {c : List Int} (h : c ∉ l) : findI l c = -1 := by rw [findI, if_neg h]
theorem findI_neg {l : List (List Int)} {c : List Int} : 0 ≤ findI l c ↔ c ∈ l := by
  unfold findI; split <;> simp_all
theorem not_take_succ {l : List (List Int)} {c : List Int} {j : Nat} (hj : j < l.length) (h : c ∉ l.take j) (hx : ¬ l.getD j [] = c) : c ∉ l.take (j + 1) := by
  rw [List.take_succ_eq_append_getElem hj, List.mem_append, List.mem_singleton, ← getDL hj]
  rintro (h1 | h1)
  · exact h h1
  · exact hx h1.symm

set_option maxHeartbeats 2000000 in
theorem find_any {w : World} {B : Nat} {A A2 : Option Addr} {cc c2 : Nat} {l : List (List Int)} {c : List Int} (hr : RdLL w B .i64 A l) (hr2 : RdI w B .i64 A2 c) (h63 : Len63 l) :
    Calls Try.prog 31 #[.slice A l.length cc, .slice A2 c.length c2] w fun e w' => e = .returned (.int .i64 (findI l c)) ∧ ∃ n, w' = w.drewN n := by
  have HAt := Lib.hid (fun j (hj : j < l.length) (h : l.getD j [] = c) (hn : c ∉ l.take j) => findI_at hj h hn)
  have HNo := Lib.hid (fun (h : c ∉ l) => findI_no h)
  have HSt := Lib.hid (fun j (hj : j < l.length) (h : c ∉ l.take j) (hx : ¬ l.getD j [] = c) => not_take_succ hj h hx)
  have HL := Lib.hid h63.2
  have h1 := h63.1
  clear h63
  generalize findI l c = F at *
  go_enter Try.func31, Try.ntmps31
  go_wp2
  go_loopw [5] (fun i wr => ∃ (j n : Nat), j ≤ l.length ∧ i = .int .i64 j ∧ wr = w.drewN n ∧ c ∉ l.take j) (fun i _ => l.length - (intOf i).toNat)
  case atStart => exact ⟨0, 0, Nat.zero_le _, rfl, rfl, by simp⟩
  case round =>
    obtain ⟨j, n, hj, rfl, rfl, hno⟩ := hrel
    have HN := Lib.hid hno
    clear hno
    by_cases hlt : j < l.length
    · obtain ⟨ad, Aj, cj, rfl, _, k0, _, hrj⟩ := hr.at_ hlt
      have HI := ints_any (c := cj) (c2 := c2) (hrj.drewN n) (hr2.drewN n) (HL.out _ (getDD_mem hlt))
      have HAj := Lib.hid (HAt.out j hlt)
      have HSj := Lib.hid (HSt.out j hlt HN.out)
      by_cases hx : l.getD j [] = c
      · rw [decide_eq_true hx] at HI
        have HF := Lib.hid (HAj.out hx HN.out)
        replace HI := Lib.hid HI
        clear hx HAj HSj
        generalize l.getD j [] = r at *
        go_wp2_with (first
          | (go_at_call 26; (with_reducible refine HI.out.mono ?_); rintro e w1 ⟨rfl, m, rfl⟩))
        go_ret
        exact ⟨by rw [HF.out]; rfl, _, rfl⟩
      · rw [decide_eq_false hx] at HI
        have HF := Lib.hid (HSj.out hx)
        replace HI := Lib.hid HI
        clear hx HAj HSj
        generalize l.getD j [] = r at *
        go_wp2_with (first
          | (go_at_call 26; (with_reducible refine HI.out.mono ?_); rintro e w1 ⟨rfl, m, rfl⟩))
        go_roundw
        case rel => exact ⟨j + 1, _, by omega, by go_num, rfl, HF.out⟩
        case measure => simp [intOf]; omega
    · have hjl : j = l.length := by omega
      subst hjl
      have HF := Lib.hid (HNo.out (by have := HN.out; rwa [List.take_length] at this))
      go_wp2
      go_ret
      exact ⟨by rw [HF.out]; rfl, _, rfl⟩

theorem rmay_head {P : Pal} {A : Option Addr} {c : Nat} {w : World} (h : headB P = false) :
    Calls Try.prog 28 #[palV P A c] w fun e w' => e = .returned (.bool false) ∧ Below w.heap.size w w' := by
  obtain ⟨d, n, l⟩ := P
  simp only [headB, decide_eq_false_iff_not] at h
  have HD := fun W => depth_any d W
  unfold palV
  simp only
  by_cases hd : 1 ≤ d ∧ d ≤ 16
  · rw [decide_eq_true hd.1, decide_eq_true hd.2] at HD
    replace HD := Lib.hid HD
    have hcase : n < 1 ∨ (¬ n < 1 ∧ 4 < n) ∨ (¬ n < 1 ∧ ¬ 4 < n ∧ (l.length : Int) < 1) ∨ (¬ n < 1 ∧ ¬ 4 < n ∧ ¬ (l.length : Int) < 1 ∧ 256 < (l.length : Int)) := by omega
    clear h
    rcases hcase with h3 | ⟨h3, h4⟩ | ⟨h3, h4, h5⟩ | ⟨h3, h4, h5, h6⟩
    · go_enter Try.func28, Try.ntmps28
      go_wp2_with (first | (go_at_call 55; (with_reducible refine (HD.out _).mono ?_); rintro e w1 ⟨rfl, rfl⟩))
      go_ret
      exact ⟨rfl, below_alloc (Below.refl _ _) _⟩
    · go_enter Try.func28, Try.ntmps28
      go_wp2_with (first | (go_at_call 55; (with_reducible refine (HD.out _).mono ?_); rintro e w1 ⟨rfl, rfl⟩))
      go_ret
      exact ⟨rfl, below_alloc (Below.refl _ _) _⟩
    · have q5 : decide ((l.length : Int) < 1) = true := decide_eq_true h5
      go_enter Try.func28, Try.ntmps28
      go_wp2_with (first | (go_at_call 55; (with_reducible refine (HD.out _).mono ?_); rintro e w1 ⟨rfl, rfl⟩))
      go_ret
      exact ⟨rfl, below_alloc (Below.refl _ _) _⟩
    · have q5 : decide ((l.length : Int) < 1) = false := decide_eq_false h5
      have q6 : decide (256 < (l.length : Int)) = true := decide_eq_true h6
      go_enter Try.func28, Try.ntmps28
      go_wp2_with (first | (go_at_call 55; (with_reducible refine (HD.out _).mono ?_); rintro e w1 ⟨rfl, rfl⟩))
      go_ret
      exact ⟨rfl, below_alloc (Below.refl _ _) _⟩
  · rw [show (decide (1 ≤ d) && decide (d ≤ 16)) = false by rw [Bool.and_eq_false_iff, decide_eq_false_iff_not, decide_eq_false_iff_not]; omega] at HD
    replace HD := Lib.hid HD
    clear h
    go_enter Try.func28, Try.ntmps28
    go_wp2_with (first | (go_at_call 55; (with_reducible refine (HD.out _).mono ?_); rintro e w1 ⟨rfl, rfl⟩))
    go_ret
    exact ⟨rfl, below_alloc (Below.refl _ _) _⟩

theorem RdLL.take {w : World} {B : Nat} {k : IntKind} {A : Option Addr} {ls : List (List Int)} (h : RdLL w B k A ls) (n : Nat) : RdLL w B k A (ls.take n) := fun j hj => by
  rw [List.length_take] at hj
  have e : (ls.take n).getD j [] = ls.getD j [] := by simp [List.getD_eq_getElem?_getD, List.getElem?_take, show j < n by omega]
  rw [e]
  exact h j (by omega)
theorem len63_take {ls : List (List Int)} (h : Len63 ls) (n : Nat) : Len63 (ls.take n) := ⟨by have := h.1; rw [List.length_take]; omega, fun l hl => h.2 l (List.mem_of_mem_take hl)⟩

set_option maxHeartbeats 8000000 in
set_option maxRecDepth 100000 in
theorem rmay_any {P : Pal} {A : Option Addr} {c : Nat} {w : World} {B : Nat} (hr : RdLL w B .i64 A P.c) (hB : B ≤ w.heap.size) (hc : P.c.length ≤ c) (h63 : Len63 P.c) :
    Calls Try.prog 28 #[palV P A c] w fun e w' => e = .returned (.bool (palB P)) ∧ Below w.heap.size w w' := by
  cases hh : headB P with
  | false =>
    have : palB P = false := by rw [palB, hh, Bool.false_and]
    rw [this]
    exact rmay_head hh
  | true =>
    have hb := hh
    simp only [headB, decide_eq_true_eq] at hb
    obtain ⟨b1, b2, b3, b4, b5, b6⟩ := hb
    have HBad := Lib.hid (fun i (hi : i < P.c.length) (h : rowOk P i = false) => palB_bad hi h)
    have HGood := Lib.hid (fun h => palB_ok hh h)
    have HRo := Lib.hid (show ∀ i, rowOk P i = (decide (((P.c.getD i []).length : Int) = P.n) && (P.c.getD i []).all (okV P.d) && decide (P.c.getD i [] ∉ P.c.take i)) from fun _ => rfl)
    have HD := fun W => depth_any P.d W
    rw [decide_eq_true b1, decide_eq_true b2] at HD
    replace HD := Lib.hid HD
    obtain ⟨d, n, l⟩ := P
    simp only at *
    obtain ⟨dk, rfl⟩ := Int.eq_ofNat_of_zero_le (show 0 ≤ d by omega)
    generalize rowOk ⟨(dk : Int), n, l⟩ = RO at *
    generalize palB ⟨(dk : Int), n, l⟩ = PB at *
    have q5 : decide ((l.length : Int) < 1) = false := decide_eq_false (by omega)
    have q6 : decide (256 < (l.length : Int)) = false := decide_eq_false (by omega)
    have HFi := Lib.hid (fun j (hj : j < l.length) W (hb : Below w.heap.size w W) A2 c2 (hr2 : RdI W B .i64 A2 (l.getD j [])) => find_any (cc := c) (c2 := c2) ((hr.below hb hB).take j) hr2 (len63_take h63 j))
    have H63 := Lib.hid h63.2
    unfold palV
    simp only
    go_enter Try.func28, Try.ntmps28
    go_upto_region 3 with (first | (go_at_call 55; (with_reducible refine (HD.out _).mono ?_); rintro e w1 ⟨rfl, rfl⟩))
    have kx := Blk.new w 25 #[.int .i64 (dk : Int), .int .i64 n, .slice A l.length c]
    have bx := below_alloc (Below.refl w.heap.size w) (.cells #[.int .i64 (dk : Int), .int .i64 n, .slice A l.length c] 25)
    generalize w.alloc (.cells #[.int .i64 (dk : Int), .int .i64 n, .slice A l.length c] 25) = wx at *
    go_wp2
    go_loopw [3] (fun iv wr => ∃ j : Nat, j ≤ l.length ∧ iv = .int .i64 j ∧ (∀ i, i < j → RO i = true) ∧ Blk wr w.heap.size 25 #[.int .i64 (dk : Int), .int .i64 n, .slice A l.length c] ∧ Below w.heap.size w wr) (fun iv _ => l.length - (intOf iv).toNat)
    case atStart => exact ⟨0, Nat.zero_le _, rfl, fun i hi => absurd hi (by omega), kx, bx⟩
    case round =>
      obtain ⟨j, hj, rfl, hall, hkr, hbr⟩ := hrel
      have HA := Lib.hid hall
      have x0 := hkr.cell 0
      have x1 := hkr.cell 1
      have x2 := hkr.cell 2
      clear hall
      by_cases hlt : j < l.length
      · obtain ⟨ad, Aj, cj, rfl, hadB, hcell, hcj, hrj⟩ := (hr.below hbr hB) j hlt
        have hro := HRo.out j
        have HBj := Lib.hid (HBad.out j hlt)
        have H6 := H63.out _ (getDD_mem hlt)
        have HWi := fun m => rwithin_any (c := cj) (hrj.drewN m) H6 dk (by omega) (by omega)
        have HFj := fun m => quiet_more (HFi.out j hlt (wr.drewN m) (below_drewN hbr m) Aj cj (hrj.drewN m))
        rw [List.length_take, Nat.min_eq_left hj] at HFj
        by_cases hlen : (((l.getD j []).length : Nat) : Int) = n
        · have t1 : (((l.getD j []).length : Int) != n) = false := by rw [hlen]; simp
          rw [decide_eq_true hlen, Bool.true_and] at hro
          cases hal : (l.getD j []).all (okV (dk : Int)) with
          | false =>
            rw [hal] at hro
            have HF := Lib.hid (HBj.out (by rw [hro]; rfl))
            simp only [hal] at HWi
            replace HWi := Lib.hid HWi
            clear hlen hro hal HFj
            generalize l.getD j [] = r at *
            go_upto_region 6 with fail
            go_quiet (first
              | (go_at_call 56; with_reducible exact quiet_left (HWi.out _)))
            go_wp2
            go_ret
            exact ⟨ret_bool HF.out.symm, below_drewN hbr _⟩
          | true =>
            rw [hal] at hro
            simp only [hal] at HWi
            replace HWi := Lib.hid HWi
            have hne := findI_neg (l := l.take j) (c := l.getD j [])
            have hjc : j ≤ c := by omega
            by_cases hin : l.getD j [] ∈ l.take j
            · have hp : decide (0 ≤ findI (l.take j) (l.getD j [])) = true := decide_eq_true (hne.2 hin)
              have HF := Lib.hid (HBj.out (by rw [hro, Bool.true_and]; exact decide_eq_false (fun h => h hin)))
              replace HFj := Lib.hid HFj
              clear hlen hro hal hin hne
              generalize findI (l.take j) (l.getD j []) = F at *
              generalize l.getD j [] = r at *
              go_upto_region 6 with fail
              go_quiet (first
                | (go_at_call 56; with_reducible exact quiet_left (HWi.out _))
                | (go_at_call 31; with_reducible exact HFj.out _))
              go_wp2
              go_ret
              exact ⟨ret_bool HF.out.symm, below_drewN hbr _⟩
            · have hp : decide (0 ≤ findI (l.take j) (l.getD j [])) = false := decide_eq_false (fun h => hin (hne.1 h))
              have HT := Lib.hid (show RO j = true by rw [hro, Bool.true_and]; exact decide_eq_true hin)
              replace HFj := Lib.hid HFj
              clear hlen hro hal hin hne
              generalize findI (l.take j) (l.getD j []) = F at *
              generalize l.getD j [] = r at *
              go_upto_region 6 with fail
              go_quiet (first
                | (go_at_call 56; with_reducible exact quiet_left (HWi.out _))
                | (go_at_call 31; with_reducible exact HFj.out _))
              go_wp2
              go_roundw
              case rel =>
                refine ⟨j + 1, by omega, by go_num, fun i hi => ?_, hkr.drewN _, below_drewN hbr _⟩
                rcases Nat.lt_succ_iff_lt_or_eq.1 hi with h | h
                · exact HA.out i h
                · rw [h]; exact HT.out
              case measure => simp [intOf]; omega
        · have t1 : (((l.getD j []).length : Int) != n) = true := by simpa using hlen
          rw [decide_eq_false hlen, Bool.false_and, Bool.false_and] at hro
          have HF := Lib.hid (HBj.out hro)
          clear hlen hro HWi HFj
          generalize l.getD j [] = r at *
          go_upto_region 6 with fail
          go_quiet (fail)
          go_wp2
          go_ret
          exact ⟨ret_bool HF.out.symm, below_drewN hbr _⟩
      · have hjl : j = l.length := by omega
        subst hjl
        have HF := Lib.hid (HGood.out HA.out)
        go_wp2
        go_ret
        exact ⟨ret_bool HF.out.symm, hbr⟩
end Go.Proofs.Ytbbflddhbamjbaa
