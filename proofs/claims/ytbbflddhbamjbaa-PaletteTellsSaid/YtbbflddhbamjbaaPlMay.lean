/- palette.May. -/
import Derived.Test.YtbbflddhbamjbaaPlKey
set_option linter.unusedSimpArgs false
set_option linter.unusedVariables false
namespace Go.Proofs.Ytbbflddhbamjbaa
open Go.RowKit

theorem map_cb : Try.prog.underlying 68 = some (.map 70 4) := Try.underlying68
theorem zero_b (W : World) : (zeroValue 4).run Try.prog W = .ok (.bool false) W := Try.zeroValue4 W

theorem may_head {P : Pal} {A : Option Addr} {c : Nat} {w : World} (h : headB P = false) :
    Calls Try.prog 37 #[palV P A c] w fun e w' => e = .returned (.bool false) ∧ Below w.heap.size w w' := by
  obtain ⟨d, n, l⟩ := P
  simp only [headB, decide_eq_false_iff_not] at h
  have hcase : d < 1 ∨ (¬ d < 1 ∧ 16 < d) ∨ (¬ d < 1 ∧ ¬ 16 < d ∧ n < 1) ∨ (¬ d < 1 ∧ ¬ 16 < d ∧ ¬ n < 1 ∧ 4 < n) ∨ (¬ d < 1 ∧ ¬ 16 < d ∧ ¬ n < 1 ∧ ¬ 4 < n ∧ (l.length : Int) < 1) ∨ (¬ d < 1 ∧ ¬ 16 < d ∧ ¬ n < 1 ∧ ¬ 4 < n ∧ ¬ (l.length : Int) < 1 ∧ 256 < (l.length : Int)) := by omega
  clear h
  unfold palV
  simp only
  rcases hcase with h1 | ⟨h1, h2⟩ | ⟨h1, h2, h3⟩ | ⟨h1, h2, h3, h4⟩ | ⟨h1, h2, h3, h4, h5⟩ | ⟨h1, h2, h3, h4, h5, h6⟩
  · go_enter Try.func37, Try.ntmps37
    go_wp2
    go_ret
    exact ⟨rfl, below_alloc (Below.refl _ _) _⟩
  · go_enter Try.func37, Try.ntmps37
    go_wp2
    go_ret
    exact ⟨rfl, below_alloc (Below.refl _ _) _⟩
  · go_enter Try.func37, Try.ntmps37
    go_wp2
    go_ret
    exact ⟨rfl, below_alloc (Below.refl _ _) _⟩
  · go_enter Try.func37, Try.ntmps37
    go_wp2
    go_ret
    exact ⟨rfl, below_alloc (Below.refl _ _) _⟩
  · have q5 : decide ((l.length : Int) < 1) = true := decide_eq_true h5
    go_enter Try.func37, Try.ntmps37
    go_wp2
    go_ret
    exact ⟨rfl, below_alloc (Below.refl _ _) _⟩
  · have q5 : decide ((l.length : Int) < 1) = false := decide_eq_false h5
    have q6 : decide (256 < (l.length : Int)) = true := decide_eq_true h6
    go_enter Try.func37, Try.ntmps37
    go_wp2
    go_ret
    exact ⟨rfl, below_alloc (Below.refl _ _) _⟩

theorem rowOk_len {P : Pal} {i : Nat} (h : ¬ ((P.c.getD i []).length : Int) = P.n) : rowOk P i = false := by
  rw [rowOk, decide_eq_false h, Bool.false_and, Bool.false_and]
theorem rowOk_val {P : Pal} {i : Nat} {x : Int} (hx : x ∈ P.c.getD i []) (h : okV P.d x = false) : rowOk P i = false := by
  have : (P.c.getD i []).all (okV P.d) = false := by rw [List.all_eq_false]; exact ⟨x, hx, by rw [h]; simp⟩
  rw [rowOk, this, Bool.and_false, Bool.false_and]
theorem rowOk_mk {P : Pal} {i : Nat} (h1 : ((P.c.getD i []).length : Int) = P.n) (h2 : ∀ x ∈ P.c.getD i [], okV P.d x = true) : rowOk P i = decide (P.c.getD i [] ∉ P.c.take i) := by
  have : (P.c.getD i []).all (okV P.d) = true := by rw [List.all_eq_true]; exact h2
  rw [rowOk, this, decide_eq_true h1, Bool.true_and, Bool.true_and]

set_option maxHeartbeats 8000000 in
set_option maxRecDepth 100000 in
theorem may_any {P : Pal} {A : Option Addr} {c : Nat} {w : World} {B : Nat} (hr : RdLL w B .i64 A P.c) (hB : B ≤ w.heap.size) :
    Calls Try.prog 37 #[palV P A c] w fun e w' => e = .returned (.bool (palB P)) ∧ Below w.heap.size w w' := by
  cases hh : headB P with
  | false =>
    have : palB P = false := by rw [palB, hh, Bool.false_and]
    rw [this]
    exact may_head hh
  | true =>
    have hb := hh
    simp only [headB, decide_eq_true_eq] at hb
    obtain ⟨b1, b2, b3, b4, b5, b6⟩ := hb
    have HBad := Lib.hid (fun i (hi : i < P.c.length) (h : rowOk P i = false) => palB_bad hi h)
    have HGood := Lib.hid (fun h => palB_ok hh h)
    have HLen := Lib.hid (fun i (h : ¬ ((P.c.getD i []).length : Int) = P.n) => rowOk_len h)
    have HVal := Lib.hid (fun i x (hx : x ∈ P.c.getD i []) (h : okV P.d x = false) => rowOk_val hx h)
    have HMk := Lib.hid (fun i (h1 : ((P.c.getD i []).length : Int) = P.n) (h2 : ∀ x ∈ P.c.getD i [], okV P.d x = true) => rowOk_mk h1 h2)
    have HSeen := Lib.hid (fun i (h1 : ∀ j, j < i → rowOk P j = true) (r : List Int) (h2 : ((r.length : Nat) : Int) = P.n) => seen_is hh h1 h2)
    have HSt := Lib.hid (fun i (h : i < P.c.length) => keysT_succ h)
    have hd := P.d
    obtain ⟨d, n, l⟩ := P
    simp only at *
    obtain ⟨dk, rfl⟩ := Int.eq_ofNat_of_zero_le (show 0 ≤ d by omega)
    obtain ⟨nn, rfl⟩ := Int.eq_ofNat_of_zero_le (show 0 ≤ n by omega)
    have p1 := (pow_16 (k := dk) (by omega) (by omega)).2.1
    have p0 := (pow_16 (k := dk) (by omega) (by omega)).1
    have HOk := Lib.hid (show ∀ x, okV (dk : Int) x = (decide (0 ≤ x ∧ x < 2 ^ dk)) from fun _ => rfl)
    generalize rowOk ⟨(dk : Int), (nn : Int), l⟩ = RO at *
    generalize palB ⟨(dk : Int), (nn : Int), l⟩ = PB at *
    have q5 : decide ((l.length : Int) < 1) = false := decide_eq_false (by omega)
    have q6 : decide (256 < (l.length : Int)) = false := decide_eq_false (by omega)
    have hmk := fun W => run_makeMap (P := Try.prog) 68 W
    unfold palV
    simp only
    go_enter Try.func37, Try.ntmps37
    go_upto_region 6 with fail
    clear hmk
    have kx := (Blk.new w 25 #[.int .i64 (dk : Int), .int .i64 (nn : Int), .slice A l.length c]).alloc (.map #[] 0)
    have bx := below_alloc (below_alloc (Below.refl w.heap.size w) (.cells #[.int .i64 (dk : Int), .int .i64 (nn : Int), .slice A l.length c] 25)) (.map #[] 0)
    have hm := MapC.made (w.alloc (.cells #[.int .i64 (dk : Int), .int .i64 (nn : Int), .slice A l.length c] 25))
    rw [show (w.alloc (.cells #[.int .i64 (dk : Int), .int .i64 (nn : Int), .slice A l.length c] 25)).heap.size = w.heap.size + 1 by simp] at hm
    generalize (w.alloc (.cells #[.int .i64 (dk : Int), .int .i64 (nn : Int), .slice A l.length c] 25)).alloc (.map #[] 0) = wx at *
    have x2 := kx.cell 2
    have k0 := kx.lt
    go_wp2
    go_loopw [40] (fun iv wr => ∃ j : Nat, j ≤ l.length ∧ iv = .int .i64 j ∧ (∀ i, i < j → RO i = true) ∧ MapC wr (w.heap.size + 1) (keysT l j) ∧ Blk wr w.heap.size 25 #[.int .i64 (dk : Int), .int .i64 (nn : Int), .slice A l.length c] ∧ Below w.heap.size w wr) (fun iv _ => l.length - (intOf iv).toNat)
    case atStart => exact ⟨0, Nat.zero_le _, rfl, fun i hi => absurd hi (by omega), hm, kx, bx⟩
    case round =>
      obtain ⟨j, hj, rfl, hall, hmr, hkr, hbr⟩ := hrel
      have HA := Lib.hid hall
      have HM := Lib.hid hmr
      have x0 := hkr.cell 0
      have x1 := hkr.cell 1
      have hkl := hkr.lt
      have hml := hmr.lt
      clear hall hmr
      by_cases hlt : j < l.length
      · obtain ⟨ad, Aj, cj, rfl, hadB, hcell, hcj, hrj⟩ := (hr.below hbr hB) j hlt
        by_cases hlen : (((l.getD j []).length : Nat) : Int) = (nn : Int)
        · have t1 : (((l.getD j []).length : Int) != (nn : Int)) = false := by rw [hlen]; simp
          have hln : (l.getD j []).length = nn := by omega
          have HVj := Lib.hid (fun x hx h => HVal.out j x hx h)
          have HMj := Lib.hid (fun h => HMk.out j hlen h)
          have HSj := Lib.hid (HSeen.out j HA.out (l.getD j []) hlen)
          have HTj := Lib.hid (HSt.out j hlt)
          have HNj := Lib.hid (fun (h : l.getD j [] ∉ l.take j) (p : List Int × Value) (hp : p ∈ keysT l j) (e : p.1 = keyC (l.getD j [])) => by
            have h1 := HSj.out
            rw [decide_eq_false h] at h1
            cases hmg : mget (keysT l j) (keyC (l.getD j [])) with
            | none => exact mget_none.1 hmg p hp e
            | some v =>
              rw [hmg] at h1
              obtain ⟨q, hq, hqe⟩ := Option.map_eq_some_iff.1 hmg
              obtain ⟨y, _, rfl⟩ := List.mem_map.1 (List.mem_of_find?_eq_some hq)
              subst hqe
              cases h1)
          have hlast : ∀ x ∈ l.getD j [], c64 x → True := fun _ _ _ => trivial
          clear hlen
          generalize hrr : l.getD j [] = r at *
          have HRr := Lib.hid hrr
          clear hrr hlast
          subst hln
          go_wp2
          go_loop [51] (fun kv => ∃ k : Nat, k ≤ r.length ∧ kv = .int .i64 k ∧ ∀ x ∈ r.take k, okV (dk : Int) x = true) (fun kv => r.length - (intOf kv).toNat)
          case atStart => exact ⟨0, Nat.zero_le _, rfl, by simp⟩
          case round =>
            obtain ⟨k, hk, rfl, hallk⟩ := hrel
            have HKk := Lib.hid hallk
            clear hallk
            by_cases hkl2 : k < r.length
            · obtain ⟨ad2, rfl, _, hcell2⟩ := hrj.at_ hkl2
              have HS : Hid (r.getD k 0 ∈ r ∧ r.take (k + 1) = r.take k ++ [r.getD k 0]) := by
                have e : r.getD k 0 = r[k] := by simp [List.getD, List.getElem?_eq_getElem hkl2]
                rw [Hid, e]
                exact ⟨List.getElem_mem hkl2, List.take_succ_eq_append_getElem hkl2⟩
              generalize r.getD k 0 = x at *
              by_cases hx0 : x < 0
              · have HF := Lib.hid (HBad.out j hlt (HVj.out x HS.out.1 (by rw [HOk.out]; simp; omega)))
                go_wp2
                go_ret
                exact ⟨ret_bool HF.out.symm, hbr⟩
              · by_cases hx1 : 2 ^ dk ≤ x
                · have HF := Lib.hid (HBad.out j hlt (HVj.out x HS.out.1 (by rw [HOk.out]; simp; omega)))
                  go_wp2
                  go_ret
                  exact ⟨ret_bool HF.out.symm, hbr⟩
                · have HX : Hid (okV (dk : Int) x = true) := by show _ = _; rw [HOk.out]; simp; omega
                  go_wp2
                  go_round
                  case rel =>
                    refine ⟨k + 1, by omega, by go_num, fun y hy => ?_⟩
                    rw [HS.out.2] at hy
                    rcases List.mem_append.1 hy with h | h
                    · exact HKk.out y h
                    · simp at h; rw [h]; exact HX.out
                  case measure => simp [intOf]; omega
            · have hkl3 : k = r.length := by omega
              subst hkl3
              have hra : ∀ x ∈ r, okV (dk : Int) x = true := fun x hx => HKk.out x (by rw [List.take_length]; exact hx)
              have hRO := HMj.out hra
              have hcol : Col (keyC r) := keyC_col fun x hx => okV_c64 b2 (hra x hx)
              have hsz : w.heap.size ≤ wr.heap.size := hbr.size
              have HKy := Lib.hid (fun W (h : Below wr.heap.size wr W) => keyof_any (c := cj) (hrj.below h (Nat.le_trans hB hsz)) (Nat.le_trans (Nat.le_trans hB hsz) h.size) (by omega) (by omega))
              have HLk := Lib.hid (fun W (h : Below wr.heap.size wr W) => HM.out.look map_cb zero_b hcol W (h.block _ hml))
              rw [HSj.out] at HLk
              have HCol := Lib.hid hcol
              clear hra hcol HMj HVj HKk
              by_cases hin : r ∈ l.take j
              · have HF := Lib.hid (HBad.out j hlt (by rw [hRO]; simp [hin]))
                rw [decide_eq_true hin] at HLk
                go_wp2_with (first
                  | (go_at_call 53; (with_reducible refine (HKy.out _ (Below.refl _ _)).mono ?_); rintro e w2 ⟨rfl, hb2⟩; have hlk := HLk.out _ hb2))
                go_ret
                exact ⟨ret_bool HF.out.symm, below_then hbr hb2⟩
              · have HT := Lib.hid (show RO j = true by rw [hRO]; simp [hin])
                have HN := Lib.hid (HNj.out hin)
                rw [decide_eq_false hin] at HLk
                go_upto_region 19 with (first
                  | (go_at_call 53; (with_reducible refine (HKy.out _ (Below.refl _ _)).mono ?_); rintro e w2 ⟨rfl, hb2⟩; have hlk := HLk.out _ hb2))
                go_wp2_with (first
                  | (go_at_call 53; (with_reducible refine (HKy.out _ hb2).mono ?_); rintro e w3 ⟨rfl, hb3⟩)
                  | (at_mapUpdate; (refine wpList_put_c rfl map_cb (.tmp 69) (.tmp 71) (.const (.bool true)) rfl (b := w.heap.size + 1) (l := keysT l j) rfl (keyC r) rfl (.bool true) rfl (HM.out.below (hb2.trans (hb3.mono hb2.size)) hml) HCol.out HN.out ?_); intro w4 hm4 hg4))
                have hb13 := hb2.trans (hb3.mono hb2.size)
                have hb04 : Below w.heap.size w w4 := below_only (hbr.trans (hb13.mono hsz)) hg4 (Nat.le_trans hsz hb13.size) (by omega)
                go_roundw
                case rel =>
                  refine ⟨j + 1, by omega, by go_num, fun i hi => ?_, by rw [HTj.out]; exact hm4, (hkr.below hb13 hkl).grown hg4 (by simp), hb04⟩
                  rcases Nat.lt_succ_iff_lt_or_eq.1 hi with h | h
                  · exact HA.out i h
                  · rw [h]; exact HT.out
                case measure => simp [intOf]; omega
        · have t1 : (((l.getD j []).length : Int) != (nn : Int)) = true := by simpa using hlen
          have HF := Lib.hid (HBad.out j hlt (HLen.out j hlen))
          clear hlen
          generalize l.getD j [] = r at *
          go_wp2
          go_ret
          exact ⟨ret_bool HF.out.symm, hbr⟩
      · have hjl : j = l.length := by omega
        subst hjl
        have HF := Lib.hid (HGood.out HA.out)
        go_wp2
        go_ret
        exact ⟨ret_bool HF.out.symm, hbr⟩
end Go.Proofs.Ytbbflddhbamjbaa
