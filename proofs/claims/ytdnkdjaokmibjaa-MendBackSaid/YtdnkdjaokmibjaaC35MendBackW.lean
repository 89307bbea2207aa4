/- MendBack: the walk. -/
import Derived.Test.YtdnkdjaokmibjaaMdKn
import Derived.Test.YtdnkdjaokmibjaaMdBX
import Derived.Test.YtdnkdjaokmibjaaTapePgs
set_option linter.unusedSimpArgs false
set_option linter.unusedVariables false
namespace Go.Proofs.Ytdnkdjaokmibjaa.mendBack
open Go.RowKit

/-- which places are left out -/
def lostB (lost : List Int) (i : Nat) : Bool := decide (i / 9 < lost.length) && decide (((i % 9 : Nat) : Int) = withinV (lost.getD (i / 9) 0) 0 8)
theorem lostB_one (lost : List Int) : ∀ i j, i / 9 = j / 9 → lostB lost i = true → lostB lost j = true → i = j := by
  intro i j hij hi hj
  simp only [lostB, Bool.and_eq_true, decide_eq_true_eq] at hi hj
  have h1 := hi.2
  have h2 := hj.2
  rw [← hij] at h2
  have : ((i % 9 : Nat) : Int) = ((j % 9 : Nat) : Int) := h1.trans h2.symm
  omega
theorem num_ok {l : List Pg} (h : Num l) : gAll l = true := gAll_iff.2 fun i hi => by
  have h1 := h i hi
  refine ⟨by rw [gOk_at hi]; exact h1.ok, by rw [gOk_at hi]; exact h1.g, fun h0 => ?_⟩
  rw [gOk_at hi, gOk_at (by omega), h.seq hi, h.seq (by omega)]; omega
theorem num_guard {l : List Pg} (h : Num l) : guardE l = 0 ∧ guardP l = guarded l := by rw [guardE, guardP, num_ok h]; exact ⟨rfl, rfl⟩
theorem drop_rev {l : List Pg} {j : Nat} (h : j < l.length) : (l.drop j).reverse = (l.drop (j + 1)).reverse ++ [l[j]] := by rw [List.drop_eq_getElem_cons h, List.reverse_cons]

set_option maxHeartbeats 16000000 in
set_option maxRecDepth 100000 in
theorem walk (w : World) (A0 : Option Addr) (c0 : Nat) (t : List Int) (ht : ∀ x ∈ t, -9223372036854775808 ≤ x ∧ x ≤ 9223372036854775807) (hc : t.length ≤ c0) (h63 : c0 ≤ 9223372036854775807) (hrt : RdI w w.heap.size .i64 A0 t)
    (A1 : Option Addr) (c1 : Nat) (lost : List Int) (hk : ∀ x ∈ lost, -9223372036854775808 ≤ x ∧ x ≤ 9223372036854775807) (hck : lost.length ≤ c1) (hrk : RdI w w.heap.size .i64 A1 lost) (turned : Bool) :
    Calls Try.prog 3 #[.slice A0 t.length c0, .slice A1 lost.length c1, .bool turned] w fun e w' => e = .returned (.bool true) ∧ Below w.heap.size w w' := by
  have HK := Lib.hid (fun W => known_any W)
  have HT := Lib.hid (newtape_any A0 t c0 ht hc (by omega) w hrt (Nat.le_refl _))
  have HPs := fun W (hW : TapeB W w.heap.size w.heap.size) => tapepgs_any hW 0 (by omega) 30 (by omega)
  rw [show ((0 : Nat) : Int) = 0 from rfl, show ((30 : Nat) : Int) = 30 from rfl] at HPs
  replace HPs := Lib.hid HPs
  have HLo := Lib.hid (fun W (hW : Below w.heap.size w W) => hrk.below hW (Nat.le_refl _))
  have HLb := Lib.hid hk
  clear ht hrt hrk hk
  go_enter Try.func3, Try.ntmps3
  go_upto_region 2 with (first
    | (go_at_call 8; (with_reducible refine HT.out.mono ?_); rintro e w1 ⟨rfl, hT1, hb1⟩)
    | (go_at_call 9; (with_reducible refine (HPs.out _ hT1).mono ?_); rintro e w2 ⟨v2, l, rfl, hll, hN, ho2, hT2, hg2⟩; obtain ⟨A2, c2, rfl, hc2, hr2⟩ := ho2.reads PgR.good (S := fun b => b < w2.heap.size) (fun b _ hl => hl)))
  have bb2 := below_one hb1 hg2 (Nat.le_refl _)
  have hNum : Num l := hN
  obtain ⟨hgE, hgP⟩ := num_guard hNum
  have HGu := mdguard_any (c := c2) hr2 (by omega) hc2
  rw [hgE, hgP] at HGu
  replace HGu := Lib.hid HGu
  have HNum := Lib.hid hNum
  have hgl := guarded_len (l := l)
  have hng : nGrp l ≤ 4 := by unfold nGrp; omega
  have hgl2 : (guarded l).length ≤ 34 := by omega
  clear hgE hgP hN hNum hgl ho2 hT2 hT1
  go_upto_region 5 with (first
    | (go_at_call 10; (with_reducible refine HGu.out.mono ?_); rintro e w3 ⟨v3, rfl, ho3, hb3⟩; obtain ⟨A3, c3, rfl, hc3, hr3⟩ := ho3.reads PgR.good (S := fun b => b < w3.heap.size) (fun b _ hl => hl)))
  have bb3 := below_then bb2 hb3
  have HR3 := Lib.hid (fun W (h : Below w3.heap.size w3 W) => hr3.below PgR.good h)
  have HR2 := Lib.hid (fun W (h : Below w3.heap.size w3 W) => (hr2.below PgR.good hb3).below PgR.good h)
  have HLo3 := Lib.hid (fun W (h : Below w3.heap.size w3 W) => HLo.out W (bb3.trans (h.mono bb3.size)))
  clear HT HPs HGu HLo ho3 hr2 hr3
  have HL1 := Lib.hid (fun (i : Nat) (h : lostB lost i = true) => keepL_out (g := guarded l) (L := lostB lost) (m := i) h)
  have HL0 := Lib.hid (fun (i : Nat) (h : lostB lost i = false) (hi : i < (guarded l).length) => keepL_in (g := guarded l) (L := lostB lost) (m := i) hi h)
  have HLl := Lib.hid (fun i => keepL_len (guarded l) (lostB lost) i)
  have HLd := Lib.hid (show ∀ i, lostB lost i = (decide (i / 9 < lost.length) && decide (((i % 9 : Nat) : Int) = withinV (lost.getD (i / 9) 0) 0 8)) from fun _ => rfl)
  go_wp2
  go_loopw [10, 11] (fun v iv wr => ∃ i : Nat, i ≤ (guarded l).length ∧ iv = .int .i64 i ∧ OwnG PgR 5 33 wr w3.heap.size (fun x => x < wr.heap.size) v (keepL (guarded l) (lostB lost) i) ∧ Below w3.heap.size w3 wr) (fun _ iv _ => (guarded l).length - (intOf iv).toNat)
  case atStart => exact ⟨0, Nat.zero_le _, rfl, OwnG.nil_ _ _ _ _ _ _, Below.refl _ _⟩
  case round =>
    obtain ⟨i, hi, rfl, hown, hbr⟩ := hrel
    have HOw := Lib.hid hown
    have hszr := hbr.size
    clear hown
    by_cases hlt : i < (guarded l).length
    · obtain ⟨k, hk⟩ : ∃ k, i / 9 = k := ⟨_, rfl⟩
      obtain ⟨m, hm⟩ : ∃ m, i % 9 = m := ⟨_, rfl⟩
      have htd : (i : Int).tdiv 9 = (k : Int) := by rw [← hk]; rfl
      have htm : (i : Int).tmod 9 = (m : Int) := by rw [← hm]; rfl
      have hld := HLd.out i
      rw [hk, hm] at hld
      have HL1i := Lib.hid (HL1.out i)
      have HL0i := Lib.hid (fun h => HL0.out i h hlt)
      have hkl := HLl.out i
      have hk4 : k ≤ 100 := by omega
      have hm9 : m ≤ 8 := by omega
      have hwk : IntKind.i64.wrap (k : Int) = (k : Int) := IntWalk.i64_in _ (by omega)
      clear hk hm
      go_upto_region 10 with fail
      go_cut [48] from 35 to 49 (fun v wc => v = .bool (lostB lost i) ∧ wr = wc)
      case first =>
        by_cases hkl2 : k < lost.length
        · obtain ⟨al, rfl, hal, x0⟩ := (HLo3.out _ hbr).at_ hkl2
          rw [decide_eq_true hkl2, Bool.true_and] at hld
          have hb := HLb.out (lost.getD k 0) (by rw [List.getD_eq_getElem?_getD, List.getElem?_eq_getElem hkl2]; exact List.getElem_mem hkl2)
          have HWi := Lib.hid (within_any (lost.getD k 0) 0 8 hb.1 hb.2 (by omega) (by omega) (by omega) wr)
          generalize withinV (lost.getD k 0) 0 8 = y at *
          generalize lost.getD k 0 = x at *
          have hdd : ((m : Int) == y) = decide ((m : Int) = y) := by
            by_cases h9 : (m : Int) = y
            · rw [decide_eq_true h9, h9]; simp
            · rw [decide_eq_false h9, beq_eq_false_iff_ne]; exact h9
          have HLd2 := Lib.hid hld
          clear hld
          go_wp2_with (first
            | (go_at_call 11; (with_reducible refine HWi.out.mono ?_); rintro e w5 ⟨rfl, rfl⟩))
          go_meet
          exact ⟨by rw [HLd2.out], rfl⟩
        · rw [decide_eq_false hkl2, Bool.false_and] at hld
          have HLd2 := Lib.hid hld
          clear hld
          go_wp2
          go_meet
          exact ⟨by rw [HLd2.out], rfl⟩
      case rest =>
        obtain ⟨rfl, rfl⟩ := hcut
        clear hld
        cases hLi : lostB lost i with
        | true =>
          have HS := Lib.hid (HL1i.out hLi)
          go_wp2
          go_roundw
          case rel => exact ⟨i + 1, by omega, by go_num, by rw [HS.out]; exact HOw.out, hbr⟩
          case measure => simp [intOf]; omega
        | false =>
          have HS := Lib.hid (HL0i.out hLi)
          obtain ⟨ad, p, Aj, cj, rfl, _, hp, e0, e1, e2, e3, e4, hcj, hrj, hwj⟩ := RdPg.at_ (HR3.out _ hbr) hlt
          obtain ⟨A5, c5, rfl, hc5, _, hob5⟩ := HOw.out.form PgR.good
          have hbj : ∀ b, (b < w3.heap.size) → b < wr.heap.size := fun b h => Nat.lt_of_lt_of_le h hszr
          generalize keepL (guarded l) (lostB lost) i = xs at *
          generalize (guarded l)[i] = q at *
          obtain ⟨q1, q2, q3, q4, q5⟩ := q
          simp only at e0 e1 e2 e3 e4 hcj hrj
          go_wp2_with (first
            | (at_builtin; (refine wpList_push_G (v := .slice A5 xs.length c5) rfl (.tmp 49) (.tmp 54) _ rfl PgR.good wr (.agg #[.int .i64 0, .bool false, .bool false, .bool false, .slice none 0 0]) 40 Try.underlying23 info_pg rfl (by omega) rfl HOw.out (fun x => x < w3.heap.size) _ 1 [.int .i64 q1, .bool q2, .bool q3, .bool q4, .slice Aj q5.length cj] ⟨q1, q2, q3, q4, q5⟩ rfl rfl (show PgR _ _ _ _ from ⟨Aj, cj, rfl, hcj, hrj, hwj⟩) (fun x => x ≤ wr.heap.size) (fun x hx _ => Nat.le_of_lt hx) (fun x hx _ => by have h' : x < w3.heap.size := hx; show x ≤ wr.heap.size; omega) (fun x hx h => by have := (hob5 x hx).1; have h' : x < w3.heap.size := h; omega) (fun x hx => hx) (Nat.le_refl _) (by omega) hszr ?_); intro v7 w7 ow7 hg7 hv7))
          have hb78 : Below w3.heap.size wr w7 := Below.grown (below_alloc (Below.refl wr.heap.size wr) _ |>.mono hszr) hg7 (by simp; omega) (fun x hx => (hob5 x hx).1)
          have hs7 := hg7.size
          simp at hs7
          go_roundw
          case rel => exact ⟨i + 1, by omega, by go_num, by rw [HS.out]; exact ow7.weak PgR.good (fun x hx hl9 => hl9), hbr.trans hb78⟩
          case measure => simp [intOf]; omega
    · have hil : i = (guarded l).length := by omega
      subst hil
      have HKm := Lib.hid (show ∀ s : List Pg, (∀ x, x ∈ s ↔ x ∈ keepL (guarded l) (lostB lost) (guarded l).length) → Left l s ∧ (∀ p ∈ l, p ∈ s ∨ ∃ k, k < nGrp l ∧ guardG (grp l k) ∈ s ∧ p ∈ grp l k ∧ ∀ q ∈ grp l k, q ≠ p → q ∈ s) from fun s hs => ⟨left_keep HNum.out _ hs, left_one HNum.out (lostB_one lost) hs⟩)
      have hsl := HLl.out (guarded l).length
      clear HL1 HL0 HLl HLd HLo3 HLb
      generalize keepL (guarded l) (lostB lost) (guarded l).length = s0 at *
      have hs34 : s0.length ≤ 34 := by omega
      obtain ⟨w4, rfl⟩ : ∃ w4 : World, w4 = wr := ⟨_, rfl⟩
      obtain ⟨A5, c5, rfl, hc5, hob5⟩ := HOw.out.reads PgR.good (S := fun x => x < w4.heap.size) (fun x _ h => h)
      go_upto_if 56 with (fail)
      go_cut [10] (fun v wc => ∃ s, (∀ x, x ∈ s ↔ x ∈ s0) ∧ s.length ≤ 34 ∧ (∃ A c, v = .slice A s.length c ∧ RdPg wc (fun x => x < wc.heap.size) A s) ∧ Below w3.heap.size w3 wc)
      case first =>
        cases turned with
        | false =>
          go_wp2
          go_meet
          exact ⟨s0, fun x => Iff.rfl, hs34, ⟨A5, c5, rfl, hob5⟩, hbr⟩
        | true =>
          have HRs := Lib.hid (fun W (h : Below w4.heap.size w4 W) => hob5.below PgR.good h)
          have hwl : IntKind.i64.wrap ((s0.length : Int) - 1) = (s0.length : Int) - 1 := IntWalk.i64_in _ (by omega)
          go_wp2
          go_loopw [13, 14] (fun v iv wr => ∃ j : Nat, j ≤ s0.length ∧ iv = .int .i64 ((j : Int) - 1) ∧ OwnG PgR 5 33 wr w4.heap.size (fun x => x < wr.heap.size) v (s0.drop j).reverse ∧ Below w4.heap.size w4 wr) (fun _ iv _ => (intOf iv + 1).toNat)
          case atStart => exact ⟨s0.length, Nat.le_refl _, rfl, by rw [List.drop_length]; exact OwnG.nil_ _ _ _ _ _ _, Below.refl _ _⟩
          case round =>
            obtain ⟨j, hj, rfl, hown, hbr2⟩ := hrel
            have HOw2 := Lib.hid hown
            have hszr2 := hbr2.size
            clear hown
            cases j with
            | zero =>
              have hd : decide ((0 : Int) ≤ ((0 : Nat) : Int) - 1) = false := by decide
              obtain ⟨A6, c6, rfl, hc6, hr6⟩ := HOw2.out.reads PgR.good (S := fun x => x < wr.heap.size) (fun x _ h => h)
              go_wp2
              go_meet
              refine ⟨s0.reverse, fun x => List.mem_reverse, by rw [List.length_reverse]; exact hs34, ⟨A6, c6, ?_, ?_⟩, hbr.trans (hbr2.mono hszr)⟩
              · rw [List.drop_zero]
              · rw [List.drop_zero] at hr6; exact hr6
            | succ j =>
              have hjl : j < s0.length := by omega
              have hd : decide ((0 : Int) ≤ ((j + 1 : Nat) : Int) - 1) = true := by simp
              have hj1 : ((j + 1 : Nat) : Int) - 1 = (j : Int) := by omega
              have HDr := Lib.hid (drop_rev hjl)
              have hdl : (s0.drop (j + 1)).reverse.length ≤ 34 := by simp; omega
              obtain ⟨ad, p, Aj, cj, rfl, _, hp, e0, e1, e2, e3, e4, hcj, hrj, hwj⟩ := RdPg.at_ (HRs.out _ hbr2) hjl
              obtain ⟨A6, c6, rfl, hc6, _, hob6⟩ := HOw2.out.form PgR.good
              rw [hj1]
              generalize (s0.drop (j + 1)).reverse = xs at *
              generalize s0[j] = q at *
              obtain ⟨q1, q2, q3, q4, q5⟩ := q
              simp only at e0 e1 e2 e3 e4 hcj hrj
              go_wp2_with (first
                | (at_builtin; (refine wpList_push_G (v := .slice A6 xs.length c6) rfl (.tmp 64) (.tmp 69) _ rfl PgR.good wr (.agg #[.int .i64 0, .bool false, .bool false, .bool false, .slice none 0 0]) 40 Try.underlying23 info_pg rfl (by omega) rfl HOw2.out (fun x => x < w4.heap.size) _ 1 [.int .i64 q1, .bool q2, .bool q3, .bool q4, .slice Aj q5.length cj] ⟨q1, q2, q3, q4, q5⟩ rfl rfl (show PgR _ _ _ _ from ⟨Aj, cj, rfl, hcj, hrj, hwj⟩) (fun x => x ≤ wr.heap.size) (fun x hx _ => Nat.le_of_lt hx) (fun x hx _ => by have h' : x < w4.heap.size := hx; show x ≤ wr.heap.size; omega) (fun x hx h => by have := (hob6 x hx).1; have h' : x < w4.heap.size := h; omega) (fun x hx => hx) (Nat.le_refl _) (by omega) hszr2 ?_); intro v7 w7 ow7 hg7 hv7))
              have hb78 : Below w4.heap.size wr w7 := Below.grown (below_alloc (Below.refl wr.heap.size wr) _ |>.mono hszr2) hg7 (by simp; omega) (fun x hx => (hob6 x hx).1)
              have hs7 := hg7.size
              simp at hs7
              go_roundw
              case rel => exact ⟨j, by omega, by first | rfl | go_num, by rw [HDr.out]; exact ow7.weak PgR.good (fun x hx hl9 => hl9), hbr2.trans hb78⟩
              case measure => simp [intOf]
      case rest =>
        obtain ⟨s, hms, hsl2, ⟨A6, c6, rfl, hr6⟩, hb6⟩ := hcut
        obtain ⟨hLe, hAll⟩ := HKm.out s hms
        have HMe := Lib.hid (mend_any (c := c6) hr6 (by omega))
        have HWh := Lib.hid (fun (ys : List Pg) (hp : ys.Perm (mendO s)) (ho : ys.Pairwise (fun a b => a.seq ≤ b.seq)) => mend_whole HNum.out (by omega) hLe hAll hp ho)
        clear hms hLe hAll hr6 HKm
        have hb36 := hb6.size
        go_upto_region 20 with (first
          | (go_at_call 12; (with_reducible refine HMe.out.mono ?_); rintro e w7 ⟨v7, v8, ys, rfl, hp7, hs7, ho7, ho8, hb7⟩))
        obtain ⟨rfl, hh7⟩ := HWh.out ys hp7 hs7
        rw [hh7] at ho8
        obtain ⟨A7, c7, rfl, hc7, hr7⟩ := ho7.reads PgR.good (S := fun x => x < w7.heap.size) (fun x _ h => h)
        obtain ⟨A8, c8, rfl, _, _⟩ := ho8.form HoR.good
        have HSm := samepgs_any (w := w7) c7 c2 hr7 (HR2.out _ (hb6.trans (hb7.mono hb36))) (by omega) (by omega)
        rw [decide_eq_true rfl] at HSm
        replace HSm := Lib.hid HSm
        have bb7 := bb3.trans ((hb6.trans (hb7.mono hb36)).mono bb3.size)
        go_wp2_with (first
          | (go_at_call 13; (with_reducible refine HSm.out.mono ?_); rintro e w9 ⟨rfl, hb9⟩)
          | (go_at_call 14; (with_reducible refine (HK.out _).mono ?_); rintro e w10 ⟨rfl, hb10⟩))
        go_ret
        exact ⟨rfl, below_then (below_then bb7 hb9) hb10⟩
end Go.Proofs.Ytdnkdjaokmibjaa.mendBack
