/- WeaveLive: the walk. -/
import Derived.Test.YtnflhogjonlnmaaWvKnown
import Derived.Test.YtnflhogjonlnmaaWvAll
import Derived.Test.YtnflhogjonlnmaaWvLiL
import Derived.Test.YtnflhogjonlnmaaWvLiM
import Derived.Test.YtnflhogjonlnmaaWvTp
import Derived.Test.YtnflhogjonlnmaaPkSames
import Derived.Test.YtnflhogjonlnmaaPicLL
import Derived.Test.YtnflhogjonlnmaaPkVal
set_option linter.unusedSimpArgs false
set_option linter.unusedVariables false
namespace Go.Proofs.Ytnflhogjonlnmaa.weaveLive
open Go.RowKit

theorem lv_takef {w0 w : World} {X : Nat → Prop} {g : Nat} {s : Wv} {v : Value} {got : List Pk} {p : Pk} {A : Option Addr} {c : Nat} (h : LvM w0 X w g s v got p A c) (hl0 : s.late = 0) :
    Calls Try.prog 20 #[.pointer (some ⟨g, 0, none⟩)] w fun e w' => ∃ (p1 p2 p3 : Int) (p4 p5 : Bool) (p6 : List Int) (A' : Option Addr) (c' : Nat), s.take.1.getD pz = ⟨p1, p2, p3, p4, p5, p6⟩ ∧
      e = .returned (.tuple #[.agg #[.int .i64 p1, .int .i64 p2, .int .i64 p3, .bool p4, .bool p5, .slice A' p6.length c'], .bool s.take.1.isSome]) ∧ LvM w0 X w' g s.take.2 v got ⟨p1, p2, p3, p4, p5, p6⟩ A' c' ∧ Mod (Free w0 X) w w' := by
  refine (lv_take h (by omega) (by omega)).mono ?_
  rintro e w' ⟨A', c', he, hL, hm⟩
  generalize hq : s.take.1.getD pz = q at *
  obtain ⟨p1, p2, p3, p4, p5, p6⟩ := q
  exact ⟨p1, p2, p3, p4, p5, p6, A', c', rfl, he, hL, hm⟩

set_option maxHeartbeats 16000000 in
set_option maxRecDepth 100000 in
theorem walk (w : World) (A0 : Option Addr) (c0 : Nat) (t : List Int) (ht : ∀ x ∈ t, -9223372036854775808 ≤ x ∧ x ≤ 9223372036854775807) (hc : t.length ≤ c0) (h63 : c0 ≤ 9223372036854775807) (hrt : RdI w w.heap.size .i64 A0 t)
    (A1 : Option Addr) (c1 : Nat) (u : List Int) (hu : ∀ x ∈ u, -9223372036854775808 ≤ x ∧ x ≤ 9223372036854775807) (hcu : u.length ≤ c1) (hru : RdI w w.heap.size .i64 A1 u) :
    Calls Try.prog 8 #[.slice A0 t.length c0, .slice A1 u.length c1] w fun e w' => e = .returned (.bool true) ∧ Below w.heap.size w w' := by
  have HK := Lib.hid (fun W => known_any W)
  have HT := Lib.hid (newtape_any A0 t c0 ht hc (by omega) w hrt (Nat.le_refl _))
  have HSt := Lib.hid (fun W (hW : TapeB W w.heap.size w.heap.size) => tapests_any hW 9 (by omega) (by omega))
  have HWi := Lib.hid (fun (x n : Int) (hx : x ∈ u) (h0 : 0 ≤ n) (h1 : n ≤ 4) W => within_any x 0 n (hu x hx).1 (hu x hx).2 (by omega) h0 (by omega) W)
  have HU := Lib.hid hru
  clear ht hrt hu hru
  go_enter Try.func8, Try.ntmps8
  go_upto_region 2 with (first
    | (go_at_call 11; (with_reducible refine HT.out.mono ?_); rintro e w1 ⟨rfl, hT1, hb1⟩)
    | (go_at_call 22; (with_reducible refine (HSt.out _ hT1).mono ?_); rintro e w2 ⟨v2, ls, rfl, hl1, hl4, hst, ho2, hT2, hg2⟩))
  have bb2 := below_one hb1 hg2 (Nat.le_refl _)
  have hE := tape_weave hst hl1 hl4
  have hRow := row_of hE
  have hsm := total_small (m := 9) hst hl4
  have hMl := hRow.len
  have hLi := li_start hE (fun i hi => by have := (hst.each i hi).2; omega)
  have h9 : ∀ i, i < ls.length → (ls.getD i []).length ≤ 9 := fun i hi => by have := (hst.each i hi).2; omega
  obtain ⟨A2, c2, rfl, hc2, hr2⟩ := ho2.reads LpR.good (S := fun b => b < w2.heap.size) (fun b _ hl => hl)
  have HA := wall_any (c := c2) hr2 (by omega)
  unfold WeavePost at HA
  rw [hE] at HA
  generalize weaveP ls = M at *
  replace HA := Lib.hid HA
  have HLi := Lib.hid hLi
  have H9 := Lib.hid h9
  have hM36 : M.length ≤ 36 := by omega
  clear hst ho2 hT2 hg2 hT1 hb1 hRow hE hsm hMl HT HSt hLi h9
  go_upto_region 3 with (first
    | (go_at_call 24; (with_reducible refine HA.out.mono ?_); rintro e w3 ⟨v3, rfl, ho3, hb3⟩; obtain ⟨A3, c3, rfl, hc3, hr3⟩ := ho3.reads PkR.good (S := fun b => b < w3.heap.size) (fun b _ hl => hl)))
  have HN := Lib.hid (lv_new (n := (ls.length : Int)) (most := 1125899906842624) rfl hl1 hl4 (by omega) (by omega) w3)
  have hr2' := (hr2.below LpR.good hb3).weak LpR.good (S' := fun b => b < w3.heap.size) (fun b hb _ => Nat.lt_of_lt_of_le hb hb3.size)
  have bb3 := below_then bb2 hb3
  clear ho3 hr2 hb3 bb2 HA
  go_upto_region 7 with (first
    | (go_at_call 17; (with_reducible refine HN.out.mono ?_); rintro e w4 ⟨rfl, hL4, hb4⟩))
  have hmk := run_make_ints (P := Try.prog) w4 22 Try.underlying22 info_int (by omega) .i64 ls.length ls.length (Nat.le_refl _) (by omega)
  have b5 := below_alloc (Below.refl w4.heap.size w4) (.cells (Array.replicate ls.length (Value.int .i64 0)) 3)
  have k5 := Blk.new w4 3 (Array.replicate ls.length (Value.int .i64 0))
  have hs5 : (w4.alloc (.cells (Array.replicate ls.length (Value.int .i64 0)) 3)).heap.size = w4.heap.size + 1 := by simp
  go_upto_region 8 with (fail)
  clear hmk
  generalize w4.alloc (.cells (Array.replicate ls.length (Value.int .i64 0)) 3) = w5 at *
  rw [nc_rep] at k5
  have hL5 := (hL4.protect b5).sub (Y := fun b => b = w4.heap.size) (fun b hb => .inr (by subst hb; exact ⟨Nat.le_refl _, by omega⟩))
  have hb35 := below_then hb4 b5
  have h34 := hb4.size
  have HLs := Lib.hid (fun W (h : Below w3.heap.size w3 W) => hr2'.below LpR.good h)
  have HMr := Lib.hid (fun W (h : Below w3.heap.size w3 W) => hr3.below PkR.good h)
  have HBB := Lib.hid bb3
  have hw03 := bb3.size
  clear hL4 hb4 b5 hr2' hr3 bb3 hs5 HN
  go_wp2_with (fail)
  go_loopw [10, 12] (fun gv iv wr => ∃ (i : Nat) (ks : List Nat) (rs : List (List Pk)) (s : Wv) (v : Value) (got : List Pk) (p : Pk) (A : Option Addr) (c : Nat), v = gv ∧ i ≤ u.length ∧ i ≤ 200 ∧ iv = .int .i64 (i : Int) ∧ ks.length = ls.length ∧ Blk wr w4.heap.size 3 (ic .i64 (nc ks)).toArray ∧ rs.length = ls.length ∧
      LiI M (fsOf ls ks) rs s got 0 ∧ LvM w3 (fun b => b = w4.heap.size) wr (w3.heap.size + 1) s v got p A c ∧ Below w3.heap.size w3 wr) (fun _ iv _ => 200 - (intOf iv).toNat)
  case atStart => exact ⟨0, _, ls, _, _, [], _, _, _, rfl, Nat.zero_le _, Nat.zero_le _, rfl, by rw [List.length_replicate], k5, rfl, by rw [fsOf_zero]; exact HLi.out, hL5, hb35⟩
  case round =>
    clear k5 hL5 hb35 HLi
    obtain ⟨i, ks, rs, s, v, got, p, A, c, rfl, hi, hi2, rfl, hal, hk, hrl, hI, hL, hb⟩ := hrel
    have hbw := below_then HBB.out hb
    have hsw := hb.size
    obtain ⟨B0, hB0⟩ : ∃ B0 : Bool, B0 = decide (i < u.length ∧ i < 200) := ⟨_, rfl⟩
    replace hB0 := Lib.hid hB0
    go_upto_region 9 with (fail)
    go_cut [53] (fun v wc => v = .bool B0 ∧ wr = wc)
    case first =>
      have hd := hB0.out
      by_cases h1 : i < u.length
      · by_cases h2 : i < 200
        · rw [decide_eq_true ⟨h1, h2⟩] at hd
          replace hd := Lib.hid hd
          have g1 : decide ((i : Int) < (u.length : Int)) = true := decide_eq_true (by omega)
          have g2 : decide ((i : Int) < 200) = true := decide_eq_true (by omega)
          go_wp2
          go_meet
          exact ⟨by rw [hd.out], rfl⟩
        · rw [decide_eq_false (fun h => h2 h.2)] at hd
          replace hd := Lib.hid hd
          have g1 : decide ((i : Int) < (u.length : Int)) = true := decide_eq_true (by omega)
          have g2 : decide ((i : Int) < 200) = false := decide_eq_false (by omega)
          go_wp2
          go_meet
          exact ⟨by rw [hd.out], rfl⟩
      · rw [decide_eq_false (fun h => h1 h.1)] at hd
        replace hd := Lib.hid hd
        have g1 : decide ((i : Int) < (u.length : Int)) = false := decide_eq_false (by omega)
        go_wp2
        go_meet
        exact ⟨by rw [hd.out], rfl⟩
    case rest =>
      obtain ⟨rfl, rfl⟩ := hcut
      cases B0 with
      | true =>
        obtain ⟨h1, h2⟩ := of_decide_eq_true hB0.out.symm
        clear hB0
        obtain ⟨ad, hA1, _, y0⟩ := (RdI.below HU.out hbw (Nat.le_refl _)).at_ h1
        have hx := getD_mem h1
        subst hA1
        generalize u.getD i 0 = x at *
        have hWx := HWi.out x ls.length hx (by omega) (by omega)
        obtain ⟨hv0, hv1⟩ := withinV_in (n := x) (lo := 0) (hi := (ls.length : Int)) (by omega)
        obtain ⟨S, hS⟩ : ∃ S : Nat, withinV x 0 ls.length = (S : Int) := ⟨(withinV x 0 ls.length).toNat, by omega⟩
        rw [hS] at hWx hv0 hv1
        have hSl : S ≤ ls.length := by omega
        replace hWx := Lib.hid hWx
        clear hS hv0 hv1 hx
        go_upto_region 12 with (first
          | (go_at_call 16; (with_reducible refine (hWx.out _).mono ?_); rintro e w6 ⟨rfl, rfl⟩))
        clear y0 hWx
        obtain ⟨B, hB⟩ : ∃ B : Bool, B = decide (S < ls.length ∧ ks.getD S 0 < (ls.getD S []).length) := ⟨_, rfl⟩
        replace hB := Lib.hid hB
        go_cut [78] (fun v wc => v = .bool B ∧ ∃ n, wc = wr.drewN n)
        case first =>
          by_cases hS : S < ls.length
          · obtain ⟨al, Aj, cj, rfl, _, zh, _, _, _⟩ := RdLp.at_ (HLs.out wr hb) hS
            have z1 := nc_blk hk (j := S) (by omega)
            have hd := hB.out
            rw [getD_rs hS] at hd
            generalize ls[S] = li at *
            generalize ks.getD S 0 = k at *
            by_cases hkl : k < li.length
            · rw [decide_eq_true ⟨hS, hkl⟩] at hd
              replace hd := Lib.hid hd
              go_quiet (fail)
              go_wp2
              go_meet
              exact ⟨by rw [hd.out], _, rfl⟩
            · rw [decide_eq_false (fun h => hkl h.2)] at hd
              replace hd := Lib.hid hd
              go_quiet (fail)
              go_wp2
              go_meet
              exact ⟨by rw [hd.out], _, rfl⟩
          · have hd := hB.out
            rw [decide_eq_false (fun h => hS h.1)] at hd
            replace hd := Lib.hid hd
            obtain rfl : S = ls.length := by omega
            go_quiet (fail)
            go_wp2
            go_meet
            exact ⟨by rw [hd.out], _, rfl⟩
        case rest =>
          obtain ⟨rfl, n0, rfl⟩ := hcut
          have hk0 := hk.drewN n0
          have hL0 := hL.drewN n0
          have hb0 := below_drewN hb n0
          have hbw0 := below_drewN hbw n0
          clear hk hL hb hbw hsw
          generalize wr.drewN n0 = wa at *
          have hsw := hb0.size
          have HI := Lib.hid hI
          have HK0 := Lib.hid hk0
          have HL0 := Lib.hid hL0
          clear hI
          go_upto_if 78 with (fail)
          go_cut [] (fun wc => ∃ (ks' : List Nat) (s' : Wv), ks'.length = ls.length ∧ Blk wc w4.heap.size 3 (ic .i64 (nc ks')).toArray ∧ LiI M (fsOf ls ks') rs s' got 0 ∧ LvM w3 (fun b => b = w4.heap.size) wc (w3.heap.size + 1) s' v got p A c ∧ Below w3.heap.size w3 wc)
          case first =>
            cases B with
            | false =>
              go_wp2
              go_meet
              exact ⟨ks, s, hal, HK0.out, HI.out, HL0.out, hb0⟩
            | true =>
              obtain ⟨hS, hkl⟩ := of_decide_eq_true hB.out.symm
              obtain ⟨al, Aj, cj, rfl, _, zh, hcj, hrj, hlj⟩ := RdLp.at_ (HLs.out wa hb0) hS
              have z1 := nc_blk hk0 (j := S) (by omega)
              have hfz := hk0.frozen S
              have hfd := fsOf_at (ls := ls) (ks := ks) hS
              have hfs := fsOf_set (ls := ls) (ks := ks) (k := ks.getD S 0 + 1) hS (by omega)
              have hl9 := H9.out S hS
              rw [getD_rs hS] at hkl hfd hfs hl9
              have hnc := nc_set ks S (ks.getD S 0 + 1)
              generalize ls[S] = li at *
              obtain ⟨k, hkk⟩ : ∃ k, ks.getD S 0 = k := ⟨_, rfl⟩
              rw [hkk] at z1 hkl hfd hfs hnc
              have HKk := Lib.hid hkk
              clear hkk
              rw [List.drop_eq_getElem_cons hkl] at hfd
              obtain ⟨hput, hI1⟩ := li_put HI.out (i := S) (by omega) hfd (Nat.zero_le _)
              rw [← hfs] at hI1
              obtain ⟨ap, p1, Ap, cp, hAj, _, hp1, u0, u1, u2, u3, u4, u5, hcp, hrp, hwp⟩ := RdPk.at_ hrj hkl
              subst hAj
              generalize hq : li[k] = q at *
              have HP := Lib.hid (fun W (hx : LvM w3 (fun b => b = w4.heap.size) W (w3.heap.size + 1) s v got p A c) (hbx : Below wa.heap.size wa W) => lv_put hx q Ap cp hwp (RdI.more (RdI.below (RdS.top hrp) hbx (Nat.le_refl _)) hbx.size))
              obtain ⟨q1, q2, q3, q4, q5, q6⟩ := q
              simp only at u0 u1 u2 u3 u4 u5
              have HP := HP.out wa.drew (hL0.drewN 1) (Below.refl _ _).drew
              rw [hput] at HP
              simp only [Pk.val] at HP
              replace HP := Lib.hid HP
              have HI1 := Lib.hid hI1
              have HNc := Lib.hid hnc
              replace hq := Lib.hid hq
              clear hput hI1 hnc hfd hfs hrj hrp hcp hwp hcj hlj
              go_wp2_with (fail)
              refine wp_still_tail 11 (by kernel_rfl) (by kernel_rfl) ?_
              simp only [List.take_succ_cons, List.take_zero, List.drop_succ_cons, List.drop_zero]
              repeat still_step
              refine wpStill_nil ?_
              go_upto_region 15 with (first
                | (go_at_call 18; (with_reducible refine HP.out.mono ?_); rintro e w7 ⟨rfl, hL7, hm7⟩))
              have hk7 := (hk0.drewN 1).mod hm7 (fun hf => hf.2 rfl)
              have hb7 := (below_drewN hb0 1).trans (hm7.below hsw (fun b hb => hb.1))
              have z7 := nc_blk hk7 (j := S) (by omega)
              have hfz7 := hk7.frozen S
              rw [HKk.out] at z7
              have hk9 : k + 1 ≤ 1000 := by omega
              go_upto_region 16 with (fail)
              go_meet
              have hk8 := hk7.set_ S (.int .i64 (((k + 1 : Nat) : Int)))
              rw [ic_setA, HNc.out] at hk8
              refine ⟨ks.set S (k + 1), _, by rw [List.length_set]; exact hal, hk8, HI1.out, hL7.keepX (mod_put (Mod.refl _ _) (fun _ => rfl)), below_put hb7 h34⟩
          case rest =>
            clear HK0 HL0 hB hsw
            obtain ⟨ks, s, hal, hk, hI, hL, hb⟩ := hcut
            have hlt0 := hI.late
            have HTk := lv_take hL (by omega) (by omega)
            have hgl := hI.short_
            have hsw := hb.size
            rcases li_take hI with ⟨j, q, l, hj, htk, hI2, _⟩ | ⟨htk, _⟩
            · have HI2 := Lib.hid hI2
              generalize s.take.2 = s2 at *
              rw [htk] at HTk
              obtain ⟨q1, q2, q3, q4, q5, q6⟩ := q
              simp only [Option.getD_some, Option.isSome_some, Pk.val] at HTk
              replace HTk := Lib.hid HTk
              have HKk := Lib.hid hk
              clear hI hL htk hI2 hk
              go_upto_region 17 with (first
                | (go_at_call 20; (with_reducible refine HTk.out.mono ?_); rintro e w9 ⟨A9, c9, rfl, hL9, hm9⟩))
              have hk9 := HKk.out.mod hm9 (fun hf => hf.2 rfl)
              have hb9 := hb.trans (hm9.below hsw (fun b hb => hb.1))
              have bx := below_alloc (Below.refl w9.heap.size w9) (.cells #[.int .i64 q1, .int .i64 q2, .int .i64 q3, .bool q4, .bool q5, .slice A9 q6.length c9] 40)
              have kx := Blk.new w9 40 #[.int .i64 q1, .int .i64 q2, .int .i64 q3, .bool q4, .bool q5, .slice A9 q6.length c9]
              generalize w9.alloc (.cells #[.int .i64 q1, .int .i64 q2, .int .i64 q3, .bool q4, .bool q5, .slice A9 q6.length c9] 40) = wx at *
              have hLx := hL9.below bx
              have hkx := hk9.below bx hk9.lt
              have hbx := below_then hb9 bx
              have x0 := kx.cell 0
              have x1 := kx.cell 1
              have x2 := kx.cell 2
              have x3 := kx.cell 3
              have x4 := kx.cell 4
              have x5 := kx.cell 5
              clear hk9 hL9 hm9 bx kx HTk HKk
              go_wp2_with (first
                | (at_builtin; (refine lv_push (by rfl) (.tmp 104) (.tmp 106) (by rfl) hLx (by omega) (by rfl) (by rfl) ?_); intro v11 w11 hL11 hm11))
              go_roundw
              case rel => exact ⟨i + 1, ks, _, _, _, _, _, _, _, rfl, by omega, by omega, by go_num, hal, hkx.mod hm11 (fun hf => hf.2 rfl), by rw [List.length_set]; exact hrl, HI2.out, hL11, hbx.trans (hm11.below hbx.size (fun b hb => hb.1))⟩
              case measure => simp [intOf]; omega
            · have HI2 := Lib.hid hI
              rw [htk] at HTk
              simp only [Option.getD_none, Option.isSome_none, Pk.val, pz, List.length_nil] at HTk
              replace HTk := Lib.hid HTk
              have HKk := Lib.hid hk
              clear hI hL htk hk
              go_wp2_with (first
                | (go_at_call 20; (with_reducible refine HTk.out.mono ?_); rintro e w9 ⟨A9, c9, rfl, hL9, hm9⟩))
              have hk9 := HKk.out.mod hm9 (fun hf => hf.2 rfl)
              have hb9 := hb.trans (hm9.below hsw (fun b hb => hb.1))
              have bx := below_alloc (Below.refl w9.heap.size w9) (.cells #[.int .i64 0, .int .i64 0, .int .i64 0, .bool false, .bool false, .slice A9 0 c9] 40)
              go_roundw
              case rel => exact ⟨i + 1, ks, _, _, _, _, _, _, _, rfl, by omega, by omega, by go_num, hal, hk9.below bx hk9.lt, hrl, HI2.out, hL9.below bx, below_then hb9 bx⟩
              case measure => simp [intOf]; omega
      | false =>
        clear hB0
        have HI := Lib.hid hI
        have HK0 := Lib.hid hk
        have HL0 := Lib.hid hL
        clear hI hk hL
        go_wp2_with (fail)
        go_loopw [16] (fun ev wr => ∃ (E : Nat) (ks : List Nat) (s : Wv), E ≤ ls.length ∧ ev = .int .i64 (E : Int) ∧ ks.length = ls.length ∧ Blk wr w4.heap.size 3 (ic .i64 (nc ks)).toArray ∧ LiI M (fsOf ls ks) rs s got E ∧
          LvM w3 (fun b => b = w4.heap.size) wr (w3.heap.size + 1) s v got p A c ∧ Below w3.heap.size w3 wr) (fun ev _ => ls.length - (intOf ev).toNat)
        case atStart => exact ⟨0, ks, s, Nat.zero_le _, rfl, hal, HK0.out, HI.out, HL0.out, hb⟩
        case round =>
          clear HI HK0 HL0 hal hb hbw hsw
          obtain ⟨E, ks, s, hE, rfl, hal, hk, hI, hL, hb⟩ := hrel
          by_cases hEl : E < ls.length
          · have HI := Lib.hid hI
            have HK0 := Lib.hid hk
            have HL0 := Lib.hid hL
            clear hI hk hL
            go_wp2_with (fail)
            go_loopw [] (fun wr => ∃ (ks : List Nat) (s : Wv), ks.length = ls.length ∧ Blk wr w4.heap.size 3 (ic .i64 (nc ks)).toArray ∧ LiI M (fsOf ls ks) rs s got E ∧
              LvM w3 (fun b => b = w4.heap.size) wr (w3.heap.size + 1) s v got p A c ∧ Below w3.heap.size w3 wr) (fun wr => 9 - cellN wr ⟨w4.heap.size, E, none⟩)
            case atStart => exact ⟨ks, s, hal, HK0.out, HI.out, HL0.out, hb⟩
            case round =>
              clear HI HK0 HL0 hal hb
              obtain ⟨ks, s, hal, hk, hI, hL, hb⟩ := hrel
              obtain ⟨al, Aj, cj, rfl, _, zh, hcj, hrj, hlj⟩ := RdLp.at_ (HLs.out _ hb) hEl
              have z1 := nc_blk hk (j := E) (by omega)
              have hcn := cellN_is z1
              have hfd := fsOf_at (ls := ls) (ks := ks) hEl
              have hfs := fsOf_set (ls := ls) (ks := ks) (k := ks.getD E 0 + 1) hEl (by omega)
              have hl9 := H9.out E hEl
              rw [getD_rs hEl] at hfd hfs hl9
              have hnc := nc_set ks E (ks.getD E 0 + 1)
              generalize ls[E] = li at *
              obtain ⟨k, hkk⟩ : ∃ k, ks.getD E 0 = k := ⟨_, rfl⟩
              rw [hkk] at z1 hfd hfs hnc hcn
              have HKk := Lib.hid hkk
              clear hkk
              by_cases hkl : k < li.length
              · rw [List.drop_eq_getElem_cons hkl] at hfd
                obtain ⟨hput, hI1⟩ := li_put hI (i := E) (by omega) hfd (Nat.le_refl _)
                rw [← hfs] at hI1
                obtain ⟨ap, p1, Ap, cp, hAj, _, hp1, u0, u1, u2, u3, u4, u5, hcp, hrp, hwp⟩ := RdPk.at_ hrj hkl
                subst hAj
                generalize hq : li[k] = q at *
                have HP := fun W (hx : LvM w3 (fun b => b = w4.heap.size) W (w3.heap.size + 1) s v got p A c) (hbx : Below wr.heap.size wr W) => lv_put hx q Ap cp hwp (RdI.more (RdI.below (RdS.top hrp) hbx (Nat.le_refl _)) hbx.size)
                obtain ⟨q1, q2, q3, q4, q5, q6⟩ := q
                simp only at u0 u1 u2 u3 u4 u5
                rw [hput] at HP
                simp only [Pk.val] at HP
                replace HP := Lib.hid HP
                have HI1 := Lib.hid hI1
                have HNc := Lib.hid hnc
                replace hq := Lib.hid hq
                replace hcn := Lib.hid hcn
                have HK0 := Lib.hid hk
                have HL0 := Lib.hid hL
                clear hput hI1 hnc hfd hfs hrj hrp hcp hwp hcj hlj hI hk hL
                go_wp2_with (fail)
                go_quiet (fail)
                go_upto_region 24 with (fail)
                have hb0 := below_drewN hb nq
                have HPq := Lib.hid (HP.out ((wr.drewN nq).drew) ((HL0.out.drewN nq).drewN 1) (below_drewN (below_drewN (Below.refl _ _) nq) 1))
                have hk0 := HK0.out.drewN nq
                have hcn0 : Hid (cellN (wr.drewN nq) ⟨w4.heap.size, E, none⟩ = k) := hcn
                have hcnw : Hid (cellN wr ⟨w4.heap.size, E, none⟩ = k) := hcn
                have zh0 : (wr.drewN nq).cell? (al.add E) = some (.slice (some ap) li.length cj) := zh
                have z10 : (wr.drewN nq).cell? ⟨w4.heap.size, E, none⟩ = some (.int .i64 (k : Int)) := z1
                have v0 : (wr.drewN nq).cell? p1 = some (.int .i64 q1) := u0
                have v1 : (wr.drewN nq).cell? ⟨p1.block, p1.off + 1, none⟩ = some (.int .i64 q2) := u1
                have v2 : (wr.drewN nq).cell? ⟨p1.block, p1.off + 2, none⟩ = some (.int .i64 q3) := u2
                have v3 : (wr.drewN nq).cell? ⟨p1.block, p1.off + 3, none⟩ = some (.bool q4) := u3
                have v4 : (wr.drewN nq).cell? ⟨p1.block, p1.off + 4, none⟩ = some (.bool q5) := u4
                have v5 : (wr.drewN nq).cell? ⟨p1.block, p1.off + 5, none⟩ = some (.slice Ap q6.length cp) := u5
                clear HP HK0 HL0 hb zh z1 u0 u1 u2 u3 u4 u5 hcn hcn0
                generalize wr.drewN nq = wa at *
                have hsw := hb0.size
                refine wp_still_tail 11 (by kernel_rfl) (by kernel_rfl) ?_
                simp only [List.take_succ_cons, List.take_zero, List.drop_succ_cons, List.drop_zero]
                repeat still_step
                refine wpStill_nil ?_
                go_upto_region 23 with (first
                  | (go_at_call 18; (with_reducible refine HPq.out.mono ?_); rintro e w7 ⟨rfl, hL7, hm7⟩))
                have hk7 := (hk0.drewN 1).mod hm7 (fun hf => hf.2 rfl)
                have hb7 := (below_drewN hb0 1).trans (hm7.below hsw (fun b hb => hb.1))
                have z7 := nc_blk hk7 (j := E) (by omega)
                have hfz7 := hk7.frozen E
                rw [HKk.out] at z7
                have hk9 : k + 1 ≤ 1000 := by omega
                go_wp2_with (fail)
                have hk8 := hk7.set_ E (.int .i64 (((k + 1 : Nat) : Int)))
                rw [ic_setA, HNc.out] at hk8
                have hL8 := hL7.keepX (mod_put (off := E) (u := .int .i64 (((k + 1 : Nat) : Int))) (Mod.refl (fun b => b = w4.heap.size) _) (fun _ => rfl))
                have hb8 := below_put (off := E) (u := .int .i64 (((k + 1 : Nat) : Int))) hb7 h34
                have hgd8 : (ks.set E (k + 1)).getD E 0 = k + 1 := by rw [List.getD_eq_getElem?_getD, List.getElem?_set_self (by omega)]; rfl
                have hcn8 := cellN_is (nc_blk hk8 (j := E) (by rw [List.length_set]; omega))
                rw [hgd8] at hcn8
                replace hcn8 := Lib.hid hcn8
                clear hgd8
                go_roundw
                case rel => exact ⟨ks.set E (k + 1), _, by rw [List.length_set]; exact hal, hk8, HI1.out, hL8, hb8⟩
                case measure =>
                  have e1 : cellN (w7.setCell ⟨w4.heap.size, E, none⟩ (.int .i64 ((k : Int) + 1))) ⟨w4.heap.size, E, none⟩ = k + 1 := hcn8.out
                  rw [e1, hcnw.out]; omega
              · rw [List.drop_eq_nil_of_le (by omega)] at hfd
                have hI1 := li_stop hI (by omega) hfd
                have HI1 := Lib.hid hI1
                have HL0 := Lib.hid hL
                have HK0 := Lib.hid hk
                have HEn := Lib.hid (fun n => lv_end (hL.drewN n) (E : Int))
                clear hI1 hI hfd hfs hnc hcn hk hL
                go_wp2_with (fail)
                go_quiet (fail)
                go_wp2_with (first
                  | (go_at_call 26; (with_reducible refine (HEn.out _).mono ?_); rintro e w7 ⟨rfl, hL7, hm7⟩))
                have hk7 := (HK0.out.drewN nq).mod hm7 (fun hf => hf.2 rfl)
                have hb7 := (below_drewN hb nq).trans (hm7.below hb.size (fun b hb => hb.1))
                go_roundw
                case rel => exact ⟨E + 1, ks, _, by omega, by go_num, hal, hk7, HI1.out, hL7, hb7⟩
                case measure => simp [intOf]; omega
          · obtain rfl : E = ls.length := by omega
            have HTk := Lib.hid (lv_takef hL hI.late)
            have HI := Lib.hid hI
            have HX0 := hL.Xlt
            have hsw := hb.size
            have hgal := hk.lt
            clear hI hL hEl hk hal
            go_upto_region 28 with (first
              | (go_at_call 20; (with_reducible refine HTk.out.mono ?_); rintro e w9 ⟨p1, p2, p3, p4, p5, p6, A9, c9, hp9, rfl, hL9, hm9⟩))
            have hb9 := hb.trans (hm9.below hsw (fun b hb => hb.1))
            have bx := below_alloc (Below.refl w9.heap.size w9) (.cells #[.int .i64 p1, .int .i64 p2, .int .i64 p3, .bool p4, .bool p5, .slice A9 p6.length c9] 40)
            have kx := Blk.new w9 40 #[.int .i64 p1, .int .i64 p2, .int .i64 p3, .bool p4, .bool p5, .slice A9 p6.length c9]
            have hsx : (w9.alloc (.cells #[.int .i64 p1, .int .i64 p2, .int .i64 p3, .bool p4, .bool p5, .slice A9 p6.length c9] 40)).heap.size = w9.heap.size + 1 := by simp
            generalize w9.alloc (.cells #[.int .i64 p1, .int .i64 p2, .int .i64 p3, .bool p4, .bool p5, .slice A9 p6.length c9] 40) = wx at *
            have hLx := (hL9.protect bx).sub (Y := fun b => b = w9.heap.size) (fun b hb => .inr (by subst hb; exact ⟨Nat.le_refl _, by omega⟩))
            have hbx := below_then hb9 bx
            have hg9 : w3.heap.size ≤ w9.heap.size := hb9.size
            have hHp := Lib.hid hp9
            clear hL9 hm9 HTk bx hsx hb9 hp9 HX0 hsw hgal hb
            go_loopw [10, 17, 18] (fun gv pv ov wr => ∃ (rs : List (List Pk)) (s : Wv) (v : Value) (got : List Pk) (gp : Nat) (p1 p2 p3 : Int) (p4 p5 : Bool) (p6 : List Int) (A : Option Addr) (c : Nat), v = gv ∧ LiI M (fsOf ls ks) rs s got ls.length ∧ rs.length = ls.length ∧
              pv = .pointer (some ⟨gp, 0, none⟩) ∧ ov = .bool s.take.1.isSome ∧ s.take.1.getD pz = ⟨p1, p2, p3, p4, p5, p6⟩ ∧ Blk wr gp 40 #[.int .i64 p1, .int .i64 p2, .int .i64 p3, .bool p4, .bool p5, .slice A p6.length c] ∧
              LvM w3 (fun b => b = gp) wr (w3.heap.size + 1) s.take.2 v got ⟨p1, p2, p3, p4, p5, p6⟩ A c ∧ Below w3.heap.size w3 wr ∧ w3.heap.size ≤ gp) (fun gv _ _ _ => M.length - sliceLen gv)
            case atStart => exact ⟨rs, s, v, got, _, _, _, _, _, _, _, _, _, rfl, HI.out, hrl, rfl, rfl, hHp.out, kx, hLx, hbx, hg9⟩
            case round =>
              clear HI hLx hbx kx hHp hrl hg9
              obtain ⟨rs, s, v, got, gp, p1, p2, p3, p4, p5, p6, A, c, rfl, hI, hrl, rfl, rfl, hpp, hkp, hL, hb, hgp⟩ := hrel
              obtain ⟨Ag, cg, rfl, hcg, hrg⟩ := hL.reads
              have hgl := hI.short_
              have hsw := hb.size
              rcases li_take hI with ⟨j, q, l, hj, htk, hI2, _⟩ | ⟨htk, hfin⟩
              · rw [htk, Option.getD_some] at hpp
                subst hpp
                rw [htk, Option.isSome_some]
                have hgl2 := hI2.short_
                have HI2 := Lib.hid hI2
                have hl2 := hI2.late
                generalize s.take.2 = s2 at *
                have x0 := hkp.cell 0
                have x1 := hkp.cell 1
                have x2 := hkp.cell 2
                have x3 := hkp.cell 3
                have x4 := hkp.cell 4
                have x5 := hkp.cell 5
                clear hI hI2 htk hrg
                go_upto_region 31 with (first
                  | (at_builtin; (refine lv_push (by rfl) (.tmp 157) (.tmp 159) (by rfl) hL (by omega) (by rfl) (by rfl) ?_); intro v11 w11 hL11 hm11))
                have hk11 := hkp.mod hm11 (fun hf => hf.2 rfl)
                have hb11 := hb.trans (hm11.below hsw (fun b hb => hb.1))
                clear x0 x1 x2 x3 x4 x5 hL hkp hm11 hb
                have x0 := hk11.cell 0
                have x1 := hk11.cell 1
                have x2 := hk11.cell 2
                have x3 := hk11.cell 3
                have x4 := hk11.cell 4
                have x5 := hk11.cell 5
                go_upto_region 29 with (fail)
                have bly := below_alloc (Below.refl w11.heap.size w11) (.cells #[.int .i64 p1, .int .i64 p2, .int .i64 p3, .bool p4, .bool p5, .slice A p6.length c] 40)
                have hky := Blk.new w11 40 #[.int .i64 p1, .int .i64 p2, .int .i64 p3, .bool p4, .bool p5, .slice A p6.length c]
                have hsy : (w11.alloc (.cells #[.int .i64 p1, .int .i64 p2, .int .i64 p3, .bool p4, .bool p5, .slice A p6.length c] 40)).heap.size = w11.heap.size + 1 := by simp
                generalize w11.alloc (.cells #[.int .i64 p1, .int .i64 p2, .int .i64 p3, .bool p4, .bool p5, .slice A p6.length c] 40) = wy at *
                have hLy := (hL11.protect bly).sub (Y := fun b => b = w11.heap.size) (fun b hb => .inr (by subst hb; exact ⟨Nat.le_refl _, by omega⟩))
                have hby := below_then hb11 bly
                have hg11 : w3.heap.size ≤ w11.heap.size := hb11.size
                have HTk := Lib.hid (lv_takef hLy hl2)
                obtain ⟨A11, c11, hv11, _, _⟩ := hL11.reads
                rw [List.length_append, List.length_singleton] at hv11 hgl2
                replace hv11 := Lib.hid hv11
                clear hk11 x0 x1 x2 x3 x4 x5 hL11 bly hLy hsy
                go_wp2_with (first
                  | (go_at_call 20; (with_reducible refine HTk.out.mono ?_); rintro e wt ⟨q1, q2, q3, q4, q5, q6, Aq, cq, hpq, rfl, hLt, hmt⟩; have hkt := hky.mod hmt (fun hf => hf.2 rfl); have y0 := hkt.cell 0; have y1 := hkt.cell 1; have y2 := hkt.cell 2; have y3 := hkt.cell 3; have y4 := hkt.cell 4; have y5 := hkt.cell 5; have f0 := hkt.frozen 0; have f1 := hkt.frozen 1; have f2 := hkt.frozen 2; have f3 := hkt.frozen 3; have f4 := hkt.frozen 4; have f5 := hkt.frozen 5))
                have hbt := hby.trans (hmt.below hby.size (fun b hb => hb.1))
                have hmf : Mod (· = w11.heap.size) wt ((((((wt.setCell ⟨w11.heap.size, 0, none⟩ (.int .i64 q1)).setCell ⟨w11.heap.size, 1, none⟩ (.int .i64 q2)).setCell ⟨w11.heap.size, 2, none⟩ (.int .i64 q3)).setCell ⟨w11.heap.size, 3, none⟩ (.bool q4)).setCell ⟨w11.heap.size, 4, none⟩ (.bool q5)).setCell ⟨w11.heap.size, 5, none⟩ (.slice Aq q6.length cq)) := mod_put (mod_put (mod_put (mod_put (mod_put (mod_put (Mod.refl _ _) (fun _ => rfl)) (fun _ => rfl)) (fun _ => rfl)) (fun _ => rfl)) (fun _ => rfl)) (fun _ => rfl)
                have hkf : Blk ((((((wt.setCell ⟨w11.heap.size, 0, none⟩ (.int .i64 q1)).setCell ⟨w11.heap.size, 1, none⟩ (.int .i64 q2)).setCell ⟨w11.heap.size, 2, none⟩ (.int .i64 q3)).setCell ⟨w11.heap.size, 3, none⟩ (.bool q4)).setCell ⟨w11.heap.size, 4, none⟩ (.bool q5)).setCell ⟨w11.heap.size, 5, none⟩ (.slice Aq q6.length cq)) w11.heap.size 40 #[.int .i64 q1, .int .i64 q2, .int .i64 q3, .bool q4, .bool q5, .slice Aq q6.length cq] := by
                  have h := ((((((hkt.set_ 0 (.int .i64 q1)).set_ 1 (.int .i64 q2)).set_ 2 (.int .i64 q3)).set_ 3 (.bool q4)).set_ 4 (.bool q5)).set_ 5 (.slice Aq q6.length cq))
                  simpa using h
                generalize (((((wt.setCell ⟨w11.heap.size, 0, none⟩ (.int .i64 q1)).setCell ⟨w11.heap.size, 1, none⟩ (.int .i64 q2)).setCell ⟨w11.heap.size, 2, none⟩ (.int .i64 q3)).setCell ⟨w11.heap.size, 3, none⟩ (.bool q4)).setCell ⟨w11.heap.size, 4, none⟩ (.bool q5)).setCell ⟨w11.heap.size, 5, none⟩ (.slice Aq q6.length cq) = wu at *
                have hLu := hLt.keepX hmf
                have hbu := hbt.trans (hmf.below hbt.size (fun b hb => by subst hb; exact hg11))
                go_roundw
                case rel => exact ⟨_, _, _, _, w11.heap.size, q1, q2, q3, q4, q5, q6, Aq, cq, rfl, HI2.out, by rw [List.length_set]; exact hrl, rfl, rfl, hpq, hkf, hLu, hbu, hg11⟩
                case measure => rw [hv11.out]; simp only [sliceLen]; omega
              · have hM := hfin hrl.symm
                subst hM
                rw [htk, Option.isSome_none]
                rw [htk] at hL
                have HLt := fun W (hx : Below wr.heap.size wr W) => lv_late (hL.below hx)
                have hl0 := hI.late
                simp only [hl0] at HLt
                replace HLt := Lib.hid HLt
                have HSm := samepks_any (w := wr) cg c3 hrg (HMr.out _ hb) (by omega) (by omega)
                simp only [decide_true] at HSm
                replace HSm := Lib.hid HSm
                clear hpp hkp hL hI htk hfin hl0
                go_wp2_with (first
                  | (go_at_call 27; (with_reducible refine HSm.out.mono ?_); rintro e w12 ⟨rfl, hb12⟩)
                  | (go_at_call 28; (with_reducible refine (HLt.out _ hb12).mono ?_); rintro e w13 ⟨rfl, rfl⟩)
                  | (go_at_call 15; (with_reducible refine (HK.out _).mono ?_); rintro e w14 ⟨rfl, hb14⟩))
                go_ret
                exact ⟨rfl, below_then (below_then (HBB.out.trans (hb.mono hw03)) hb12) hb14⟩
end Go.Proofs.Ytnflhogjonlnmaa.weaveLive
