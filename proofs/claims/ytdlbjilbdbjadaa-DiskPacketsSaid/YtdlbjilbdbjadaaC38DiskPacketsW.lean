/- DiskPackets: the walk. -/
import Derived.Test.YtdlbjilbdbjadaaDpL
import Derived.Test.YtdlbjilbdbjadaaDkTorn
import Derived.Test.YtdlbjilbdbjadaaPgSplit
import Derived.Test.YtdlbjilbdbjadaaJnPut
import Derived.Test.YtdlbjilbdbjadaaPkSames
set_option linter.unusedSimpArgs false
set_option linter.unusedVariables false
namespace Go.Proofs.Ytdlbjilbdbjadaa.diskPackets
open Go.RowKit

theorem upto_run {P : Program} {t e : TypeId} {z : Option Value} {size b : Nat} (ht : P.underlying t = some (.slice e)) (hi : (P.info? e).map (fun i => (i.zero, i.size, i.bytes)) = some (z, size, b))
    {A : Option Addr} {n c k : Nat} (hk : k ≤ n) (hc : n ≤ c) : ∀ w' : World, (Instr.slice t (.slice A n c) none (some (.int .i64 (k : Int))) none).run P w' = .ok (.slice A k c) w' := fun w' => by
  obtain ⟨he, ht'⟩ := elem_of ht
  rw [run_slice_h w' t A n c ht' .i64 k (by omega) (by omega), he, sizeOf_run hi]
  cases A with
  | none => simp [sliced]
  | some ad => simp [sliced, Addr.add]
theorem nL_le (ps : List Pg) : nL ps ≤ ps.length := List.length_filter_le _ _
set_option maxHeartbeats 16000000 in
set_option maxRecDepth 100000 in
theorem walk (w : World) (A0 : Option Addr) (c0 : Nat) (t : List Int) (ht : ∀ x ∈ t, -9223372036854775808 ≤ x ∧ x ≤ 9223372036854775807) (hc : t.length ≤ c0) (h63 : c0 ≤ 9223372036854775807) (hrt : RdI w w.heap.size .i64 A0 t)
    (Ay : Option Addr) (cy : Nat) (syncs : List Bool) (hlc : syncs.length ≤ cy) (hcl : cy ≤ 9223372036854775807) (hlr : RdG BlR 1 w (· < w.heap.size) Ay syncs)
    (A1 : Option Addr) (c1 : Nat) (kept : List Int) (hk : ∀ x ∈ kept, -9223372036854775808 ≤ x ∧ x ≤ 9223372036854775807) (hck : kept.length ≤ c1) (hrk : RdI w w.heap.size .i64 A1 kept) :
    Calls Try.prog 5 #[.slice A0 t.length c0, .slice Ay syncs.length cy, .slice A1 kept.length c1] w fun e w' => e = .returned (.bool true) ∧ Below w.heap.size w w' := by
  have HK := Lib.hid (fun W => known_any W)
  have HT := Lib.hid (newtape_any A0 t c0 ht hc (by omega) w hrt (Nat.le_refl _))
  have HPk := Lib.hid (fun W (hW : TapeB W w.heap.size w.heap.size) => tapepks_any hW 2 ⟨by omega, by omega⟩ 10 (by omega) (by omega))
  have HKp := Lib.hid (fun W (hW : Below w.heap.size w W) => hrk.below hW (Nat.le_refl _))
  have HSy := Lib.hid (fun W (hW : Below w.heap.size w W) => hlr.below BlR.good hW)
  have HKb := Lib.hid hk
  clear ht hrt hrk hk hlr
  by_cases h300 : kept.length ≤ 300
  · have g1 : decide ((300 : Int) < (kept.length : Int)) = false := decide_eq_false (by omega)
    have g2 : decide (300 < kept.length) = false := decide_eq_false (by omega)
    have HN := dnew_any (N := 1024) (by omega) (by omega)
    rw [show ((1024 : Nat) : Int) = 1024 from rfl] at HN
    replace HN := Lib.hid HN
    go_enter Try.func5, Try.ntmps5
    go_upto_region 4 with (first
      | (go_at_call 6; (with_reducible refine HT.out.mono ?_); rintro e w1 ⟨rfl, hT1, hb1⟩)
      | (go_at_call 23; (with_reducible refine (HPk.out _ hT1).mono ?_); rintro e w2 ⟨v2, l, rfl, hll, hTP, ho2, hT2, hg2⟩; obtain ⟨A2, c2, rfl, hc2, hr2⟩ := ho2.reads PkR.good (S := fun b => b < w2.heap.size) (fun b _ hl => hl)))
    have bb2 := below_one hb1 hg2 (Nat.le_refl _)
    have hLay := tape_lay (by omega) hTP
    have hwf : ∀ p ∈ l, p.wf := fun p hp => by
      obtain ⟨j, hj, rfl⟩ := List.getElem_of_mem hp
      obtain ⟨ad, p, Aj, cj, _, _, _, _, _, _, _, _, _, _, _, h⟩ := RdPk.at_ hr2 hj
      exact h
    obtain ⟨hsE, hsP, hsL⟩ := split_ok hTP hLay (by omega)
    have ho4 := offs_le4 hTP l.length (Nat.le_refl _)
    have hGd := pages_good hTP hLay hwf (by omega)
    have HSp := split_any (c := c2) hr2 (by omega) 0 (by omega) (by omega)
    rw [hsE, hsP] at HSp
    have HAt : ∀ (n j : Nat) (hn : n < l.length) (hj : j < nPages (l[n]).bytes), ∃ h9 : offs (l.map Pk.bytes) n + j < (pagesAll 0 (l.map Pk.bytes)).length, (pagesAll 0 (l.map Pk.bytes))[offs (l.map Pk.bytes) n + j] = pageAt (l[n]).bytes (0 + offs (l.map Pk.bytes) n) j := fun n j hn hj => by
      obtain ⟨h9, e⟩ := page_atf 0 (bs := l.map Pk.bytes) (n := n) (j := j) (by rw [List.length_map]; exact hn) (by rw [map_get hn]; exact hj)
      exact ⟨h9, by rw [e, map_get hn]⟩
    generalize pagesAll 0 (l.map Pk.bytes) = P at *
    unfold SplitPost at HSp
    have HGd := Lib.hid hGd
    have HLay := Lib.hid hLay
    replace HAt := Lib.hid HAt
    replace HSp := Lib.hid HSp
    have hl10 : l.length ≤ 10 := by omega
    have hP40 : P.length ≤ 40 := by omega
    replace hsL := Lib.hid hsL
    clear ho2 hT2 hg2 hT1 hb1 HT HPk hTP hLay hwf hsE hsP hGd hll ho4
    go_upto_region 5 with (first
      | (go_at_call 24; (with_reducible refine HSp.out.mono ?_); rintro e w4 ⟨v4, rfl, ho4, hb4⟩; obtain ⟨A4, c4, rfl, hc4, hr4⟩ := ho4.reads PgR.good (S := fun b => b < w4.heap.size) (fun b _ hl => hl)))
    have bb4 := below_then bb2 hb4
    have hr2' := (hr2.below PkR.good hb4).weak PkR.good (S' := fun b => b < w4.heap.size) (fun b hb _ => Nat.lt_of_lt_of_le hb hb4.size)
    have HPs := Lib.hid (fun W (hW : Below w4.heap.size w4 W) => hr4.below PgR.good hW)
    have HLs := Lib.hid (fun W (hW : Below w4.heap.size w4 W) => hr2'.below PkR.good hW)
    have hbs4 := bb4.size
    have HB4 := Lib.hid (fun W (hW : Below w4.heap.size w4 W) => below_then bb4 hW)
    clear ho4 hr4 hr2 hr2' hb4 bb2 HSp bb4
    go_upto_region 8 with (first
      | (go_at_call 7; (with_reducible refine (HN.out _).mono ?_); rintro e w5 ⟨gd, gs, ge, rfl, hD5, hb5⟩))
    have hL5 := log_start (N := 1024) (by omega)
    generalize hs0 : (⟨1024, List.replicate (64 * 1024) 0, List.replicate (64 * 1024) 0, []⟩ : Dk) = s0 at *
    have hn0 : s0.n = 1024 := by rw [← hs0]
    have hq0 : s0.qs.length ≤ 1 := by rw [← hs0]; exact Nat.zero_le _
    have HSt := Lib.hid (start_any hD5 (hL5.good (by simp)) hq0)
    have HL5 := Lib.hid hL5
    clear hs0 hD5 HN hL5 g1 g2
    go_upto_region 11 with (first
      | (go_at_call 8; (with_reducible refine HSt.out.mono ?_); rintro e w6 ⟨gr, rfl, hgr, hR6, hb6⟩))
    have b46 := below_then hb5 hb6
    have HR6 := Lib.hid hR6
    clear hR6 HSt hb6 hgr hb5
    go_wp2_with (fail)
    go_loopw [13, 14, 15] (fun sv nv iv wr => ∃ (i : Nat) (s : Dk) (vq vr : Value) (r : Rc) (H C : List Int) (U : Nat) (sure pend : List Pg), iv = .int .i64 (i : Int) ∧ i ≤ P.length ∧ sure ++ pend = P.take i ∧ LogI s r H C U sure pend ∧ s.n = 1024 ∧ RkM wr w4.heap.size gd gs ge gr vq vr s r ∧ sv = .int .i64 (nL sure : Int) ∧ nv = .int .i64 (nL (P.take i) : Int) ∧ r.used * 64 + r.rest.length ≤ 64 + 330 * i ∧ Below w4.heap.size w4 wr) (fun _ _ iv _ => P.length - natOf iv)
    case atStart => exact ⟨0, s0, _, _, _, _, _, _, [], [], rfl, Nat.zero_le _, by rw [List.take_zero]; rfl, HL5.out, hn0, HR6.out, rfl, by rw [List.take_zero]; rfl, by show 1 * 64 + 0 ≤ _; omega, b46⟩
    case round =>
      clear HL5 HR6 b46
      obtain ⟨i, s, vq, vr, r, H, C, U, sure, pend, rfl, hi, hsp, hL, hn, hR, rfl, rfl, hU, hbr⟩ := hrel
      by_cases hil : i < P.length
      · have hk1 : decide ((i : Int) < (P.length : Int)) = true := decide_eq_true (by omega)
        have hk2 : decide (i < P.length) = true := decide_eq_true hil
        obtain ⟨ad, p, Aj, cj, rfl, hpS, hp, y0, y1, y2, y3, y4, hcj, hrj, _⟩ := RdPg.at_ (HPs.out wr hbr) hil
        have htk : P.take (i + 1) = P.take i ++ [P[i]] := List.take_succ_eq_append_getElem hil
        have hgd := HGd.out i hil
        have hri : r.next = i := by
          have h1 := hL.next
          rw [← List.length_append, hsp, List.length_take, Nat.min_eq_left hi] at h1
          exact h1
        have hnl : nL (P.take (i + 1)) = nL (P.take i) + (if P[i].last = true then 1 else 0) := by rw [htk, nL_snoc]
        have hnle := nL_le (P.take (i + 1))
        rw [List.length_take] at hnle
        generalize P[i] = pg at *
        have hAd := radd_pg (c := cj) hR hL (by rw [hri]; exact hgd) hrj.top (by omega) (by omega)
        have HRx := Lib.hid hR
        have htk' : sure ++ (pend ++ [pg]) = P.take (i + 1) := by rw [htk, ← hsp, List.append_assoc]
        replace htk' := Lib.hid htk'
        generalize nL (P.take i) = n1 at *
        generalize hn2 : nL (P.take (i + 1)) = n2 at *
        obtain ⟨p1, p2, lb, p4, p5⟩ := pg
        simp only at hAd y0 y1 y2 y3 y4 hcj hnl
        replace hAd := Lib.hid hAd
        replace hnl := Lib.hid hnl
        have hHn2 := Lib.hid hn2
        have hpS' : p.block < w4.heap.size := hpS
        have hsw := hbr.size
        clear hR hL hrj hgd htk hn2 hpS
        go_upto_if 76 with (first
          | (go_at_call 12; (with_reducible refine hAd.out.mono ?_); rintro e wa ⟨rfl, vqa, vra, sa, ra, hLa, hna, hsna, hua, hRa, hma, hFa⟩; go_must (have y2a := (World.cell?_of_block (a := ⟨p.block, p.off + 2, none⟩) (hma.block p.block (by omega) (fun e => by have := (HRx.out.lt _ e).1; omega))).trans y2)))
        have hRax := Lib.hid hRa
        have hLax := Lib.hid hLa
        have hbra := hbr.trans (hma.below hsw (fun b hb => (HRx.out.lt b hb).1))
        clear hRa hLa hma hFa hAd HRx
        go_cut [14] (fun v wc => v = .int .i64 (n2 : Int) ∧ wa = wc)
        case first =>
          cases lb with
          | false =>
            have e1 : n1 = n2 := by have := hnl.out; simp at this; omega
            subst e1
            clear y0 y1 y2 y3 y4
            go_wp2_with (fail)
            go_meet
            exact ⟨rfl, rfl⟩
          | true =>
            have e1 : n2 = n1 + 1 := by have := hnl.out; simpa using this
            have q1 : IntKind.i64.wrap ((n1 : Int) + 1) = (n2 : Int) := by rw [IntWalk.i64_in _ (by omega)]; omega
            have e1' := Lib.hid e1
            clear e1 y0 y1 y2 y3 y4
            go_wp2_with (fail)
            go_meet
            exact ⟨rfl, rfl⟩
        case rest =>
          obtain ⟨rfl, rfl⟩ := hcut
          obtain ⟨B, hB⟩ : ∃ B, B = (decide (i < syncs.length) && syncs.getD i false) := ⟨_, rfl⟩
          replace hB := Lib.hid hB
          clear y0 y1 y2 y3 y4 y2a
          go_upto_region 19 with fail
          go_cut [88] (fun a wc => a = .bool B ∧ wa = wc)
          case first =>
            by_cases h1 : i < syncs.length
            · obtain ⟨ab, cs, rfl, _, hcs, hcell⟩ := HSy.out wa (HB4.out _ hbra) i h1
              have z := hcell 0 (.bool syncs[i]) (by rw [hcs]; rfl)
              rw [Nat.mul_one, Nat.add_zero] at z
              have hb' : syncs.getD i false = syncs[i] := by rw [List.getD_eq_getElem?_getD, List.getElem?_eq_getElem h1]; rfl
              have e : B = syncs[i] := by rw [hB.out, hb', decide_eq_true h1]; rfl
              have h1' : decide ((i : Int) < (syncs.length : Int)) = true := decide_eq_true (by omega)
              have h1'' : decide (i < syncs.length) = true := decide_eq_true h1
              clear hcell hcs hb'
              generalize syncs[i] = sb at *
              subst e
              go_wp2
              go_meet
              exact ⟨rfl, rfl⟩
            · have h1' : decide ((i : Int) < (syncs.length : Int)) = false := decide_eq_false (by omega)
              have h1'' : decide (i < syncs.length) = false := decide_eq_false h1
              have e : B = false := by rw [hB.out, h1'']; rfl
              subst e
              go_wp2
              go_meet
              exact ⟨rfl, rfl⟩
          case rest =>
            obtain ⟨rfl, rfl⟩ := hcut
            clear hB
            cases B with
            | false =>
              go_wp2_with (fail)
              go_roundw
              case rel => exact ⟨i + 1, sa, vqa, vra, ra, H, C, U, sure, pend ++ [⟨p1, p2, lb, p4, p5⟩], rfl, by omega, htk'.out, hLax.out, by rw [hsna]; exact hn, hRax.out, rfl, by rw [hHn2.out], by omega, hbra⟩
              case measure => simp [natOf]; omega
            | true =>
              have HSn := Lib.hid (rsync_logX hRax.out hLax.out (by rw [hsna, hn]; omega))
              go_wp2_with (first
                | (go_at_call 13; (with_reducible refine HSn.out.mono ?_); rintro e wb ⟨rfl, vrb, sb, rb, Hb, Cb, Ub, hLb, _, hnb, hsnb, hqb, hub, hRb, hmb, hFb⟩))
              go_roundw
              case rel => exact ⟨i + 1, sb, _, vrb, rb, Hb, Cb, Ub, _, [], rfl, by omega, by rw [List.append_nil]; exact htk'.out, hLb, by rw [hsnb, hsna]; exact hn, hRb, by rw [htk'.out, hHn2.out], by rw [hHn2.out], by omega, hbra.trans (hmb.below (Below.size hbra) (fun b hb => (hRax.out.lt b hb).1))⟩
              case measure => simp [natOf]; omega
      · obtain rfl : i = P.length := by omega
        have hk1 : decide ((P.length : Int) < (P.length : Int)) = false := decide_eq_false (by omega)
        have hk2 : decide (P.length < P.length) = false := decide_eq_false (by omega)
        rw [List.take_length] at hsp
        have hsl : sure.length ≤ P.length := by rw [← hsp, List.length_append]; omega
        have hsg : ∀ k (h : k < sure.length), ∃ h' : k < P.length, sure[k] = P[k] := fun k h => by
          subst hsp
          exact ⟨by omega, (List.getElem_append_left h).symm⟩
        have hqb := hR.qb
        have HCr := Lib.hid (dcrash_log hR.dk hL (by rw [hn] at hqb; omega) A1 c1 kept HKb.out hck (HKp.out _ (HB4.out _ hbr)) hbs4)
        have HRl := Lib.hid (fun b hb => hR.dk.lt b hb)
        have HSg := Lib.hid hsg
        clear hR hL hsp hsg
        go_upto_region 23 with (first
          | (go_at_call 14; (with_reducible refine HCr.out.mono ?_); rintro e w7 ⟨rfl, s7, hL7, hsn7, hq7, hD7, hm7⟩))
        have b47 := hbr.trans (hm7.below (Below.size hbr) (fun b hb => (HRl.out b hb).1))
        have HRc := Lib.hid (recover_log hD7 (hL7.good (by omega)))
        clear hL7 hD7 HCr HRl hm7
        go_upto_region 24 with (first
          | (go_at_call 15; (with_reducible refine HRc.out.mono ?_); rintro e w8 ⟨A8, c8, rfl, hr8, _, hb8⟩))
        have b48 := below_then b47 hb8
        have HNw := Lib.hid (jnew_any 0 (by omega) (by omega) w8)
        have HQs := Lib.hid (fun W (hW : Below w8.heap.size w8 W) => hr8.below PgR.good hW)
        have hs48 := b48.size
        clear hr8 hb8 HRc b47 hbr
        go_upto_region 25 with (first
          | (go_at_call 25; (with_reducible refine HNw.out.mono ?_); rintro e w9 ⟨rfl, hj9, hb9⟩))
        have hgj := hj9.lt
        have HJ9 := Lib.hid hj9
        clear hj9 HNw
        go_wp2_with (fail)
        obtain ⟨wo, rfl⟩ : ∃ wo : World, wo = wr := ⟨_, rfl⟩
        go_loopw [19, 20] (fun v iv wr => ∃ (n j : Nat) (ob : Option Nat) (D : Nat → Prop), iv = .int .i64 ((offs (l.map Pk.bytes) n + j : Nat) : Int) ∧ Plc l n j ∧ offs (l.map Pk.bytes) n + j ≤ sure.length ∧ nL (sure.take (offs (l.map Pk.bytes) n + j)) = n ∧ JnR wr w8.heap.size ob (jsAt 0 (l.map Pk.bytes) n j) ∧
          OwnG PkR 6 86 wr w9.heap.size D v (l.take n) ∧ (∀ b, v.ownBlock = some b → ob ≠ some b) ∧ (∀ b, D b → b < wr.heap.size ∧ b ≠ w8.heap.size ∧ ob ≠ some b) ∧ Below w8.heap.size w8 wr ∧ w9.heap.size ≤ wr.heap.size) (fun _ iv _ => sure.length - natOf iv)
        case atStart => exact ⟨0, 0, none, fun _ => False, by rw [offs_zero]; rfl, Plc.start l, Nat.zero_le _, by rw [offs_zero]; rfl, by rw [jsAt_zero, offs_zero]; exact HJ9.out, OwnG.nil_ _ _ _ _ _ _, fun b hb => (by cases hb), fun b hb => hb.elim, hb9, Nat.le_refl _⟩
        case round =>
          clear HJ9
          obtain ⟨n, j, ob, D, rfl, hP, hle, hnl, hJ, hown, hvo, hDo, hb, hb99⟩ := hrel
          obtain ⟨Ag, cg, rfl, hcg, hrg, hog⟩ := hown.form PkR.good
          have htn : (l.take n).length = n := by rw [List.length_take, Nat.min_eq_left hP.le]
          rw [htn] at hown hvo hcg hog hrg ⊢
          have hn10 := hP.le
          by_cases his : offs (l.map Pk.bytes) n + j < sure.length
          · have hnl9 : n < l.length := by
              rcases Nat.lt_or_ge n l.length with h9 | h9
              · exact h9
              · have h8 : n = l.length := by omega
                have h7 := hP.z h8
                have h6 := hsL.out
                subst h8
                omega
            obtain ⟨h9, e9⟩ := HAt.out n j hnl9 (hP.lt hnl9)
            obtain ⟨h8, e8⟩ := HSg.out _ his
            obtain ⟨n', j', ys, hput, hP', htk', hofs', hn', hys⟩ := put_step HLay.out hP hnl9 (by omega)
            have he : sure[offs (l.map Pk.bytes) n + j] = pageAt (l[n]).bytes (0 + offs (l.map Pk.bytes) n) j := e8.trans e9
            rw [← he] at hput hn'
            have htks : sure.take (offs (l.map Pk.bytes) n + j + 1) = sure.take (offs (l.map Pk.bytes) n + j) ++ [sure[offs (l.map Pk.bytes) n + j]] := List.take_succ_eq_append_getElem his
            have hnl' : nL (sure.take (offs (l.map Pk.bytes) n + j + 1)) = n' := by rw [htks, nL_snoc, hnl, ← hn']
            have hlay := layOk_len (HLay.out _ (List.getElem_mem hnl9))
            have hbl := bytes_len l[n]
            clear he e8 e9 htks hn'
            obtain ⟨i, hi⟩ : ∃ i, offs (l.map Pk.bytes) n + j = i := ⟨_, rfl⟩
            simp only [hi] at his hput hnl' hofs' hle
            rw [hi]
            obtain ⟨ad, p, Aj, cj, rfl, hpS, hp, y0, y1, y2, y3, y4, hcj, hrj, hwj⟩ := RdPg.at_ (HQs.out wr hb) his
            have hob := hJ.own
            have HJ := jput_any hJ (by simp [jsAt]) (by simp only [jsAt, List.length_take, List.getD_eq_getElem?_getD, List.getElem?_map, List.getElem?_eq_getElem hnl9, Option.map_some, Option.getD_some]; omega) sure[i] Aj cj hwj hrj (fun b hb9 _ => ⟨by have := hb9.2; omega, fun e => by have := hb9.2; have := (hob b e).1; omega⟩) hcj
            rw [hput] at HJ
            unfold PutPost at HJ
            generalize sure[i] = pg at *
            obtain ⟨p1, p2, p3, p4, p5⟩ := pg
            simp only at y0 y1 y2 y3 y4 hcj
            simp only [Pg.val, List.length_nil] at HJ
            replace HJ := Lib.hid HJ
            have hk5 : decide ((i : Int) < (sure.length : Int)) = true := decide_eq_true (by omega)
            have hk6 : decide (i < sure.length) = true := decide_eq_true his
            have HOw := Lib.hid hown
            have HJr := Lib.hid hJ
            have hgw := hJ.lt
            have hbs := hb.size
            have HTk := Lib.hid htk'
            have HHi := Lib.hid hi
            have HHo := Lib.hid hofs'
            have HNl := Lib.hid hnl'
            clear hJ hown hrj hwj hput hrg htk' hi hofs' hnl' hnl hP hpS htn
            go_upto_region 34 with (first
              | (go_at_call 26; (with_reducible refine HJ.out.mono ?_); rintro e w10 ⟨A9, c9, A10, c10, ob', rfl, hc9, hc10, hj10, hx10, hh10, hm10, hob10⟩))
            have hs10 := hm10.size
            have hown10 := (HOw.out.keep PkR.good hm10 (fun b hb _ e => by
              rcases e with e | e
              · exact (hDo b hb).2.1 e
              · exact (hDo b hb).2.2 e) (fun b hb e => by
              rcases e with e | e
              · have := (hog b hb).1; omega
              · exact hvo b hb e)).weak PkR.good (D' := fun b => D b ∨ (wr.heap.size ≤ b ∧ b < w10.heap.size ∧ ob' ≠ some b)) (fun b hb _ => .inl hb)
            have hx10' : RdPk w10 (fun b => wr.heap.size ≤ b ∧ b < w10.heap.size ∧ ob' ≠ some b) A9 ys := hx10.weak PkR.good (fun b hb hl => ⟨hb.1, hl, hb.2⟩)
            have hD10 : ∀ b, (D b ∨ (wr.heap.size ≤ b ∧ b < w10.heap.size ∧ ob' ≠ some b)) → b < w10.heap.size := fun b hb => by
              rcases hb with hb | hb
              · have := (hDo b hb).1; omega
              · exact hb.2.1
            have hj10o := hj10.own
            have HJ10 := Lib.hid hj10
            have hb10 := hb.trans (hm10.below hbs (fun b hb => by
              rcases hb with hb | hb
              · omega
              · have := (hob b hb).1; omega))
            have htl : (l.take n).length = n := by rw [List.length_take, Nat.min_eq_left hn10]
            have htl' := Lib.hid htl
            clear hj10 hh10 hx10 htl HJ
            go_wp2_with (first
              | (at_builtin; go_must (refine wpList_append_G (v := .slice Ag n cg) rfl (.tmp 125) (.tmp 126) _ rfl PkR.good w10 (.agg #[.int .i64 0, .int .i64 0, .int .i64 0, .bool false, .bool false, .slice none 0 0]) 56 Try.underlying54 info_pk rfl (by omega) rfl hown10 (fun b => wr.heap.size ≤ b ∧ b < w10.heap.size ∧ ob' ≠ some b) A9 c9 ys.length ys rfl rfl hx10' (fun b hb _ => .inr hb) (fun b hb h => by have h8 := (hog b hb).2; have h7 := h.1; omega) hD10 (by rw [htl'.out]; omega) (by omega) ?_); intro v11 w11 ow11 hg11 hv11))
            have hs11 := hg11.size
            have hM11 : Mod (fun b => (Value.slice Ag n cg).ownBlock = some b) w10 w11 := Mod.of_grown hg11 (fun b e _ => e)
            rw [← HTk.out] at ow11
            go_roundw
            case rel => exact ⟨n', j', ob', _, by have := HHi.out; have := HHo.out; first | rfl | (rw [HHo.out]; go_num) | (rw [HHo.out]; simp), hP', by have := HHo.out; omega, by rw [HHo.out]; exact HNl.out, HJ10.out.keep hM11 (fun e => by have := (hog _ e).1; omega) (fun b hb e => by
              have h7 := (hog b e).2
              rcases hob10 b hb with h6 | h6
              · exact hvo b e h6
              · omega), ow11, fun b hb e => by
              rcases hv11 with h6 | h6
              · rw [hb] at h6
                rcases hob10 b e with h5 | h5
                · exact hvo b h6.symm h5
                · have := (hog b h6.symm).2; omega
              · rw [hb] at h6
                have h5 := Option.some.inj h6
                have := (hj10o b e).2; omega, fun b hb => by
              rcases hb with hb | hb
              · refine ⟨by have := (hDo b hb).1; omega, (hDo b hb).2.1, fun e => ?_⟩
                rcases hob10 b e with h5 | h5
                · exact (hDo b hb).2.2 h5
                · have := (hDo b hb).1; omega
              · exact ⟨by have := hb.2.1; omega, by have := hb.1; omega, hb.2.2⟩, hb10.trans (hM11.below (Below.size hb10) (fun b hb => by have := (hog b hb).1; omega)), by omega⟩
            case measure => have := HHi.out; simp [natOf]; omega
          · have hin : offs (l.map Pk.bytes) n + j = sure.length := by omega
            have hnls : nL sure = n := by rw [hin, List.take_length] at hnl; exact hnl
            have hk5 : decide ((sure.length : Int) < (sure.length : Int)) = false := decide_eq_false (by omega)
            have hk6 : decide (sure.length < sure.length) = false := decide_eq_false (by omega)
            rw [hin, hnls]
            have hrl := (HLs.out wr (b48.trans (hb.mono hs48))).take n
            have hup := upto_run (P := Try.prog) Try.underlying54 info_pk (A := A2) hn10 hc2
            have HSm := samepks_any cg c2 hrg hrl (by omega) (by omega)
            rw [htn, decide_eq_true rfl] at HSm
            replace HSm := Lib.hid HSm
            have hf1 : decide ((n : Int) ≤ (n : Int)) = true := decide_eq_true (Int.le_refl _)
            have hf2 : decide ((n : Int) ≤ (l.length : Int)) = true := decide_eq_true (by omega)
            have HJr := Lib.hid (fun W (hW : Below wr.heap.size wr W) => jbroken_any (hJ.below hW))
            have hbw := HB4.out _ (b48.trans (hb.mono hs48))
            clear hJ hown hrg hrl hnl hin htn hnls
            go_wp2_with (first
              | (go_at_call 27; (with_reducible refine HSm.out.mono ?_); rintro e w12 ⟨rfl, hb12⟩)
              | (go_at_call 28; (with_reducible refine (HJr.out _ hb12).mono ?_); rintro e w13 ⟨rfl, rfl⟩)
              | (go_at_call 17; (with_reducible refine (HK.out _).mono ?_); rintro e w14 ⟨rfl, hb14⟩))
            go_ret
            exact ⟨rfl, below_then (below_then hbw hb12) hb14⟩
  · have g1 : decide ((300 : Int) < (kept.length : Int)) = true := decide_eq_true (by omega)
    have g2 : decide (300 < kept.length) = true := decide_eq_true (by omega)
    go_enter Try.func5, Try.ntmps5
    go_wp2_with (fail)
    go_ret
    exact ⟨rfl, Below.refl _ _⟩
end Go.Proofs.Ytdlbjilbdbjadaa.diskPackets
