/- MendJoins: the walk. -/
import Derived.Test.YtdnkdjaokmibjaaMdKn
import Derived.Test.YtdnkdjaokmibjaaMdJn
import Derived.Test.YtdnkdjaokmibjaaDpP
import Derived.Test.YtdnkdjaokmibjaaPgSplit
import Derived.Test.YtdnkdjaokmibjaaJnPut
set_option linter.unusedSimpArgs false
set_option linter.unusedVariables false
namespace Go.Proofs.Ytdnkdjaokmibjaa.mendJoins
open Go.RowKit

/-- which places are left out -/
def lostB (lost : List Int) (i : Nat) : Bool := decide (i / 9 < lost.length) && decide (((i % 9 : Nat) : Int) = withinV (lost.getD (i / 9) 0) 0 8)
theorem lostB_one (lost : List Int) : ∀ i j, i / 9 = j / 9 → lostB lost i = true → lostB lost j = true → i = j := by
  intro i j hij hi hj
  simp only [lostB, Bool.and_eq_true, decide_eq_true_eq] at hi hj
  have h1 := hi.2
  have h2 := hj.2
  rw [← hij] at h2
  have : ((i % 9 : Nat) : Int) = ((j % 9 : Nat) : Int) := h1.trans h2.symm
  omega
theorem num_ok {l : List Pg} (h : Num l) : gAll l = true := gAll_iff.2 fun i hi => by
  have h1 := h i hi
  refine ⟨by rw [gOk_at hi]; exact h1.ok, by rw [gOk_at hi]; exact h1.g, fun h0 => ?_⟩
  rw [gOk_at hi, gOk_at (by omega), h.seq hi, h.seq (by omega)]; omega
theorem num_guard {l : List Pg} (h : Num l) : guardE l = 0 ∧ guardP l = guarded l := by rw [guardE, guardP, num_ok h]; exact ⟨rfl, rfl⟩
theorem keep_sub {g : List Pg} {L : Nat → Bool} : ∀ p ∈ keepL g L g.length, p ∈ g := fun p hp => by
  obtain ⟨i, hi, _, rfl⟩ := keepL_mem.1 hp
  exact List.getElem_mem hi

set_option maxHeartbeats 16000000 in
set_option maxRecDepth 100000 in
theorem walk (w : World) (A0 : Option Addr) (c0 : Nat) (t : List Int) (ht : ∀ x ∈ t, -9223372036854775808 ≤ x ∧ x ≤ 9223372036854775807) (hc : t.length ≤ c0) (h63 : c0 ≤ 9223372036854775807) (hrt : RdI w w.heap.size .i64 A0 t)
    (A1 : Option Addr) (c1 : Nat) (lost : List Int) (hk : ∀ x ∈ lost, -9223372036854775808 ≤ x ∧ x ≤ 9223372036854775807) (hck : lost.length ≤ c1) (hrk : RdI w w.heap.size .i64 A1 lost)
    (Az : Option Addr) (cz : Nat) (z : List Int) (hz : ∀ x ∈ z, 0 ≤ x ∧ x ≤ 255) (hcz : z.length ≤ cz) (hrz : RdI w w.heap.size .u8 Az z) :
    Calls Try.prog 7 #[.slice A0 t.length c0, .slice A1 lost.length c1, .slice Az z.length cz] w fun e w' => e = .returned (.bool true) ∧ Below w.heap.size w w' := by
  by_cases h40 : z.length ≤ 40
  · have g1 : decide ((40 : Int) < (z.length : Int)) = false := decide_eq_false (by omega)
    have HK := Lib.hid (fun W => known_any W)
    have HT := Lib.hid (newtape_any A0 t c0 ht hc (by omega) w hrt (Nat.le_refl _))
    have HPk := Lib.hid (fun W (hW : TapeB W w.heap.size w.heap.size) => tapepks_any hW 3 ⟨by omega, by omega⟩ 9 (by omega) (by omega))
    have HLo := Lib.hid (fun W (hW : Below w.heap.size w W) => hrk.below hW (Nat.le_refl _))
    have HBt := Lib.hid (fun W (hW : Below w.heap.size w W) => hrz.below hW (Nat.le_refl _))
    have HLb := Lib.hid hk
    have HZb := Lib.hid (show byteB z from hz)
    clear ht hrt hrk hk hrz hz
    go_enter Try.func7, Try.ntmps7
    go_upto_region 4 with (first
      | (go_at_call 8; (with_reducible refine HT.out.mono ?_); rintro e w1 ⟨rfl, hT1, hb1⟩)
      | (go_at_call 22; (with_reducible refine (HPk.out _ hT1).mono ?_); rintro e w2 ⟨v2, l, rfl, hll, hTP, ho2, hT2, hg2⟩; obtain ⟨A2, c2, rfl, hc2, hr2⟩ := ho2.reads PkR.good (S := fun b => b < w2.heap.size) (fun b _ hl => hl)))
    have bb2 := below_one hb1 hg2 (Nat.le_refl _)
    have hLay := tape_lay (by omega) hTP
    have hwf : ∀ p ∈ l, p.wf := fun p hp => by
      obtain ⟨j, hj, rfl⟩ := List.getElem_of_mem hp
      obtain ⟨ad, p, Aj, cj, _, _, _, _, _, _, _, _, _, _, _, h⟩ := RdPk.at_ hr2 hj
      exact h
    obtain ⟨hsE, hsP, hsL⟩ := split_ok hTP hLay (by omega)
    have ho4 := offs_le4 hTP l.length (Nat.le_refl _)
    have hGd := pages_good hTP hLay hwf (by omega)
    have hNum : Num (pagesAll 0 (l.map Pk.bytes)) := fun i hi => by rw [Nat.zero_add]; exact hGd i hi
    have HSp := split_any (c := c2) hr2 (by omega) 0 (by omega) (by omega)
    rw [hsE, hsP] at HSp
    have HAt : ∀ (n j : Nat) (hn : n < l.length) (hj : j < nPages (l[n]).bytes), ∃ h9 : offs (l.map Pk.bytes) n + j < (pagesAll 0 (l.map Pk.bytes)).length, (pagesAll 0 (l.map Pk.bytes))[offs (l.map Pk.bytes) n + j] = pageAt (l[n]).bytes (0 + offs (l.map Pk.bytes) n) j := fun n j hn hj => by
      obtain ⟨h9, e⟩ := page_atf 0 (bs := l.map Pk.bytes) (n := n) (j := j) (by rw [List.length_map]; exact hn) (by rw [map_get hn]; exact hj)
      exact ⟨h9, by rw [e, map_get hn]⟩
    generalize pagesAll 0 (l.map Pk.bytes) = P at *
    unfold SplitPost at HSp
    have HLay := Lib.hid hLay
    replace HAt := Lib.hid HAt
    replace HSp := Lib.hid HSp
    have hl10 : l.length ≤ 9 := by omega
    have hP40 : P.length ≤ 36 := by omega
    replace hsL := Lib.hid hsL
    replace hNum := Lib.hid hNum
    have HR2 := Lib.hid (fun W (h : Below w2.heap.size w2 W) => hr2.below PkR.good h)
    clear ho2 hT2 hg2 hT1 hb1 HT HPk hTP hLay hwf hsE hsP hGd hll ho4 hr2
    go_upto_region 5 with (first
      | (go_at_call 23; (with_reducible refine HSp.out.mono ?_); rintro e w3 ⟨v3, rfl, ho3, hb3⟩; obtain ⟨A3, c3, rfl, hc3, hr3⟩ := ho3.reads PgR.good (S := fun b => b < w3.heap.size) (fun b _ hl => hl)))
    have bb3 := below_then bb2 hb3
    obtain ⟨hgE, hgP⟩ := num_guard hNum.out
    have HGu := mdguard_any (c := c3) hr3 (by omega) hc3
    rw [hgE, hgP] at HGu
    replace HGu := Lib.hid HGu
    have hgl := guarded_len (l := P)
    have hng : nGrp P ≤ 5 := by unfold nGrp; omega
    have hgl2 : (guarded P).length ≤ 41 := by omega
    have HGok := Lib.hid (guarded_ok hNum.out (by omega))
    have HR23 := Lib.hid (fun W (h : Below w3.heap.size w3 W) => HR2.out W (hb3.trans (h.mono hb3.size)))
    clear hgE hgP ho3 hr3 hgl hng HR2 hb3 HSp
    go_upto_region 8 with (first
      | (go_at_call 10; (with_reducible refine HGu.out.mono ?_); rintro e w4 ⟨v4, rfl, ho4, hb4⟩; obtain ⟨A4, c4, rfl, hc4, hr4⟩ := ho4.reads PgR.good (S := fun b => b < w4.heap.size) (fun b _ hl => hl)))
    have bb4 := below_then bb3 hb4
    have HRG := Lib.hid (fun W (h : Below w4.heap.size w4 W) => hr4.below PgR.good h)
    have HRL := Lib.hid (fun W (h : Below w4.heap.size w4 W) => HR23.out W (hb4.trans (h.mono hb4.size)))
    have HLo4 := Lib.hid (fun W (h : Below w4.heap.size w4 W) => HLo.out W (bb4.trans (h.mono bb4.size)))
    have HBt4 := Lib.hid (fun W (h : Below w4.heap.size w4 W) => HBt.out W (bb4.trans (h.mono bb4.size)))
    have HGw := Lib.hid (show ∀ p ∈ guarded P, p.wf from fun p hp => by
      obtain ⟨x, hx, rfl⟩ := List.getElem_of_mem hp
      obtain ⟨_, _, _, _, _, _, _, _, _, _, _, _, _, _, hwf⟩ := RdPg.at_ hr4 hx
      exact hwf)
    have hsw4 := bb4.size
    clear HGu HLo HBt ho4 hr4 HR23 bb3 bb2 hb4
    have HL1 := Lib.hid (fun (i : Nat) (h : lostB lost i = true) => keepL_out (g := guarded P) (L := lostB lost) (m := i) h)
    have HL0 := Lib.hid (fun (i : Nat) (h : lostB lost i = false) (hi : i < (guarded P).length) => keepL_in (g := guarded P) (L := lostB lost) (m := i) hi h)
    have HLl := Lib.hid (fun i => keepL_len (guarded P) (lostB lost) i)
    have HLd := Lib.hid (show ∀ i, lostB lost i = (decide (i / 9 < lost.length) && decide (((i % 9 : Nat) : Int) = withinV (lost.getD (i / 9) 0) 0 8)) from fun _ => rfl)
    have HKp := Lib.hid (show ∀ p ∈ keepL (guarded P) (lostB lost) (guarded P).length, p ∈ guarded P from keep_sub)
    have HKm := Lib.hid (show ∀ ys : List Pg, ys.Perm (mendO (keepL (guarded P) (lostB lost) (guarded P).length)) → ys.Pairwise (fun a b => a.seq ≤ b.seq) → ys = P ∧ holesP ys (mendT (keepL (guarded P) (lostB lost) (guarded P).length)) = [] from fun ys hp ho =>
      mend_whole hNum.out (by omega) (left_keep hNum.out _ fun x => Iff.rfl) (left_one hNum.out (lostB_one lost) fun x => Iff.rfl) hp ho)
    have HLn : ∀ s : List Pg, (∀ p ∈ s, p ∈ guarded P) → s.length ≤ 41 → byteB (layd s z) ∧ (layd s z).length ≤ 12587 := fun s hs h41 => by
      have h1 := pgbs_bytes (g := s) (fun p hp => HGok.out p (hs p hp)) (fun p hp => HGw.out p (hs p hp))
      have h2 := bys_len (l := s) (fun p hp => (pgOk_len (HGok.out p (hs p hp))).2)
      have h3 := layd_len s z
      have h4 : s.length * z.length ≤ 41 * 40 := Nat.mul_le_mul h41 h40
      exact ⟨layd_bytes h1 HZb.out, by omega⟩
    replace HLn := Lib.hid HLn
    clear hNum
    have HKs := Lib.hid (show ∀ i, ∀ p ∈ keepL (guarded P) (lostB lost) i, i ≤ (guarded P).length → p ∈ guarded P from fun i p hp hi => by
      obtain ⟨m, hm, rfl⟩ := List.mem_map.1 hp
      have hm := List.mem_range.1 (List.mem_filter.1 hm).1
      rw [List.getD_eq_getElem?_getD, List.getElem?_eq_getElem (by omega)]
      exact List.getElem_mem _)
    generalize guarded P = g at *
    go_wp2
    go_loopw [12, 13, 14] (fun bv lv iv wr => ∃ i : Nat, i ≤ g.length ∧ iv = .int .i64 i ∧ BlM wr w4.heap.size bv lv (layd (keepL g (lostB lost) i) z) (keepL g (lostB lost) i) ∧ Below w4.heap.size w4 wr) (fun _ _ iv _ => g.length - (intOf iv).toNat)
    case atStart => exact ⟨0, Nat.zero_le _, rfl, BlM.nil _ _, Below.refl _ _⟩
    case round =>
      obtain ⟨i, hi, rfl, hown, hbr⟩ := hrel
      have HOw := Lib.hid hown
      have hszr := hbr.size
      clear hown
      by_cases hlt : i < g.length
      · obtain ⟨k, hk⟩ : ∃ k, i / 9 = k := ⟨_, rfl⟩
        obtain ⟨m, hm⟩ : ∃ m, i % 9 = m := ⟨_, rfl⟩
        have htd : (i : Int).tdiv 9 = (k : Int) := by rw [← hk]; rfl
        have htm : (i : Int).tmod 9 = (m : Int) := by rw [← hm]; rfl
        have hld := HLd.out i
        rw [hk, hm] at hld
        have HL1i := Lib.hid (HL1.out i)
        have HL0i := Lib.hid (fun h => HL0.out i h hlt)
        have hkl := HLl.out i
        have HLni := Lib.hid (HLn.out (keepL g (lostB lost) i) (fun p hp => HKs.out i p hp hi) (by omega))
        have hk4 : k ≤ 100 := by omega
        have hm9 : m ≤ 8 := by omega
        have hwk : IntKind.i64.wrap (k : Int) = (k : Int) := IntWalk.i64_in _ (by omega)
        clear hk hm
        go_upto_region 14 with fail
        go_cut [70] (fun v wc => v = .bool (lostB lost i) ∧ wr = wc)
        case first =>
          by_cases hkl2 : k < lost.length
          · obtain ⟨al, rfl, hal, x0⟩ := (HLo4.out _ hbr).at_ hkl2
            rw [decide_eq_true hkl2, Bool.true_and] at hld
            have hb := HLb.out (lost.getD k 0) (by rw [List.getD_eq_getElem?_getD, List.getElem?_eq_getElem hkl2]; exact List.getElem_mem hkl2)
            have HWi := Lib.hid (within_any (lost.getD k 0) 0 8 hb.1 hb.2 (by omega) (by omega) (by omega) wr)
            generalize withinV (lost.getD k 0) 0 8 = y at *
            generalize lost.getD k 0 = x at *
            have hdd : ((m : Int) == y) = decide ((m : Int) = y) := by
              by_cases h9 : (m : Int) = y
              · rw [decide_eq_true h9, h9]; simp
              · rw [decide_eq_false h9, beq_eq_false_iff_ne]; exact h9
            have HLd2 := Lib.hid hld
            clear hld
            go_wp2_with (first
              | (go_at_call 11; (with_reducible refine HWi.out.mono ?_); rintro e w5 ⟨rfl, rfl⟩))
            go_meet
            exact ⟨by rw [HLd2.out], rfl⟩
          · rw [decide_eq_false hkl2, Bool.false_and] at hld
            have HLd2 := Lib.hid hld
            clear hld
            go_wp2
            go_meet
            exact ⟨by rw [HLd2.out], rfl⟩
        case rest =>
          obtain ⟨rfl, rfl⟩ := hcut
          clear hld
          cases hLi : lostB lost i with
          | true =>
            have HS := Lib.hid (HL1i.out hLi)
            go_wp2
            go_roundw
            case rel => exact ⟨i + 1, by omega, by go_num, by rw [HS.out]; exact HOw.out, hbr⟩
            case measure => simp [intOf]; omega
          | false =>
            have HS := Lib.hid (HL0i.out hLi)
            have hin : g[i] ∈ g := List.getElem_mem hlt
            have hok := HGok.out _ hin
            have hbl := (pgOk_len hok).2
            obtain ⟨ad, p, Aj, cj, rfl, hpS, hp, e0, e1, e2, e3, e4, hcj, hrj, hwj⟩ := RdPg.at_ (HRG.out _ hbr) hlt
            have HBy := pgbytes_any g[i] Aj cj hwj wr hrj.top
            have hpe : pgE g[i] = 0 := by rw [pgE, if_pos hok]
            have hpb : pgB g[i] = pgBytes g[i] := by rw [pgB, if_pos hpe]
            have hpl := pgb_len g[i]
            rw [hpe, hpb] at HBy
            generalize keepL g (lostB lost) i = xs at *
            have HLn1 := Lib.hid (layd_snoc xs g[i] z)
            obtain ⟨hB0, hB1⟩ := HLni.out
            generalize layd xs z = X at *
            generalize pgBytes g[i] = Y at *
            clear hpe hpb hin hok HLni
            generalize hq : g[i] = q at *
            obtain ⟨q1, q2, q3, q4, q5⟩ := q
            simp only at e0 e1 e2 e3 e4 hcj hrj hbl hpl
            simp only [Pg.val] at HBy
            replace HBy := Lib.hid HBy
            have Hq := Lib.hid hq
            have hYl : Y.length ≤ 267 := by omega
            clear hrj hwj hq hpl
            go_upto_region 18 with (first
              | (go_at_call 24; (with_reducible refine HBy.out.mono ?_); rintro e w5 ⟨v5, rfl, ho5, hb5⟩; obtain ⟨A5, c5, rfl, hc5, hr5, _⟩ := ho5.form))
            have HOw5 := Lib.hid (HOw.out.below hb5)
            have hbr5 := hbr.trans (hb5.mono hszr)
            have hs5 := hbr5.size
            clear ho5
            go_upto_region 19 with (first
              | (at_builtin; refine wpList_append_int2 _ rfl (.tmp 81) (.tmp 82) _ rfl w4 w4.heap.size w4.heap.size 5 .u8 1 Try.underlying31 info_u8 _ X rfl HOw5.out.b _ A5 Y.length c5 Y rfl rfl hr5 (by omega) (by omega) hbr5 (Nat.le_refl _) hs5 ?_; intro v6 w6 ow6 bw6 hg6 hv6)
              | (at_builtin; refine wpList_append_int2 _ rfl (.tmp 83) (.tmp 84) _ rfl w4 w4.heap.size w4.heap.size 5 .u8 1 Try.underlying31 info_u8 _ (X ++ Y) rfl ow6 _ Az z.length cz z rfl rfl (HBt4.out _ bw6) (by simp; omega) (by omega) bw6 (Nat.le_refl _) bw6.size ?_; intro v7 w7 ow7 bw7 hg7 hv7))
            have hB7 := (HOw5.out.app hg6 ow6 hv6).app hg7 ow7 hv7
            obtain ⟨_, p2, Aj2, cj2, hA, hpS2, hp2, f0, f1, f2, f3, f4, hcj2, hrj2, hwj2⟩ := RdPg.at_ (HRG.out _ bw7) hlt
            cases hA
            rw [hp] at hp2
            subst hp2
            rw [Hq.out] at f0 f1 f2 f3 f4 hcj2 hrj2 hwj2
            simp only at f0 f1 f2 f3 f4 hcj2 hrj2
            have hs7 := bw7.size
            have hob7' := Lib.hid (World.ownsRow.lt hB7.b)
            have hol' := Lib.hid hB7.l.own_ge
            have HB7 := Lib.hid hB7
            clear e0 e1 e2 e3 e4 ow6 ow7 bw6 hg6 hv6 hg7 hv7 hr5 hB7
            go_wp2_with (first
              | (at_builtin; (refine wpList_push_G rfl (.tmp 86) (.tmp 91) _ rfl PgR.good w7 (.agg #[.int .i64 0, .bool false, .bool false, .bool false, .slice none 0 0]) 40 Try.underlying23 info_pg rfl (by omega) rfl HB7.out.l (fun x => x < w4.heap.size) _ 1 [.int .i64 q1, .bool q2, .bool q3, .bool q4, .slice Aj2 q5.length cj2] ⟨q1, q2, q3, q4, q5⟩ rfl rfl (show PgR _ _ _ _ from ⟨Aj2, cj2, rfl, hcj2, hrj2, hwj2⟩) (fun x => x ≤ w7.heap.size ∧ v7.ownBlock ≠ some x) (fun x hx _ => ⟨Nat.le_of_lt hx.1, hx.2⟩) (fun x hx _ => ⟨Nat.le_of_lt (Nat.lt_of_lt_of_le hx hs7), fun e => by have h8 : x < w4.heap.size := hx; have := (hob7'.out x e).1; omega⟩) (fun x hx h => by have := (hol'.out x hx).1; have h' : x < w4.heap.size := h; omega) (fun x hx => hx.1) ⟨Nat.le_refl _, fun e => by have := (hob7'.out _ e).2; omega⟩ (by omega) hs7 ?_); intro v8 w8 ow8 hg8 hv8))
            have hB8 := HB7.out.push hg8 ow8 hv8
            have hb78 : Below w4.heap.size w7 w8 := Below.grown (below_alloc (Below.refl w7.heap.size w7) _ |>.mono hs7) hg8 (by simp; omega) (fun x hx => (hol'.out x hx).1)
            go_roundw
            case rel => exact ⟨i + 1, by omega, by go_num, by rw [HS.out, HLn1.out]; exact hB8, bw7.trans hb78⟩
            case measure => simp [intOf]; omega
      · have hil : i = g.length := by omega
        subst hil
        have hsl := HLl.out g.length
        have hHLs := HLn.out (keepL g (lostB lost) g.length) HKp.out (by omega)
        clear HL1 HL0 HLl HLd HLo4 HLb HBt4 HKs HLn HRG HGok HGw HKp
        generalize keepL g (lostB lost) g.length = s at *
        have HPa := Lib.hid (fun (n : Nat) (h : ScanEnd (layd s z) s n) => scan_passed hHLs.1 h)
        obtain ⟨hXb, hXl⟩ := hHLs
        generalize layd s z = X at *
        replace hXb := Lib.hid hXb
        have hs41 : s.length ≤ 41 := by omega
        obtain ⟨wq, rfl⟩ : ∃ wq : World, wq = wr := ⟨_, rfl⟩
        obtain ⟨Ab, cb, rfl, hcb, hrb, _⟩ := HOw.out.b.form
        obtain ⟨Al, cl, rfl, hcl, hrl⟩ := HOw.out.l.reads PgR.good (S := fun x => x < wq.heap.size) (fun x _ h => h)
        have HCl := Lib.hid (clean_any hrb (Nat.le_refl _) hXb.out hcb (by omega) cl hrl (by omega))
        have HSc := Lib.hid (fun W (h : Below wq.heap.size wq W) => mdscan_any (hrb.below h (Nat.le_refl _)) h.size hXb.out hcb (by omega))
        have hbq := bb4.trans (hbr.mono hsw4)
        have hmul : s.length * z.length ≤ 41 * 40 := Nat.mul_le_mul hs41 h40
        clear hrb hrl HOw
        go_upto_if 96 with (first
          | (go_at_call 20; (with_reducible refine HCl.out.mono ?_); rintro e w12 ⟨l', n', hsE, rfl, b12⟩))
        have bw12 := below_then hbq b12
        have HSE := Lib.hid hsE
        clear hsE
        by_cases hcls : l' = s
        · rw [decide_eq_true hcls]
          subst hcls
          have bq12 := hbr.trans (b12.mono hszr)
          go_upto_region 23 with (first
            | (go_at_call 21; (with_reducible refine (HSc.out _ b12).mono ?_); rintro e w13 ⟨v13, l13, n13, rfl, hsE, hl13, o13, b13⟩))
          obtain ⟨e13, e13n⟩ := hsE.unique HSE.out
          subst e13
          have hn13 := HPa.out n13 hsE
          have hwm : IntKind.i64.wrap ((l13.length : Int) * (z.length : Int)) = (n13 : Int) := by
            rw [IntWalk.i64_in _ (by rw [← Int.natCast_mul]; omega), hn13]; exact (Int.natCast_mul _ _).symm
          obtain ⟨A13, c13, rfl, _, r13⟩ := o13.reads PgR.good (S := fun b => b < w13.heap.size) (fun b _ hl => hl)
          have HMe := Lib.hid (mend_any (c := c13) r13 (by omega))
          have bw13 := below_then bw12 b13
          have bq13 := bq12.trans (b13.mono bq12.size)
          clear hsE hl13 o13 r13 e13n hn13 HSE HCl HSc
          go_upto_region 24 with (first
            | (go_at_call 12; (with_reducible refine HMe.out.mono ?_); rintro e w8 ⟨v14, v15, ys, rfl, hp14, hs14, ho14, ho15, hb14⟩))
          obtain ⟨rfl, hh14⟩ := HKm.out ys hp14 hs14
          rw [hh14] at ho15
          obtain ⟨A14, c14, rfl, hc14, hr8⟩ := ho14.reads PgR.good (S := fun b => b < w8.heap.size) (fun b _ hl => hl)
          obtain ⟨A15, c15, rfl, _, _⟩ := ho15.form HoR.good
          have b48 := bq13.trans (hb14.mono bq13.size)
          have hs48 := b48.size
          have HNw := Lib.hid (jnew_any 0 (by omega) (by omega) w8)
          have HQs := Lib.hid (fun W (hW : Below w8.heap.size w8 W) => hr8.below PgR.good hW)
          clear hr8 ho14 ho15 hp14 hs14 hh14 HKm HMe HPa bw13 bq13 b13 bq12 b12 bw12 hbq hb14
          go_upto_region 28 with (first
            | (go_at_call 25; (with_reducible refine HNw.out.mono ?_); rintro e w9 ⟨rfl, hj9, hb9⟩))
          have hgj := hj9.lt
          have HJ9 := Lib.hid hj9
          clear hj9 HNw hwm
          go_wp2
          go_loopw [23, 24] (fun v iv wr => ∃ (n j : Nat) (ob : Option Nat) (D : Nat → Prop), iv = .int .i64 ((offs (l.map Pk.bytes) n + j : Nat) : Int) ∧ Plc l n j ∧ offs (l.map Pk.bytes) n + j ≤ ys.length ∧ JnR wr w8.heap.size ob (jsAt 0 (l.map Pk.bytes) n j) ∧
            OwnG PkR 6 84 wr w9.heap.size D v (l.take n) ∧ (∀ b, v.ownBlock = some b → ob ≠ some b) ∧ (∀ b, D b → b < wr.heap.size ∧ b ≠ w8.heap.size ∧ ob ≠ some b) ∧ Below w8.heap.size w8 wr ∧ w9.heap.size ≤ wr.heap.size) (fun _ iv _ => ys.length - (intOf iv).toNat)
          case atStart => exact ⟨0, 0, none, fun _ => False, by rw [offs_zero]; rfl, Plc.start l, by rw [offs_zero]; exact Nat.zero_le _, by rw [jsAt_zero, offs_zero]; exact HJ9.out, OwnG.nil_ _ _ _ _ _ _, fun b hb => (by cases hb), fun b hb => hb.elim, hb9, Nat.le_refl _⟩
          case round =>
            clear HJ9
            obtain ⟨n, j, ob, D, rfl, hP, hle, hJ, hown, hvo, hDo, hb, hb99⟩ := hrel
            obtain ⟨Ag, cg, rfl, hcg, hrg, hog⟩ := hown.form PkR.good
            have htn : (l.take n).length = n := by rw [List.length_take, Nat.min_eq_left hP.le]
            have hn10 := hP.le
            by_cases his : offs (l.map Pk.bytes) n + j < ys.length
            · rw [htn] at hown hvo hcg hog hrg ⊢
              have hnl9 : n < l.length := by
                rcases Nat.lt_or_ge n l.length with h9 | h9
                · exact h9
                · have h8 : n = l.length := by omega
                  have h7 := hP.z h8
                  have h6 := hsL.out
                  subst h8
                  omega
              obtain ⟨h9, e9⟩ := HAt.out n j hnl9 (hP.lt hnl9)
              obtain ⟨n', j', xs, hput, hP', htk', hofs', hn', hxs⟩ := put_step HLay.out hP hnl9 (by omega)
              rw [← e9] at hput hn'
              have hlay := layOk_len (HLay.out _ (List.getElem_mem hnl9))
              have hbl := bytes_len l[n]
              clear e9 hn'
              obtain ⟨i, hi⟩ : ∃ i, offs (l.map Pk.bytes) n + j = i := ⟨_, rfl⟩
              simp only [hi] at his hput hofs' hle
              rw [hi]
              obtain ⟨ad, p, Aj, cj, rfl, hpS, hp, y0, y1, y2, y3, y4, hcj, hrj, hwj⟩ := RdPg.at_ (HQs.out wr hb) his
              have hob := hJ.own
              have HJ := jput_any hJ (by simp [jsAt]) (by simp only [jsAt, List.length_take, List.getD_eq_getElem?_getD, List.getElem?_map, List.getElem?_eq_getElem hnl9, Option.map_some, Option.getD_some]; omega) ys[i] Aj cj hwj hrj (fun b hb9 _ => ⟨by have h9 : b < w8.heap.size := hb9; omega, fun e => by have h9 : b < w8.heap.size := hb9; have := (hob b e).1; omega⟩) hcj
              rw [hput] at HJ
              unfold PutPost at HJ
              generalize ys[i] = pg at *
              obtain ⟨p1, p2, p3, p4, p5⟩ := pg
              simp only at y0 y1 y2 y3 y4 hcj
              simp only [Pg.val, List.length_nil] at HJ
              replace HJ := Lib.hid HJ
              have HOw := Lib.hid hown
              have HJr := Lib.hid hJ
              have hgw := hJ.lt
              have hbs := hb.size
              have HTk := Lib.hid htk'
              have HHi := Lib.hid hi
              have HHo := Lib.hid hofs'
              clear hJ hown hrj hwj hput hrg htk' hi hofs' hP hpS htn
              go_upto_region 32 with (first
                | (go_at_call 26; (with_reducible refine HJ.out.mono ?_); rintro e w10 ⟨A9, c9, A10, c10, ob', rfl, hc9, hc10, hj10, hx10, hh10, hm10, hob10⟩))
              have hs10 := hm10.size
              have hown10 := (HOw.out.keep PkR.good hm10 (fun b hb _ e => by
                rcases e with e | e
                · exact (hDo b hb).2.1 e
                · exact (hDo b hb).2.2 e) (fun b hb e => by
                rcases e with e | e
                · have := (hog b hb).1; omega
                · exact hvo b hb e)).weak PkR.good (D' := fun b => D b ∨ (wr.heap.size ≤ b ∧ b < w10.heap.size ∧ ob' ≠ some b)) (fun b hb _ => .inl hb)
              have hx10' : RdPk w10 (fun b => wr.heap.size ≤ b ∧ b < w10.heap.size ∧ ob' ≠ some b) A9 xs := hx10.weak PkR.good (fun b hb hl => ⟨hb.1, hl, hb.2⟩)
              have hD10 : ∀ b, (D b ∨ (wr.heap.size ≤ b ∧ b < w10.heap.size ∧ ob' ≠ some b)) → b < w10.heap.size := fun b hb => by
                rcases hb with hb | hb
                · have := (hDo b hb).1; omega
                · exact hb.2.1
              have hj10o := hj10.own
              have HJ10 := Lib.hid hj10
              have hb10 := hb.trans (hm10.below hbs (fun b hb => by
                rcases hb with hb | hb
                · omega
                · have := (hob b hb).1; omega))
              have htl : (l.take n).length = n := by rw [List.length_take, Nat.min_eq_left hn10]
              have htl' := Lib.hid htl
              clear hj10 hh10 hx10 htl HJ
              go_wp2_with (first
                | (at_builtin; go_must (refine wpList_append_G (v := .slice Ag n cg) rfl (.tmp 140) (.tmp 141) _ rfl PkR.good w10 (.agg #[.int .i64 0, .int .i64 0, .int .i64 0, .bool false, .bool false, .slice none 0 0]) 56 Try.underlying54 info_pk rfl (by omega) rfl hown10 (fun b => wr.heap.size ≤ b ∧ b < w10.heap.size ∧ ob' ≠ some b) A9 c9 xs.length xs rfl rfl hx10' (fun b hb _ => .inr hb) (fun b hb h => by have h8 := (hog b hb).2; have h7 := h.1; omega) hD10 (by rw [htl'.out]; omega) (by omega) ?_); intro v11 w11 ow11 hg11 hv11))
              have hs11 := hg11.size
              have hM11 : Mod (fun b => (Value.slice Ag n cg).ownBlock = some b) w10 w11 := Mod.of_grown hg11 (fun b e _ => e)
              rw [← HTk.out] at ow11
              go_roundw
              case rel => exact ⟨n', j', ob', _, by have := HHi.out; have := HHo.out; first | rfl | (rw [HHo.out]; go_num) | (rw [HHo.out]; simp), hP', by have := HHo.out; omega, HJ10.out.keep hM11 (fun e => by have := (hog _ e).1; omega) (fun b hb e => by
                have h7 := (hog b e).2
                rcases hob10 b hb with h6 | h6
                · exact hvo b e h6
                · omega), ow11, fun b hb e => by
                rcases hv11 with h6 | h6
                · rw [hb] at h6
                  rcases hob10 b e with h5 | h5
                  · exact hvo b h6.symm h5
                  · have := (hog b h6.symm).2; omega
                · rw [hb] at h6
                  have h5 := Option.some.inj h6
                  have := (hj10o b e).2; omega, fun b hb => by
                rcases hb with hb | hb
                · refine ⟨by have := (hDo b hb).1; omega, (hDo b hb).2.1, fun e => ?_⟩
                  rcases hob10 b e with h5 | h5
                  · exact (hDo b hb).2.2 h5
                  · have := (hDo b hb).1; omega
                · exact ⟨by have := hb.2.1; omega, by have := hb.1; omega, hb.2.2⟩, hb10.trans (hM11.below (Below.size hb10) (fun b hb => by have := (hog b hb).1; omega)), by omega⟩
              case measure => have := HHi.out; simp [intOf]; omega
            · have hin : offs (l.map Pk.bytes) n + j = ys.length := by omega
              have hnl : n = l.length := by
                rcases Nat.lt_or_ge n l.length with h9 | h9
                · obtain ⟨h8, _⟩ := HAt.out n j h9 (hP.lt h9)
                  omega
                · omega
              subst hnl
              rw [hin]
              rw [List.take_length] at hrg hcg ⊢
              have HSm := samepks_any cg c2 hrg (HRL.out wr (b48.trans (hb.mono hs48))) (by omega) (by omega)
              rw [decide_eq_true rfl] at HSm
              replace HSm := Lib.hid HSm
              have HJr := Lib.hid (fun W (hW : Below wr.heap.size wr W) => jbroken_any (hJ.below hW))
              have hbw := bb4.trans ((b48.trans (hb.mono hs48)).mono hsw4)
              clear hJ hown hrg hin htn
              go_wp2_with (first
                | (go_at_call 27; (with_reducible refine HSm.out.mono ?_); rintro e w12 ⟨rfl, hb12⟩)
                | (go_at_call 28; (with_reducible refine (HJr.out _ hb12).mono ?_); rintro e w13 ⟨rfl, rfl⟩)
                | (go_at_call 14; (with_reducible refine (HK.out _).mono ?_); rintro e w14 ⟨rfl, hb14⟩))
              go_ret
              exact ⟨rfl, below_then (below_then hbw hb12) hb14⟩
        · rw [decide_eq_false hcls]
          go_wp2_with (first
            | (go_at_call 14; (with_reducible refine (HK.out _).mono ?_); rintro e w16 ⟨rfl, hb16⟩))
          go_ret
          exact ⟨rfl, below_then bw12 hb16⟩
  · have g1 : decide ((40 : Int) < (z.length : Int)) = true := decide_eq_true (by omega)
    go_enter Try.func7, Try.ntmps7
    go_wp2_with (fail)
    go_ret
    exact ⟨rfl, Below.refl _ _⟩
end Go.Proofs.Ytdnkdjaokmibjaa.mendJoins
