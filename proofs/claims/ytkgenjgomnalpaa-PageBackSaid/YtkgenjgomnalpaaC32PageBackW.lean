/- PageBack: the walk. -/
import Derived.Test.YtkgenjgomnalpaaPgKnown
import Derived.Test.YtkgenjgomnalpaaPgBackM
import Derived.Test.YtkgenjgomnalpaaHvPk
import Derived.Test.YtkgenjgomnalpaaTapePk
import Derived.Test.YtkgenjgomnalpaaHoSame
import Derived.Deep.DeepCutAuto

set_option linter.unusedSimpArgs false
set_option linter.unusedVariables false
namespace Go.Proofs.Ytkgenjgomnalpaa
open Go.RowKit
def BlR : Rel Bool := fun _ _ cs b => cs = [.bool b]
theorem BlR.good : Rel.Good BlR 1 where
  pos := by omega
  len := by rintro w S cs x rfl; rfl
  one := by
    rintro w S cs x rfl u hu
    simp only [List.mem_singleton] at hu
    subst hu; rfl
  keep := by rintro w w' M S cs x rfl _ _; rfl
  weak := by rintro w S S' cs x rfl _; rfl
end Go.Proofs.Ytkgenjgomnalpaa
namespace Go.Proofs.Ytkgenjgomnalpaa.pageBack
open Go.RowKit

theorem tape_lay {st : Int} {l : List Pk} (h0 : 0 ≤ st ∧ st < 4) (h : TapePks st l) : ∀ p ∈ l, layE p = 0 := fun p hp => by
  have h1 := h.st p hp
  have h2 := h.time p hp
  have h3 := h.data p hp
  rw [layE, if_pos (by simp [Pk.head]; omega), if_neg (by omega)]
theorem tape_sum {st : Int} {l : List Pk} (h : TapePks st l) : wsum l ≤ 920 * l.length := by
  have key : ∀ l : List Pk, (∀ p ∈ l, p.data.length ≤ 900) → wsum l ≤ 920 * l.length := fun l => by
    induction l with
    | nil => intro _; simp [wsum]
    | cons x l ih =>
      intro h
      have h1 := h x (List.mem_cons_self ..)
      have h2 := ih (fun p hp => h p (List.mem_cons_of_mem _ hp))
      simp only [wsum, List.map_cons, List.sum_cons, List.length_cons] at h2 ⊢
      omega
  exact key l (fun p hp => (h.data p hp).1)
theorem all_len (l : List Pk) : (pagesAll 0 (l.map Pk.bytes)).length ≤ wsum l := by
  rw [pagesAll_len, List.map_map]; exact wsum_pages l
theorem split_ok {l : List Pk} (h : ∀ p ∈ l, layE p = 0) (hs : wsum l ≤ 100000) : splitE l 0 = 0 ∧ splitP l 0 = pagesAll 0 (l.map Pk.bytes) := by
  have hE : splitE l 0 = 0 := by
    have hb := layBad_none h
    have hl := all_len l
    rw [splitE, if_neg (by omega), if_neg (by rw [hb]; simp), if_neg (by omega)]
  exact ⟨hE, by rw [splitP, if_pos hE]⟩
theorem put_lens (s : Jn) (p : Pg) : (s.put p).2.1.length ≤ 1 ∧ (s.put p).2.2.length ≤ 1 := by
  have hg : (gaps s p).length ≤ 1 := by unfold gaps; split <;> simp
  unfold Jn.put
  split
  · simp
  · split
    · exact ⟨by simp, hg⟩
    · split
      · exact ⟨by simp, hg⟩
      · split
        · exact ⟨by simp, hg⟩
        · split
          · exact ⟨by simp, hg⟩
          · exact ⟨by simp, hg⟩
def goneAt (lost : List Bool) (i N : Nat) : Bool := decide (i < lost.length ∧ lost.getD i false = true ∧ i + 1 < N)

set_option maxHeartbeats 16000000 in
set_option maxRecDepth 100000 in
theorem walk (w : World) (A0 : Option Addr) (c0 : Nat) (t : List Int) (ht : ∀ x ∈ t, -9223372036854775808 ≤ x ∧ x ≤ 9223372036854775807) (hc : t.length ≤ c0) (h63 : c0 ≤ 9223372036854775807) (hrt : RdI w w.heap.size .i64 A0 t)
    (Al : Option Addr) (cl : Nat) (lost : List Bool) (hlc : lost.length ≤ cl) (hcl : cl ≤ 9223372036854775807) (hlr : RdG BlR 1 w (· < w.heap.size) Al lost) :
    Calls Try.prog 6 #[.slice A0 t.length c0, .slice Al lost.length cl] w fun e w' => e = .returned (.bool true) ∧ Below w.heap.size w w' := by
  have HK := Lib.hid (fun W => known_any W)
  have HT := Lib.hid (newtape_any A0 t c0 ht hc (by omega) w hrt (Nat.le_refl _))
  have HPs := Lib.hid (fun W (hW : TapeB W w.heap.size w.heap.size) => tapepks_any hW 1 (by unfold i64B; omega) 7 (by omega) (by omega))
  clear ht hrt
  go_enter Try.func6, Try.ntmps6
  go_upto_region 3 with (first
    | (go_at_call 8; (with_reducible refine HT.out.mono ?_); rintro e w1 ⟨rfl, hT1, hb1⟩)
    | (go_at_call 22; (with_reducible refine (HPs.out _ hT1).mono ?_); rintro e w2 ⟨v2, l, rfl, hl, hpk, ho2, hT2, hg2⟩))
  have bb2 := below_one hb1 hg2 (Nat.le_refl _)
  have hlay := tape_lay (by omega) hpk
  have hsum := tape_sum hpk
  have hl7 : l.length ≤ 7 := by omega
  obtain ⟨A2, c2, rfl, hc2, hr2⟩ := ho2.reads PkR.good (S := fun b => b < w2.heap.size) (fun b _ hl => hl)
  have hsp := split_ok hlay (by omega)
  have HS := Lib.hid (split_any (c := c2) hr2 (by omega) 0 (by omega) (by omega))
  rw [hsp.1, hsp.2] at HS
  have hNl := all_len l
  have HPsz : Hid (∀ i (h : i < (pagesAll 0 (l.map Pk.bytes)).length), True) := fun _ _ => trivial
  obtain ⟨ps, hps⟩ : ∃ ps, ps = pagesAll 0 (l.map Pk.bytes) := ⟨_, rfl⟩
  rw [← hps] at HS hNl
  have HN := Lib.hid (fun W => jnew_any 0 (by omega) (by omega) W)
  have hN : ps.length ≤ 100000 := by omega
  have HPS := Lib.hid hps
  have HLay := Lib.hid hlay
  clear hps hsp hlay HPsz hsum hpk ho2 hNl
  go_upto_region 7 with (first
    | (go_at_call 24; (with_reducible refine HS.out.mono ?_); rintro e w3 ⟨v3, rfl, ho3, hb3⟩; obtain ⟨A3, c3, rfl, hc3, hr3⟩ := ho3.reads PgR.good (S := fun b => b < w3.heap.size) (fun b _ hl => hl))
    | (go_at_call 25; (with_reducible refine (HN.out _).mono ?_); rintro e w4 ⟨rfl, hj4, hb4⟩))
  have hb34 := below_then hb3 hb4
  have bb4 := below_then bb2 hb34
  have hg4 := hj4.lt
  have hsz3 := hb3.size
  have hl4 := (hr2.below PkR.good hb34).weak PkR.good (S' := fun b => b < w3.heap.size) (fun b hb _ => Nat.lt_of_lt_of_le hb hsz3)
  have hp4 := hr3.below PgR.good hb4
  have hlo4 := (hlr.below BlR.good bb4).weak BlR.good (S' := fun b => b < w3.heap.size) (fun b hb _ => by have := bb2.size; have := hb; omega)
  have hw3 : w.heap.size ≤ w3.heap.size := by have := bb2.size; omega
  have HL := Lib.hid (fun W (h : Below w3.heap.size w4 W) => hl4.keep PkR.good (Mod.of_below (M := fun b => w3.heap.size ≤ b) h (fun b h _ => h)) (fun b hb _ => by have : b < w3.heap.size := hb; omega))
  have HPg := Lib.hid (fun W (h : Below w3.heap.size w4 W) => hp4.keep PgR.good (Mod.of_below (M := fun b => w3.heap.size ≤ b) h (fun b h _ => h)) (fun b hb _ => by have : b < w3.heap.size := hb; omega))
  have HLo := Lib.hid (fun W (h : Below w3.heap.size w4 W) => hlo4.keep BlR.good (Mod.of_below (M := fun b => w3.heap.size ≤ b) h (fun b h _ => h)) (fun b hb _ => by have : b < w3.heap.size := hb; omega))
  obtain ⟨g, hg⟩ : ∃ g, g = w3.heap.size := ⟨_, rfl⟩
  rw [← hg] at hj4 hg4 hw3 HL HPg HLo ⊢
  have hM0 : BkM w4 g w4.heap.size w4 none (.slice none 0 0) (.slice none 0 0) (.slice none 0 0) (.slice none 0 0) bk0 (fun b => b < g) (fun b => b < g) :=
    { gB := hg4, old := Below.refl _ _, base := Nat.le_refl _, jn := hj4, o1 := OwnG.nil_ _ _ _ _ _ _, o2 := OwnG.nil_ _ _ _ _ _ _, o3 := OwnG.nil_ _ _ _ _ _ _, o4 := OwnG.nil_ _ _ _ _ _ _
      d1 := fun b hb => ⟨by omega, by omega, by simp [Value.ownBlock], by simp [Value.ownBlock], by simp [Value.ownBlock], by simp [Value.ownBlock], by simp⟩
      d2 := fun b hb => ⟨by omega, by omega, by simp [Value.ownBlock], by simp [Value.ownBlock], by simp [Value.ownBlock], by simp [Value.ownBlock], by simp⟩
      n12 := by simp [Value.ownBlock], n13 := by simp [Value.ownBlock], n14 := by simp [Value.ownBlock], n23 := by simp [Value.ownBlock], n24 := by simp [Value.ownBlock], n34 := by simp [Value.ownBlock], j1 := by simp, j2 := by simp, j3 := by simp, j4 := by simp }
  have hI0 := bk0_I HLay.out
  rw [← HPS.out] at hI0
  clear hg hr2 hr3 hb3 hb4 hb34 hl4 hp4 hlo4 hlr hj4 ho3 HS
  have HM0 := Lib.hid hM0
  have HI0 := Lib.hid hI0
  clear hM0 hI0
  go_wp2
  go_loopw [10, 11, 12, 13, 14, 15, 16] (fun v1 v2 v3 v4 nv wh iv wr => ∃ (i : Nat) (t : Bk) (ob : Option Nat) (D1 D2 : Nat → Prop), i ≤ ps.length ∧ iv = .int .i64 i ∧ nv = .int .i64 t.n ∧ wh = .bool t.whole ∧ BkI l ps.length i t ∧ BkM w4 g w4.heap.size wr ob v1 v2 v3 v4 t D1 D2) (fun _ _ _ _ _ _ iv _ => ps.length - (intOf iv).toNat)
  case atStart => exact ⟨0, bk0, none, _, _, Nat.zero_le _, rfl, rfl, rfl, HI0.out, HM0.out⟩
  case round =>
    obtain ⟨i, t, ob, D1, D2, hi, rfl, rfl, rfl, hI, hM⟩ := hrel
    by_cases hlt : i < ps.length
    · obtain ⟨n0, j, hn, hp, hj, htn, c1, c2, c3⟩ := hI.place HLay.out (by rw [HPS.out]) hlt
      have hpi : ps[i] = pageAt (l[n0]).bytes (off (l.map Pk.bytes) n0) j := by
        have hnb : n0 < (l.map Pk.bytes).length := by simpa using hn
        obtain ⟨h9, h8⟩ := page_at hnb (j := j) (by rw [map_get hn]; exact hj)
        rw [map_get hn] at h8
        have e : ps[i]? = some (pageAt (l[n0]).bytes (off (l.map Pk.bytes) n0) j) := by rw [HPS.out, hp, List.getElem?_eq_getElem h9, h8]
        rw [List.getElem?_eq_getElem hlt] at e
        injection e
      have HKeep := Lib.hid (hI.keep HLay.out hn hp hj (by omega) hlt c1 c2 c3)
      have HLose := Lib.hid (fun h => hI.lose hn hp hj h)
      have hok : pgOk (pageAt (l[n0]).bytes (off (l.map Pk.bytes) n0) j) = true := by
        have h1 := nPages_lt.1 hj
        simp [pgOk, pageAt, mostB]
        omega
      obtain ⟨pg, hpg⟩ : ∃ pg, pg = pageAt (l[n0]).bytes (off (l.map Pk.bytes) n0) j := ⟨_, rfl⟩
      have q1 : pg.seq = (i : Int) := by rw [hpg]; simp only [pageAt]; omega
      have q2 : pg.first = decide (j = 0) := by rw [hpg]; rfl
      have q4 : pg.guard = false := by rw [hpg]; rfl
      rw [← hpg] at hpi HKeep hok
      obtain ⟨seq, fb, lb, gd, d⟩ := pg
      simp only at q1 q2 q4
      subst q1 q4
      obtain ⟨ad, pa, Aj, cj, rfl, hpS, hpa, y0, y1, y2, y3, y4, hcj, hrj, hwj⟩ := RdPg.at_ (HPg.out wr hM.old) hlt
      rw [hpi] at y0 y1 y2 y3 y4 hcj hrj hwj
      simp only at y0 y1 y2 y3 y4 hcj hrj
      have HPi := Lib.hid hpi
      have HQ2 := Lib.hid q2
      obtain ⟨n9, wh9, want, got, holes, gps, s⟩ := t
      simp only at htn
      have HTn := Lib.hid htn
      have hn9 : -1 ≤ n9 ∧ n9 ≤ 7 := by split at htn <;> omega
      obtain ⟨w1, hw1⟩ : ∃ w1, w1 = (if j = 0 then true else wh9) := ⟨_, rfl⟩
      simp only at HKeep
      rw [← hw1] at HKeep
      have HW1 := Lib.hid hw1
      have HI := Lib.hid hI
      have HM := Lib.hid hM
      have HOk := Lib.hid hok
      have HHj := Lib.hid hj
      clear hpi hpg q2 htn hw1 c1 c2 c3 hok hI hM hp hj
      obtain ⟨wo, rfl⟩ : ∃ wo : World, wo = wr := ⟨_, rfl⟩
      go_upto_if 51 with (fail)
      go_cut [14, 15] (fun a b wc => a = .int .i64 (n0 : Int) ∧ b = .bool w1 ∧ wo = wc)
      case first =>
        cases fb with
        | true =>
          have hj0 : j = 0 := by have := HQ2.out; simpa using this
          have e1 : n9 + 1 = (n0 : Int) := by have := HTn.out; rw [if_pos hj0] at this; omega
          have e2 : w1 = true := by rw [HW1.out, if_pos hj0]
          subst e2
          clear y0 y1 y2 y3 y4
          go_wp2
          go_meet
          exact ⟨by first | rw [e1] | rfl, rfl, rfl⟩
        | false =>
          have hj0 : j ≠ 0 := by have := HQ2.out; simpa using this
          have e1 : n9 = (n0 : Int) := by have := HTn.out; rw [if_neg hj0] at this; exact this
          have e2 : w1 = wh9 := by rw [HW1.out, if_neg hj0]
          subst e1 e2
          go_wp2
          go_meet
          exact ⟨rfl, rfl, rfl⟩
      case rest =>
        obtain ⟨rfl, rfl, rfl⟩ := hcut
        obtain ⟨gn, hgn⟩ : ∃ gn, gn = goneAt lost i ps.length := ⟨_, rfl⟩
        have HGn := Lib.hid hgn
        clear hgn
        have HMo := Lib.hid (HM.out.old)
        go_upto_region 15 with fail
        go_cut [17] (fun a wc => a = .bool gn ∧ wo = wc)
        case first =>
          by_cases h1 : i < lost.length
          · obtain ⟨ab, cs, rfl, _, hcs, hcell⟩ := HLo.out wo HMo.out i h1
            have z := hcell 0 (.bool lost[i]) (by rw [hcs]; rfl)
            rw [Nat.mul_one, Nat.add_zero] at z
            have hb' : lost.getD i false = lost[i] := by rw [List.getD_eq_getElem?_getD, List.getElem?_eq_getElem h1]; rfl
            have HB' := Lib.hid hb'
            clear hcell hcs hb'
            cases hb : lost[i] with
            | false =>
              have e : gn = false := by rw [HGn.out, goneAt, decide_eq_false_iff_not, HB'.out, hb]; simp
              subst e
              rw [hb] at z
              clear hb y0 y1 y2 y3 y4
              go_wp2
              go_meet
              exact ⟨rfl, rfl⟩
            | true =>
              rw [hb] at z
              by_cases h2 : i + 1 < ps.length
              · have e : gn = true := by rw [HGn.out, goneAt, decide_eq_true_eq, HB'.out, hb]; exact ⟨h1, rfl, h2⟩
                subst e
                have h2' : decide ((i : Int) + 1 < (ps.length : Int)) = true := decide_eq_true (by omega)
                clear hb y0 y1 y2 y3 y4
                go_wp2
                go_meet
                exact ⟨rfl, rfl⟩
              · have e : gn = false := by rw [HGn.out, goneAt, decide_eq_false_iff_not]; exact fun h => h2 h.2.2
                subst e
                have h2' : decide ((i : Int) + 1 < (ps.length : Int)) = false := decide_eq_false (by omega)
                clear hb y0 y1 y2 y3 y4
                go_wp2
                go_meet
                exact ⟨rfl, rfl⟩
          · have e : gn = false := by rw [HGn.out, goneAt, decide_eq_false_iff_not]; exact fun h => h1 h.1
            subst e
            have h1' : decide ((i : Int) < (lost.length : Int)) = false := decide_eq_false (by omega)
            clear y0 y1 y2 y3 y4
            go_wp2
            go_meet
            exact ⟨rfl, rfl⟩
        case rest =>
          obtain ⟨rfl, rfl⟩ := hcut
          have hgN : gn = true → i + 1 < ps.length := fun h => by have := HGn.out; rw [h, goneAt] at this; exact (of_decide_eq_true this.symm).2.2
          have HGN := Lib.hid hgN
          clear hgN
          go_upto_region 16 with fail
          go_cut [15] (fun a wc => a = .bool (w1 && !gn) ∧ wo = wc)
          case first =>
            clear y0 y1 y2 y3 y4
            cases w1 <;> cases gn
            all_goals
              go_wp2
              go_meet
              exact ⟨rfl, rfl⟩
          case rest =>
            obtain ⟨rfl, rfl⟩ := hcut
            cases gn with
            | true =>
              clear y0 y1 y2 y3 y4
              rw [Bool.not_true, Bool.and_false]
              have hIl := HLose.out (HGN.out rfl)
              have hlh : holes.length ≤ i := HI.out.lh
              have hM := HM.out
              have HIL := Lib.hid hIl
              clear hIl
              have hpush : ∀ (v' : Value) (w6 : World), OwnG HoR 2 62 w6 w4.heap.size (fun b => b = wo.heap.size) v' (holes ++ [⟨i, i⟩]) → (wo.alloc (.cells ([.int .i64 (i : Int), .int .i64 (i : Int)] : List Value).toArray 62)).grownBy w6 u12.ownBlock → (v'.ownBlock = u12.ownBlock ∨ v'.ownBlock = some (wo.heap.size + 1)) →
                  BkM w4 g w4.heap.size w6 ob u10 u11 v' u13 ⟨n9, wh9, want, got, holes ++ [⟨i, i⟩], gps, s⟩ D1 D2 := fun v' w6 ho6 hg6 hv6 =>
                hM.app3 (((Mod.refl _ _).alloc _).then_ (Mod.of_grown hg6 (fun g e _ => e))) (fun b e => by rcases hv6 with hv6 | hv6; exact .inl (hv6 ▸ e); rw [hv6] at e; injection e with e; exact .inr (by omega)) (OwnHo.any ho6)
              have HPush := Lib.hid hpush
              clear hpush
              rcases List.eq_nil_or_concat holes with he | ⟨ys, y, he⟩
              · subst he
                obtain ⟨A5, c5, hv5, _, _, _⟩ := hM.o3.form HoR.good
                have ho3 := hM.o3
                have hbs := hM.base
                rw [List.length_nil] at hv5
                subst hv5
                clear hM
                go_wp2_with (first
                  | (at_builtin; (refine wpList_push_G rfl (.tmp 99) (.tmp 103) _ rfl HoR.good wo (.agg #[.int .i64 0, .int .i64 0]) 16 Try.underlying60 info_ho rfl (by omega) rfl ho3 (fun _ => False) _ 1 [.int .i64 (i : Int), .int .i64 (i : Int)] ⟨i, i⟩ rfl rfl ⟨rfl, ⟨⟨by simp only; omega, by simp only; omega⟩, ⟨by simp only; omega, by simp only; omega⟩⟩⟩ (fun b => b = wo.heap.size) (fun b hb _ => hb.elim) (fun b hb _ => hb.elim) (fun b hb h => h) (fun b hb => by have h9 : b = wo.heap.size := hb; omega) rfl (by simp) hbs ?_); intro v6 w6 ho6 hg6 hv6))
                have hM6 := HPush.out v6 w6 ho6 hg6 hv6
                go_roundw
                case rel => exact ⟨i + 1, _, ob, D1, D2, by omega, by go_num, rfl, rfl, HIL.out, hM6.same rfl rfl (by simp [Bk.lose, addHole]) rfl rfl⟩
                case measure => simp [intOf]; omega
              · have he : holes = ys ++ [y] := by rw [he, List.concat_eq_append]
                subst he
                have hyl : ys.length + 1 ≤ i := by simpa using hlh
                obtain ⟨g3, c5, hv5, hgb, hgl, hcc, z, zf, hset⟩ := OwnHo.last hM.o3 (n := (i : Int)) ⟨by omega, by omega⟩
                have ho3 := hM.o3
                have hbs := hM.base
                subst hv5
                have HSet := Lib.hid hset
                have HMM := Lib.hid hM
                clear hM hset
                by_cases hyi : y.hi = (i : Int) - 1
                · have t1 : (y.hi == (i : Int) - 1) = true := by rw [beq_iff_eq]; exact hyi
                  have HYi := Lib.hid hyi
                  clear hyi
                  go_wp2
                  have hM6 := HMM.out.app3 (mod_put (g := g3) (off := ys.length * 2 + 1) (u := .int .i64 (i : Int)) (Mod.refl _ wo) (fun _ => rfl)) (fun b e => .inl e) HSet.out
                  go_roundw
                  case rel => exact ⟨i + 1, _, ob, D1, D2, by omega, by go_num, rfl, rfl, HIL.out, hM6.same rfl rfl (by simp [Bk.lose, addHole, lastHi, HYi.out]) rfl rfl⟩
                  case measure => simp [intOf]; omega
                · have t1 : (y.hi == (i : Int) - 1) = false := by rw [beq_eq_false_iff_ne]; exact hyi
                  have HYi := Lib.hid hyi
                  clear hyi
                  go_wp2_with (first
                    | (at_builtin; (refine wpList_push_G rfl (.tmp 99) (.tmp 103) _ rfl HoR.good wo (.agg #[.int .i64 0, .int .i64 0]) 16 Try.underlying60 info_ho rfl (by omega) rfl ho3 (fun _ => False) _ 1 [.int .i64 (i : Int), .int .i64 (i : Int)] ⟨i, i⟩ rfl rfl ⟨rfl, ⟨⟨by simp only; omega, by simp only; omega⟩, ⟨by simp only; omega, by simp only; omega⟩⟩⟩ (fun b => b = wo.heap.size) (fun b hb _ => hb.elim) (fun b hb _ => hb.elim) (fun b hb h => h) (fun b hb => by have h9 : b = wo.heap.size := hb; omega) rfl (by simp; omega) hbs ?_); intro v6 w6 ho6 hg6 hv6))
                  have hM6 := HPush.out v6 w6 ho6 hg6 hv6
                  go_roundw
                  case rel => exact ⟨i + 1, _, ob, D1, D2, by omega, by go_num, rfl, rfl, HIL.out, hM6.same rfl rfl (by simp [Bk.lose, addHole, lastHi, HYi.out]) rfl rfl⟩
                  case measure => simp [intOf]; omega
            | false =>
              rw [Bool.not_false, Bool.and_true]
              have hM := HM.out
              have hlw : want.length ≤ i := HI.out.lw
              have hlh : gps.length ≤ i := HI.out.lg
              have hlg : got.length ≤ i := by have : got = want := HI.out.got; rw [this]; exact hlw
              have hnl : (n0 : Int) < (l.length : Int) := by omega
              have HYs := Lib.hid (And.intro y0 (And.intro y1 (And.intro y2 (And.intro y3 y4))))
              go_upto_region 21 with fail
              go_cut [118] (fun a wc => a = .bool (lb && w1) ∧ wo = wc)
              case first =>
                cases lb <;> cases w1
                all_goals
                  go_wp2
                  go_meet
                  exact ⟨rfl, rfl⟩
              case rest =>
              obtain ⟨rfl, rfl⟩ := hcut
              go_upto_if 118 with (fail)
              go_cut [10] (fun v wc => ∃ D1', BkM w4 g w4.heap.size wc ob v u11 u12 u13 ⟨n0, w1, if lb = true ∧ w1 = true then want ++ [l[n0]] else want, got, holes, gps, s⟩ D1' D2)
              case first =>
                clear y0 y1 y2 y3 y4
                cases lb <;> cases w1
                case true.true =>
                  obtain ⟨ap, pq, Ap, cp, rfl, hpq, hpa2, e0, e1, e2, e3, e4, e5, hcp, hrp, hwp⟩ := RdPk.at_ (HL.out wo HMo.out) hn
                  have hpr : PkR wo (fun b => b < g) [.int .i64 l[n0].st, .int .i64 l[n0].at_, .int .i64 l[n0].ln, .bool l[n0].key, .bool l[n0].hid, .slice Ap l[n0].data.length cp] l[n0] := ⟨Ap, cp, rfl, hcp, hrp, hwp⟩
                  generalize l[n0] = q at *
                  obtain ⟨A5, c5, rfl, _, _, hob5⟩ := hM.o1.form PkR.good
                  have ho1 := hM.o1
                  dsimp only at ho1
                  have hbs := hM.base
                  have hgB := hM.gB
                  have hd1 := hM.d1
                  have hMM := Lib.hid hM
                  have hD1 := Lib.hid hd1
                  clear hM hd1
                  go_wp2_with (first
                    | (at_builtin; go_must (refine wpList_push_G rfl (.tmp 119) (.tmp 124) _ rfl PkR.good wo (.agg #[.int .i64 0, .int .i64 0, .int .i64 0, .bool false, .bool false, .slice none 0 0]) 56 Try.underlying49 info_pk rfl (by omega) rfl ho1 (fun b => b < g) _ 1 [.int .i64 q.st, .int .i64 q.at_, .int .i64 q.ln, .bool q.key, .bool q.hid, .slice Ap q.data.length cp] q rfl rfl hpr (fun b => D1 b ∨ b < g ∨ b = wo.heap.size) (fun b hb _ => .inl hb) (fun b hb _ => .inr (.inl hb)) (fun b hb h => by have h9 := (hob5 b hb).1; have h8 : b < g := h; omega) (fun b hb => by rcases hb with hb | hb | hb; exact Nat.le_of_lt (hD1.out b hb).1; omega; omega) (.inr (.inr rfl)) (by omega) hbs ?_); intro v6 w6 ho6 hg6 hv6))
                  go_meet
                  have l2 := hMM.out.o2.own_ge
                  have l3 := hMM.out.o3.own_ge
                  have l4 := hMM.out.o4.own_ge
                  have hv9 : ∀ b, v6.ownBlock = some b → (Value.slice A5 want.length c5).ownBlock = some b ∨ wo.heap.size ≤ b := fun b e => by rcases hv6 with hv6 | hv6; exact .inl (hv6 ▸ e); rw [hv6] at e; injection e with e; exact .inr (by omega)
                  have l6 := ho6.own_ge
                  have lj := hMM.out.jn.own
                  refine ⟨_, ((hMM.out.app1 (D' := fun b => D1 b ∨ b < g ∨ b = wo.heap.size) (((Mod.refl _ _).alloc _).then_ (Mod.of_grown hg6 (fun g e _ => e))) hv9 ho6 (fun b hb => ?_)).same (by simp) rfl rfl rfl rfl)⟩
                  have hs6 := hg6.size
                  simp at hs6
                  rcases hb with hb | hb | hb
                  · obtain ⟨a1, a2, a3, a4, a5, a6, a7⟩ := hD1.out b hb
                    exact ⟨by omega, a2, fun e => by rcases hv9 b e with e | e; exact a3 e; omega, a4, a5, a6, a7⟩
                  · exact ⟨by omega, by omega, fun e => by have := (l6 b e).1; omega, fun e => by have := (l2 b e).1; omega, fun e => by have := (l3 b e).1; omega, fun e => by have := (l4 b e).1; omega, fun e => by have := (lj b e).1; omega⟩
                  · subst hb
                    exact ⟨by omega, by omega, fun e => by
                      rcases hv6 with hv6 | hv6
                      · rw [hv6] at e; have := (hob5 _ e).2; omega
                      · rw [hv6] at e; injection e with e; omega, fun e => by have := (l2 _ e).2; omega, fun e => by have := (l3 _ e).2; omega, fun e => by have := (l4 _ e).2; omega, fun e => by have := (lj _ e).2; omega⟩
                all_goals
                  go_wp2
                  go_meet
                  exact ⟨D1, hM.same (by simp) rfl rfl rfl rfl⟩
              case rest =>
                obtain ⟨D1', hM2⟩ := hcut
                clear y0 y1 y2 y3 y4 hpa hpS hcj hrj hwj HYs hM
                obtain ⟨ad2, pb, Ak, ck, hA2, hpS2, hpb, x0, x1, x2, x3, x4, hck, hrk, hwk⟩ := RdPg.at_ (HPg.out wc hM2.old) hlt
                injection hA2 with hA2
                subst hA2
                rw [HPi.out] at x0 x1 x2 x3 x4 hck hrk hwk
                simp only at x0 x1 x2 x3 x4 hck hrk
                have hok := HOk.out
                obtain ⟨rE, rP, rL⟩ := rd_back hok []
                rw [List.append_nil] at rE rP rL
                have hxb : byteB (pgBytes ⟨(i : Int), fb, lb, false, d⟩) := (pgHead_bytes hok hwk.bytes).append (bg_bytes _ _)
                have hpE : pgE ⟨(i : Int), fb, lb, false, d⟩ = 0 := by rw [pgE, if_pos hok]
                have hpB : pgB ⟨(i : Int), fb, lb, false, d⟩ = pgBytes ⟨(i : Int), fb, lb, false, d⟩ := by rw [pgB, if_pos hpE]
                have HB := Lib.hid (pgbytes_any ⟨(i : Int), fb, lb, false, d⟩ Ak ck hwk wc hrk.top)
                rw [hpE, hpB] at HB
                have hd255 : d.length ≤ 255 := (pgOk_len hok).2
                have hxl : (pgBytes ⟨(i : Int), fb, lb, false, d⟩).length ≤ 300 := by rw [pgBytes, List.length_append, pgHead_len, bg_len]; simp only; omega
                generalize pgBytes ⟨(i : Int), fb, lb, false, d⟩ = xb at *
                have HR := Lib.hid (fun (W : World) (A : Option Addr) (c : Nat) (hr : RdI W W.heap.size .u8 A xb) (hc : xb.length ≤ c) => read_any (at_ := 0) (c := c) hr (Nat.le_refl _) hxb hc (by omega) (Nat.zero_le _))
                rw [List.drop_zero, rE, rP, rL, show ((0 : Nat) : Int) = 0 from rfl] at HR
                have hpl := World.block_lt_of_cell? wc _ x0
                have HM2 := Lib.hid hM2
                clear rE rP rL hpE hpB hM2 hok hxl
                go_upto_region 25 with (first
                  | (go_at_call 17; (with_reducible refine HB.out.mono ?_); rintro e w6 ⟨v6, rfl, ho6, hb6⟩; obtain ⟨A6, c6, rfl, hc6, hr6, _⟩ := ho6.form)
                  | (go_at_call 20; (with_reducible refine (HR.out _ _ _ hr6 hc6).mono ?_); rintro e w7 ⟨A7, c7, rfl, ho7, hb7⟩))
                have kz := Blk.new w7 43 #[.int .i64 (i : Int), .bool fb, .bool lb, .bool false, .slice A7 d.length c7]
                have b8' : Below w7.heap.size w7 (w7.alloc (.cells #[.int .i64 (i : Int), .bool fb, .bool lb, .bool false, .slice A7 d.length c7] 43)) := below_alloc (Below.refl _ _) _
                generalize w7.alloc (.cells #[.int .i64 (i : Int), .bool fb, .bool lb, .bool false, .slice A7 d.length c7] 43) = w8 at *
                have b8 := below_then (below_then hb6 hb7) b8'
                have z0 := kz.cell 0
                have z1 := kz.cell 1
                have z2 := kz.cell 2
                have z3 := kz.cell 3
                have z4 := kz.cell 4
                have hM8 := HM2.out.fresh b8
                obtain ⟨_, hc7, hr7⟩ := ho7.rds
                have hr8 := RdS.keep (M := fun _ => False) hr7 (Mod.of_fresh b8') (fun _ _ _ h => h)
                have hs6 := hb6.size
                have hs7 := hb7.size
                have hs8 := b8'.size
                have hjw := HM2.out.jn.lt
                have hjo := HM2.out.jn.own
                have hk1 : s.broken ≤ 2 * (i : Int) := HI.out.k1
                have hbl : s.body.length ≤ 65554 := HI.out.len
                have HPut := Lib.hid (jput_any hM8.jn (by simp only; omega) hbl ⟨(i : Int), fb, lb, false, d⟩ A7 c7 hwk hr8 (fun b hb _ => by have h9 := hb.1; exact ⟨by omega, fun e => by have := (hjo b e).2; omega⟩) hc7)
                have hpl2 : (s.put ⟨(i : Int), fb, lb, false, d⟩).2.1.length ≤ 1 ∧ (s.put ⟨(i : Int), fb, lb, false, d⟩).2.2.length ≤ 1 := put_lens _ _
                have HKp := Lib.hid (show Bk.keep ⟨n9, wh9, want, got, holes, gps, s⟩ n0 w1 l[n0] ⟨(i : Int), fb, lb, false, d⟩ = ⟨n0, w1, if lb = true ∧ w1 = true then want ++ [l[n0]] else want, got ++ (s.put ⟨(i : Int), fb, lb, false, d⟩).2.1, holes, gps ++ (s.put ⟨(i : Int), fb, lb, false, d⟩).2.2, (s.put ⟨(i : Int), fb, lb, false, d⟩).1⟩ from rfl)
                generalize s.put ⟨(i : Int), fb, lb, false, d⟩ = rr at *
                obtain ⟨s', xs, hs⟩ := rr
                simp only [Pg.val] at HPut
                (try dsimp only at hpl2); (try dsimp only at HKp)
                have HM8 := Lib.hid hM8
                clear hM8 x0 x1 x2 x3 x4 hr7 hr8 ho7
                go_upto_region 28 with (first
                  | (go_at_call 26; (with_reducible refine HPut.out.mono ?_); rintro e w9 ⟨A9, c9, A10, c10, ob', rfl, hc9, hc10, hj9, hx9, hh9, hm9, hob9⟩))
                have hM9 := HM8.out.put hj9 hm9 hob9
                have hs9 := hm9.size
                (try dsimp only at hj9); (try dsimp only at hx9); (try dsimp only at hh9); (try dsimp only at hc9); (try dsimp only at hc10)
                have l2 := HM2.out.o2.own_ge
                have l1 := HM2.out.o1.own_ge
                have l3 := HM2.out.o3.own_ge
                have l4 := HM2.out.o4.own_ge
                have hgB := HM2.out.gB
                have hbs := HM2.out.base
                have hjo' := hj9.own
                have ho2 := hM9.o2.weak PkR.good (D' := fun b => D2 b ∨ (w8.heap.size ≤ b ∧ ob' ≠ some b ∧ b < w9.heap.size)) (fun b hb _ => .inl hb)
                (try dsimp only at ho2)
                have hd9 := hM9.d2
                have HD9 := Lib.hid hd9
                have HM9 := Lib.hid hM9
                clear hM9 hd9
                obtain ⟨A11, c11, hv11, _, _, _⟩ := ho2.form PkR.good
                obtain ⟨A12, c12, hv12, _, _, _⟩ := HM9.out.o4.form HoR.good
                (try dsimp only at hv12)
                subst hv11 hv12
                go_wp2_with (first
                  | (at_builtin; (refine wpList_append_G (v := .slice A11 got.length c11) rfl (.tmp 152) (.tmp 153) _ rfl PkR.good w9 (.agg #[.int .i64 0, .int .i64 0, .int .i64 0, .bool false, .bool false, .slice none 0 0]) 56 Try.underlying49 info_pk rfl (by omega) rfl ho2 (fun b => w8.heap.size ≤ b ∧ ob' ≠ some b) A9 c9 xs.length xs rfl rfl hx9 (fun b hb hl => .inr ⟨hb.1, hb.2, hl⟩) (fun b hb h => by have h9 := (l2 b hb).2; have h8 := h.1; omega) (fun b hb => by rcases hb with hb | hb; exact (HD9.out b hb).1; exact hb.2.2) (by omega) (by omega) ?_); intro v11 w11 ho11 hg11 hv11; have hs11 := hg11.size; have hMg := Mod.of_grown (M := fun b => (Value.slice A11 got.length c11).ownBlock = some b) hg11 (fun g e _ => e); have hh11 := RdG.keep HoR.good hh9 hMg (fun b hb _ e => (by have h9 := (l2 b e).2; have h8 := hb.1; omega)); have l11 := ho11.own_ge; have hM11 := HM9.out.app2 (D' := fun b => D2 b ∨ (w8.heap.size ≤ b ∧ ob' ≠ some b ∧ b < w9.heap.size)) hMg (fun b e => by rcases hv11 with hv | hv; exact .inl (hv ▸ e); rw [hv] at e; injection e with e; exact .inr (by omega)) ho11 (fun b hb => by
                      have q2 : v11.ownBlock ≠ some b := fun e => by
                        rcases hv11 with hv | hv
                        · rw [hv] at e
                          rcases hb with hb | hb
                          · exact (HD9.out b hb).2.2.2.1 e
                          · have h9 := (l2 b e).2; have h8 := hb.1; omega
                        · rw [hv] at e; injection e with e
                          rcases hb with hb | hb
                          · have := (HD9.out b hb).1; omega
                          · have := hb.2.2; omega
                      rcases hb with hb | hb
                      · obtain ⟨a1, a2, a3, a4, a5, a6, a7⟩ := HD9.out b hb
                        exact ⟨by omega, a2, a3, q2, a5, a6, a7⟩
                      · have h8 := hb.1
                        have h7 := hb.2.2
                        exact ⟨by omega, by omega, fun e => by have := (l1 b e).2; omega, q2, fun e => by have := (l3 b e).2; omega, fun e => by have := (l4 b e).2; omega, hb.2.1⟩); have ho4 := OwnHo.any (D' := fun b => w8.heap.size ≤ b ∧ ob' ≠ some b ∧ b < w11.heap.size) hM11.o4; (try dsimp only at ho4))
                  | (at_builtin; (refine wpList_append_G (v := .slice A12 gps.length c12) rfl (.tmp 155) (.tmp 156) _ rfl HoR.good w11 (.agg #[.int .i64 0, .int .i64 0]) 16 Try.underlying60 info_ho rfl (by omega) rfl ho4 (fun b => w8.heap.size ≤ b ∧ ob' ≠ some b) A10 c10 hs.length hs rfl rfl hh11 (fun b hb hl => ⟨hb.1, hb.2, hl⟩) (fun b hb h => by have h9 := (l4 b hb).2; have h8 := h.1; omega) (fun b hb => hb.2.2) (by omega) (by omega) ?_); intro v12 w12 ho12 hg12 hv12))
                have hM12 := hM11.app4 (Mod.of_grown hg12 (fun g e _ => e)) (fun b e => by rcases hv12 with hv | hv; exact .inl (hv ▸ e); rw [hv] at e; injection e with e; exact .inr (by omega)) (OwnHo.any ho12)
                have hIk := HKeep.out
                rw [HKp.out] at hIk
                go_roundw
                case rel => exact ⟨i + 1, _, ob', D1', _, by omega, by go_num, rfl, rfl, hIk, hM12.same rfl rfl rfl rfl rfl⟩
                case measure => simp [intOf]; omega
    · have hiN : i = ps.length := by omega
      subst hiN
      obtain ⟨e1, e2⟩ := hI.done
      have hlw := hI.lw
      have hlh := hI.lh
      obtain ⟨n9, wh9, want, got, holes, gps, s⟩ := t
      dsimp only at e1 e2 hlw hlh
      subst e1 e2
      obtain ⟨A5, c5, rfl, _, hx1⟩ := hM.o1.reads PkR.good (S := fun _ => True) (fun _ _ _ => trivial)
      obtain ⟨A6, c6, rfl, _, hx2⟩ := hM.o2.reads PkR.good (S := fun _ => True) (fun _ _ _ => trivial)
      obtain ⟨A7, c7, rfl, _, hx3⟩ := hM.o3.reads HoR.good (S := fun _ => True) (fun _ _ _ => trivial)
      obtain ⟨A8, c8, rfl, _, hx4⟩ := hM.o4.reads HoR.good (S := fun _ => True) (fun _ _ _ => trivial)
      dsimp only at hx1 hx2 hx3 hx4
      have HSP := Lib.hid (samepks_any c6 c5 hx2 hx1 (by omega) (by omega))
      rw [decide_eq_true rfl] at HSP
      have HSH := Lib.hid (fun W (h : Below wr.heap.size wr W) => sameho_any c8 c7 (hx4.below HoR.good h) (hx3.below HoR.good h) (by omega) (by omega))
      rw [decide_eq_true rfl] at HSH
      have hbf : Below w.heap.size w wr := bb4.trans (hM.old.mono hw3)
      clear hM hI hx1 hx2 hx3 hx4
      go_wp2_with (first
        | (go_at_call 27; (with_reducible refine HSP.out.mono ?_); rintro e w5 ⟨rfl, hb5⟩)
        | (go_at_call 28; (with_reducible refine (HSH.out _ hb5).mono ?_); rintro e w6 ⟨rfl, n6, rfl⟩)
        | (go_at_call 16; (with_reducible refine (HK.out _).mono ?_); rintro e w7 ⟨rfl, hb7⟩))
      go_ret
      exact ⟨rfl, below_then hbf (below_then hb5 (below_undrN hb7))⟩
end Go.Proofs.Ytkgenjgomnalpaa.pageBack
