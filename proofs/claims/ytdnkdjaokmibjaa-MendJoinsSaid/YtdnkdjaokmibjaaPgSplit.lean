/- page.Split. -/
import Derived.Test.YtdnkdjaokmibjaaPgSplitL
import Derived.Test.YtdnkdjaokmibjaaPkLay
import Derived.Test.YtdnkdjaokmibjaaLb
import Derived.Test.YtdnkdjaokmibjaaPkVal
import Derived.Test.YtdnkdjaokmibjaaPkOpenL
set_option linter.unusedSimpArgs false
set_option linter.unusedVariables false
namespace Go.Proofs.Ytdnkdjaokmibjaa
open Go.RowKit

theorem OwnG.at_ {w w2 : World} {base gl k : Nat} {D : Nat → Prop} {n c : Nat} {xs : List (List Int)} (h : OwnG LbR 1 31 w base D (.slice (some ⟨gl, 0, none⟩) n c) xs) (hb : Below w.heap.size w w2) (hk : k < xs.length) (D' : Nat → Prop) (hD : ∀ b, D b → b < w2.heap.size → D' b) :
    (∃ u, w2.cell? ⟨gl, k, none⟩ = some u) ∧ w2.frozen? ⟨gl, k, none⟩ = false ∧ ∀ u y, LbR w2 (fun b => D' b ∧ some gl ≠ some b) [u] y → OwnG LbR 1 31 (w2.setCell ⟨gl, k, none⟩ u) base D' (.slice (some ⟨gl, 0, none⟩) n c) (xs.set k y) := by
  have h2 := (h.keep LbR.good (Mod.of_fresh (M := fun _ => False) hb) (fun _ _ _ h => h) (fun _ _ h => h)).weak LbR.good hD
  obtain ⟨gb, c', hv, _, _, _, hfz, hce, hset⟩ := h2.row1 LbR.good (by omega)
  simp only [Value.slice.injEq, Option.some.injEq, Addr.mk.injEq, and_true] at hv
  obtain ⟨rfl, _, _⟩ := hv
  obtain ⟨u, hu, _⟩ := hce k hk
  exact ⟨⟨u, hu⟩, hfz k, fun u y hR => hset k u y hR⟩
theorem set_midP {α : Type} (a : List α) (n : Nat) (x y : α) (hn : 0 < n) : (a ++ List.replicate n x).set a.length y = (a ++ [y]) ++ List.replicate (n - 1) x := by
  obtain ⟨m, rfl⟩ : ∃ m, n = m + 1 := ⟨n - 1, by omega⟩
  simp [List.replicate_succ]
theorem info_lb : (Try.prog.info? 31).map (fun i => (i.zero, i.size, i.bytes)) = some (some (.slice none 0 0), 1, 24) := by kernel_rfl
set_option maxHeartbeats 8000000 in
set_option maxRecDepth 100000 in
theorem split_any {l : List Pk} {A : Option Addr} {c : Nat} {S : Nat → Prop} {w : World} (hr : RdPk w S A l) (hl : l.length ≤ 1000000000) (from_ : Int) (h0 : -9223372036854775808 ≤ from_) (h1 : from_ ≤ 9223372036854775807) :
    Calls Try.prog 23 #[.slice A l.length c, .int .i64 from_] w (SplitPost w (splitP l from_) (splitE l from_)) := by
  have HE := Lib.hid (show splitE l from_ = if from_ < 0 ∨ 2147483647 < from_ then 1 else if layBad l ≠ 0 then layBad l else if 0 < (pagesAll from_ (l.map Pk.bytes)).length ∧ 2147483647 < from_ + (pagesAll from_ (l.map Pk.bytes)).length - 1 then 4 else 0 from rfl)
  have HP := Lib.hid (show splitP l from_ = if splitE l from_ = 0 then pagesAll from_ (l.map Pk.bytes) else [] from rfl)
  generalize splitE l from_ = E at *
  generalize splitP l from_ = P at *
  by_cases hf : from_ < 0 ∨ 2147483647 < from_
  · have HE2 : E = 1 := by rw [HE.out, if_pos hf]
    subst HE2
    have HP2 : P = [] := by rw [HP.out, if_neg (by omega)]
    subst HP2
    clear HE HP
    rcases hf with hf | hf
    · go_enter Try.func23, Try.ntmps23
      go_wp2
      go_ret2
      exact ⟨_, rfl, OwnG.nil_ _ _ _ _ _ _, Below.refl _ _⟩
    · have hf0 : ¬ from_ < 0 := by omega
      go_enter Try.func23, Try.ntmps23
      go_wp2
      go_ret2
      exact ⟨_, rfl, OwnG.nil_ _ _ _ _ _ _, Below.refl _ _⟩
  · have hE1 := Lib.hid (HE.out.trans (if_neg hf))
    have hf1 : 0 ≤ from_ := by omega
    have hf2 : from_ ≤ 2147483647 := by omega
    clear HE hf h0 h1
    have hmk := fun W => run_make_one (P := Try.prog) W 85 Try.underlying85 info_lb rfl (by omega) .i64 l.length hl
    have HB := Lib.hid (fun W' (hb : Below w.heap.size w W') => hr.below PkR.good hb)
    have hmade := OwnG.made (R := LbR) (e := 31) (D := fun b => w.heap.size ≤ b ∧ b < w.heap.size) w (Nat.le_refl _) hl LbR.nil_
    clear hr
    go_enter Try.func23, Try.ntmps23
    go_wp2
    clear hmk
    go_loopw [28] (fun i wr => ∃ k : Nat, k ≤ l.length ∧ i = .int .i64 k ∧ (∀ p ∈ l.take k, layE p = 0) ∧ OwnG LbR 1 31 wr w.heap.size (fun b => w.heap.size ≤ b ∧ b < wr.heap.size) (.slice (some ⟨w.heap.size, 0, none⟩) l.length l.length) ((l.take k).map Pk.bytes ++ List.replicate (l.length - k) []) ∧ Below w.heap.size w wr ∧ w.heap.size < wr.heap.size) (fun i _ => l.length - (intOf i).toNat)
    case atStart => exact ⟨0, Nat.zero_le _, rfl, by simp, by simpa using hmade.weak LbR.good (fun b hb _ => by omega), below_alloc (Below.refl _ _) _, by simp⟩
    case round =>
      obtain ⟨k, hk, rfl, hno, hown, hbel, hsz⟩ := hrel
      have HNo := Lib.hid hno
      clear hno hmade
      by_cases hlt : k < l.length
      · obtain ⟨ad, p, Aj, cj, rfl, _, hp, e0, e1, e2, e3, e4, e5, hcj, hrj, hwj⟩ := RdPk.at_ (HB.out _ hbel) hlt
        have HL := Lib.hid (fun W (hW : Below wr.heap.size wr W) => lay_any l[k] Aj cj hwj W (RdI.more (RdI.below (RdS.top hrj) hW (Nat.le_refl _)) hW.size))
        have hpos : 0 < ((l.take k).map Pk.bytes ++ List.replicate (l.length - k) ([] : List Int)).length := by simp; omega
        have HK := Lib.hid (show k < ((l.take k).map Pk.bytes ++ List.replicate (l.length - k) ([] : List Int)).length by simp; omega)
        have HSet := Lib.hid (show ((l.take k).map Pk.bytes ++ List.replicate (l.length - k) ([] : List Int)).set k l[k].bytes = (l.take (k + 1)).map Pk.bytes ++ List.replicate (l.length - (k + 1)) [] by
          have h := set_midP ((l.take k).map Pk.bytes) (l.length - k) [] l[k].bytes (by omega)
          rw [List.length_map, List.length_take, Nat.min_eq_left hk] at h
          rw [h, List.take_succ_eq_append_getElem hlt, List.map_append, Nat.sub_sub]; rfl)
        have HT := Lib.hid (show l.take (k + 1) = l.take k ++ [l[k]] from List.take_succ_eq_append_getElem hlt)
        have HX := Lib.hid (layBad_some hlt HNo.out)
        have HLb := Lib.hid (show layB l[k] = if layE l[k] = 0 then l[k].bytes else [] from rfl)
        have HBy := Lib.hid (fun (h : layE l[k] = 0) => bytes_byte h hwj)
        have HBl := Lib.hid (bytes_len l[k])
        have HBk := Lib.hid (fun (h : layE l[k] = 0) => layOk_len h)
        generalize l[k] = q at *
        generalize hEq : layE q = E' at *
        have HE0 := Lib.hid hEq
        clear hEq
        generalize layB q = B' at *
        obtain ⟨q1, q2, q3, q4, q5, q6⟩ := q
        simp only [Pk.val] at HL e0 e1 e2 e3 e4 e5 hcj
        by_cases hE' : E' = 0
        · subst hE'
          have hB' : B' = Pk.bytes ⟨q1, q2, q3, q4, q5, q6⟩ := by rw [HLb.out, if_pos rfl]
          subst hB'
          have h12 : (Pk.bytes ⟨q1, q2, q3, q4, q5, q6⟩).length ≤ 1000000000 := by have := HBl.out; have := HBk.out rfl; simp only at *; omega
          go_wp2_with (first
            | (go_at_call 45; (with_reducible refine (HL.out _ (below_alloc (Below.refl _ _) _)).mono ?_); rintro e w2 ⟨v2, rfl, ho2, hb2⟩; obtain ⟨A2, c2, rfl, hc2, hr2, hA2⟩ := ho2.form; have hbb2 := below_then (below_alloc (Below.refl wr.heap.size wr) _) hb2; obtain ⟨⟨u9, hu9⟩, hfz9, hset9⟩ := OwnG.at_ hown hbb2 HK.out (fun b => w.heap.size ≤ b ∧ b < w2.heap.size) (fun b hb hl => ⟨hb.1, hl⟩)))
          obtain ⟨_, _, hrs2⟩ := ho2.rds
          have hx9 := hset9 _ (Pk.bytes ⟨q1, q2, q3, q4, q5, q6⟩) ⟨A2, c2, rfl, hc2, hrs2.weak (fun b hb _ => ⟨⟨by have := hb.1; simp at this; omega, hb.2.1⟩, by have := hb.1; simp at this; simp; omega⟩), h12, HBy.out (by first | rfl | trivial)⟩
          have hsz2 := hbb2.size
          go_roundw
          case rel =>
            refine ⟨k + 1, by omega, by go_num, ?_, ?_, below_put (below_then hbel hbb2) (Nat.le_refl _), by simp [World.setCell]; omega⟩
            · rw [HT.out]
              intro p hp
              rcases List.mem_append.1 hp with hp | hp
              · exact HNo.out p hp
              · rw [List.mem_singleton] at hp; rw [hp]; exact HE0.out
            · rw [HSet.out] at hx9
              exact hx9.weak LbR.good (fun b hb _ => ⟨hb.1, by simpa [World.setCell] using hb.2⟩)
          case measure => simp [intOf]; omega
        · have t9 : (E' != 0) = true := by rw [bne_iff_ne]; exact hE'
          have HXX := HX.out hE'
          have hEE : E = E' := by
            rw [hE1.out, HXX, if_pos hE']
          have hPP : P = [] := by rw [HP.out, if_neg (by rw [hEE]; exact hE')]
          subst hPP hEE
          clear hE' HXX HX
          go_wp2_with (first
            | (go_at_call 45; (with_reducible refine (HL.out _ (below_alloc (Below.refl _ _) _)).mono ?_); rintro e w2 ⟨v2, rfl, ho2, hb2⟩))
          go_ret2
          exact ⟨_, rfl, OwnG.nil_ _ _ _ _ _ _, below_then hbel (below_then (below_alloc (Below.refl wr.heap.size wr) _) hb2)⟩
      · have hkl : k = l.length := by omega
        subst hkl
        simp only [List.take_length, Nat.sub_self, List.replicate_zero, List.append_nil] at hown HNo
        have hLB : layBad l = 0 := layBad_none HNo.out
        have hE2 := Lib.hid (hE1.out.trans (if_neg (by simp [hLB])))
        have hbl : ∀ b ∈ l.map Pk.bytes, b.length ≤ 65554 := fun b hb => by
          obtain ⟨p, hp, rfl⟩ := List.mem_map.1 hb
          have := layOk_len (HNo.out p hp)
          rw [bytes_len]; omega
        have hbl := Lib.hid hbl
        have hlb : (l.map Pk.bytes).length = l.length := List.length_map _
        obtain ⟨Ab, cb, hvb, hcb, hrb⟩ := hown.reads LbR.good (S := fun b => b < wr.heap.size) (fun b hb _ => by rcases hb with hb | hb; exact hb.2; assumption)
        clear hLB hE1 HNo hown
        generalize l.map Pk.bytes = bs at *
        simp only [Value.slice.injEq] at hvb
        obtain ⟨rfl, _, rfl⟩ := hvb
        have hrb := hrb
        have HRB := Lib.hid (fun W (hW : Below wr.heap.size wr W) => hrb.below LbR.good hW)
        have hbs9 : bs.length ≤ 1000000000 := by omega
        rw [← hlb]
        have HLen := Lib.hid hlb
        clear hlb hrb hcb
        go_wp2
        obtain ⟨w1, rfl⟩ : ∃ w1 : World, w1 = wr := ⟨_, rfl⟩
        go_loopw [11, 48] (fun v i wx => ∃ k : Nat, k ≤ bs.length ∧ i = .int .i64 k ∧ OwnG PgR 5 33 wx w1.heap.size (fun b => w1.heap.size ≤ b ∧ b < wx.heap.size) v (pagesAll from_ (bs.take k)) ∧ Below w1.heap.size w1 wx ∧ from_ + (pagesAll from_ (bs.take k)).length ≤ 2147483648) (fun _ i _ => bs.length - (intOf i).toNat)
        case atStart => exact ⟨0, Nat.zero_le _, rfl, OwnG.nil_ _ _ _ _ _ _, Below.refl _ _, by simp [pagesAll]; omega⟩
        case round =>
          obtain ⟨k, hk, rfl, hown, hbx, hfl⟩ := hrel
          by_cases hlt : k < bs.length
          · obtain ⟨ad, Aj, cj, hA, _, hcell, hcj, hrj, hl9, hbj⟩ := RdLb.at_ (HRB.out _ (Below.refl _ _)) hlt
            injection hA with hA
            subst hA
            rw [add_mk, Nat.zero_add] at hcell
            have hcell := (hbx.cell (p := ⟨w.heap.size, k, none⟩) hsz).trans hcell
            have HRJ := Lib.hid (fun W (hW : Below w1.heap.size w1 W) => RdI.below hrj.top hW (Nat.le_refl _))
            have HS := Lib.hid (pagesAll_snoc from_ (bs.take k) bs[k])
            have HT := Lib.hid (show bs.take (k + 1) = bs.take k ++ [bs[k]] from List.take_succ_eq_append_getElem hlt)
            have HO := Lib.hid (fun (j : Nat) (hj : j < nPages bs[k]) => pagesAll_over from_ hlt hj)
            generalize bs[k] = b at *
            generalize pagesAll from_ (bs.take k) = acc at *
            go_wp2
            obtain ⟨wo, rfl⟩ : ∃ wo : World, wo = wr := ⟨_, rfl⟩
            clear hcell
            go_loopw [11, 14] (fun v i wy => ∃ j : Nat, j ≤ nPages b ∧ i = .int .i64 ((252 * j : Nat) : Int) ∧ OwnG PgR 5 33 wy w1.heap.size (fun b => w1.heap.size ≤ b ∧ b < wy.heap.size) v (acc ++ (pagesOf b (from_ + acc.length)).take j) ∧ Below w1.heap.size w1 wy ∧ from_ + acc.length + j ≤ 2147483648) (fun _ i _ => b.length - (intOf i).toNat)
            case atStart => exact ⟨0, Nat.zero_le _, rfl, by simpa using hown, hbx, by omega⟩
            case round =>
              obtain ⟨j, hj, rfl, hown3, hby, hfj⟩ := hrel
              have hlen : (acc ++ (pagesOf b (from_ + acc.length)).take j).length = acc.length + j := by rw [List.length_append, List.length_take, pagesOf_len]; omega
              obtain ⟨A3, c3, rfl, hc3, _, hob3⟩ := hown3.form PgR.good
              have hown3' := hown3
              by_cases hjn : j < nPages b
              · have hjb := nPages_lt.1 hjn
                have HPt := Lib.hid (pagesOf_take (s := from_ + acc.length) hjn)
                have HOv := Lib.hid (HO.out j hjn)
                rw [hlen] at hown3 hc3 hob3
                rw [hlen]
                obtain ⟨m, hm⟩ : ∃ m, m = acc.length + j := ⟨_, rfl⟩
                obtain ⟨a, ha⟩ : ∃ a, a = 252 * j := ⟨_, rfl⟩
                have hmf : from_ + (m : Int) ≤ 2147483648 := by omega
                rw [← hm] at hown3 hc3 hob3 ⊢
                rw [← ha] at hjb ⊢
                have hsq : IntKind.i64.wrap (from_ + (m : Int)) = from_ + (m : Int) := IntWalk.i64_in _ (by omega)
                by_cases hov : 2147483647 < from_ + (m : Int)
                · have hEE : E = 4 := by rw [hE2.out, if_pos]; have := HOv.out; omega
                  have hPP : P = [] := by rw [HP.out, if_neg (by omega)]
                  subst hEE hPP
                  clear hE2 HP
                  have t5 : decide (2147483647 < from_ + (m : Int)) = true := by simpa using hov
                  go_wp2
                  go_ret2
                  exact ⟨_, rfl, OwnG.nil_ _ _ _ _ _ _, hbel.trans (hby.mono (by omega))⟩
                · have t5 : decide (2147483647 < from_ + (m : Int)) = false := by simpa using hov
                  obtain ⟨fb, hfb⟩ : ∃ fb, fb = decide (j = 0) := ⟨_, rfl⟩
                  have t6 : ((a : Int) == 0) = fb := by rw [hfb, ha, Bool.eq_iff_iff]; simp; omega
                  have HFb := Lib.hid hfb
                  have HA := Lib.hid ha
                  have HM := Lib.hid hm
                  clear hfb
                  have HLm := Lib.hid (show (acc ++ (pagesOf b (from_ + acc.length)).take j).length ≤ 3999999999 by rw [hlen]; omega)
                  rcases Nat.lt_trichotomy b.length (a + 252) with hlast | hlast | hlast
                  · skip
                    have HX9 : (b.length : Nat) - a = b.length - a := by omega
                    have hrc : RdI w1 w1.heap.size .u8 (Aj.map (fun x => x.add a)) ((b.drop a).take (b.length - a)) := by
                      have h := (RdI.cut hrj.top (n := a) (cap := cj) (by omega) hcj).take (n := b.length - a) (by rw [List.length_drop]; omega)
                      rwa [if_neg (by omega)] at h
                    have hd : ((b.drop a).take (b.length - a)).length = b.length - a := by rw [List.length_take, List.length_drop]; omega
                    have HCl := Lib.hid (fun W (hW : Below w1.heap.size w1 W) => clone_any (Aj.map (fun x => x.add a)) (cj - a) ((b.drop a).take (b.length - a)) (by rw [hd]; omega) W w1.heap.size (hrc.below hW (Nat.le_refl _)) hW.size)
                    rw [hd] at HCl
                    have HDb : (b.drop a).take (b.length - a) = (b.drop (252 * j)).take 252 := by
                      rw [← ha, List.take_of_length_le (by simp), List.take_of_length_le (by simp; omega)]
                    have hdb : byteB ((b.drop a).take (b.length - a)) := byteB.part (b := b) hbj a (b.length - a)
                    have hPa : pageAt b (from_ + acc.length) j = ⟨from_ + (m : Int), fb, true, false, (b.drop a).take (b.length - a)⟩ := by
                      rw [pageAt, HFb.out, HDb, HM.out]
                      simp only [Pg.mk.injEq, and_true, true_and]
                      refine ⟨by omega, ?_⟩
                      exact decide_eq_true (by omega)
                    have hdl : ((b.drop a).take (b.length - a)).length ≤ 1000000000 := by rw [hd]; omega
                    have HPa := Lib.hid hPa
                    have HDl := Lib.hid hd
                    clear hPa HDb
                    generalize (b.drop a).take (b.length - a) = d at *
                    have hl2 : (b.length : Int) < (a : Int) + 252 := by omega
                    clear ha hm hrc hd HX9 hlast
                    go_wp2_with (first
                      | (go_at_call 46; (with_reducible refine (HCl.out _ hby).mono ?_); rintro e w5 ⟨v5, rfl, ho5, hb5⟩; obtain ⟨A5, c5, rfl, hc5, hr5, _⟩ := ho5.form; have hown5 := hown3.keep PgR.good (Mod.of_fresh (M := fun _ => False) hb5) (fun _ _ _ h => h) (fun _ _ h => h); obtain ⟨_, _, hrs5⟩ := ho5.rds; have hpg : PgR w5 (fun b => wr.heap.size ≤ b ∧ b < w5.heap.size) [.int .i64 (from_ + (m : Int)), .bool fb, .bool true, .bool false, .slice A5 d.length c5] ⟨from_ + (m : Int), fb, true, false, d⟩ := ⟨A5, c5, rfl, hc5, hrs5.weak (fun b hb _ => ⟨hb.1, hb.2.1⟩), ⟨⟨(by simp only; omega), (by simp only; omega)⟩, (by simp only; omega), hdb⟩⟩)
                      | (at_builtin; refine wpList_push_G rfl (.tmp 69) (.tmp 83) _ rfl PgR.good w5 (.agg #[.int .i64 0, .bool false, .bool false, .bool false, .slice none 0 0]) 40 Try.underlying23 info_pg rfl (by omega) rfl hown5 (fun b => wr.heap.size ≤ b ∧ b < w5.heap.size) _ 1 [.int .i64 (from_ + (m : Int)), .bool fb, .bool true, .bool false, .slice A5 d.length c5] ⟨from_ + (m : Int), fb, true, false, d⟩ rfl rfl hpg (fun b => w1.heap.size ≤ b ∧ b ≤ w5.heap.size) (fun b hb _ => ⟨hb.1, Nat.le_of_lt (Nat.lt_of_lt_of_le hb.2 hb5.size)⟩) (fun b hb _ => ⟨Nat.le_trans hby.size hb.1, Nat.le_of_lt hb.2⟩) (fun b hb hS => Nat.lt_irrefl _ (Nat.lt_of_lt_of_le (hob3 b hb).2 hS.1)) (fun b hb => hb.2) ⟨Nat.le_trans hby.size hb5.size, Nat.le_refl _⟩ HLm.out (Nat.le_trans hby.size hb5.size) ?_; intro v6 w6 ho6 hg6 _))
                    refine ⟨⟨j + 1, by omega, ?_, ?_, ?_, ?_⟩, ?_⟩
                    · rw [show ((252 * (j + 1) : Nat) : Int) = (a : Int) + 252 by have := HA.out; omega]
                    · rw [HPt.out, HPa.out, ← List.append_assoc]
                      exact ho6.weak PgR.good (fun b hb hl => ⟨hb.1, hl⟩)
                    · exact Below.grown ((hby.trans (hb5.mono hby.size)).alloc (Nat.le_trans hby.size hb5.size) _) hg6 (by have h1 := hby.size; have h2 := hb5.size; simp; omega) (fun k e => (hob3 k e).1)
                    · have := HM.out; omega
                    · simp [intOf]; omega
                  · skip
                    have HX9 : ((a + 252) : Nat) - a = 252 := by omega
                    have hrc : RdI w1 w1.heap.size .u8 (Aj.map (fun x => x.add a)) ((b.drop a).take (252)) := by
                      have h := (RdI.cut hrj.top (n := a) (cap := cj) (by omega) hcj).take (n := 252) (by rw [List.length_drop]; omega)
                      rwa [if_neg (by omega)] at h
                    have hd : ((b.drop a).take (252)).length = 252 := by rw [List.length_take, List.length_drop]; omega
                    have HCl := Lib.hid (fun W (hW : Below w1.heap.size w1 W) => clone_any (Aj.map (fun x => x.add a)) (cj - a) ((b.drop a).take (252)) (by rw [hd]; omega) W w1.heap.size (hrc.below hW (Nat.le_refl _)) hW.size)
                    rw [hd] at HCl
                    have HDb : (b.drop a).take (252) = (b.drop (252 * j)).take 252 := by
                      rw [← ha]
                    have hdb : byteB ((b.drop a).take (252)) := byteB.part (b := b) hbj a (252)
                    have hPa : pageAt b (from_ + acc.length) j = ⟨from_ + (m : Int), fb, true, false, (b.drop a).take (252)⟩ := by
                      rw [pageAt, HFb.out, HDb, HM.out]
                      simp only [Pg.mk.injEq, and_true, true_and]
                      refine ⟨by omega, ?_⟩
                      exact decide_eq_true (by omega)
                    have hdl : ((b.drop a).take (252)).length ≤ 1000000000 := by rw [hd]; omega
                    have HPa := Lib.hid hPa
                    have HDl := Lib.hid hd
                    clear hPa HDb
                    generalize (b.drop a).take (252) = d at *
                    have hl2 : (a : Int) + 252 ≤ (b.length : Int) := by omega
                    have hl4 : (b.length : Int) ≤ (a : Int) + 252 := by omega
                    have e9 : ((a : Int) + 252).toNat - a = 252 := by omega
                    have hl3 : ((a : Int) + 252 == (b.length : Int)) = true := by rw [beq_iff_eq]; omega
                    clear ha hm hrc hd HX9 hlast
                    go_wp2_with (first
                      | (go_at_call 46; (with_reducible refine (HCl.out _ hby).mono ?_); rintro e w5 ⟨v5, rfl, ho5, hb5⟩; obtain ⟨A5, c5, rfl, hc5, hr5, _⟩ := ho5.form; have hown5 := hown3.keep PgR.good (Mod.of_fresh (M := fun _ => False) hb5) (fun _ _ _ h => h) (fun _ _ h => h); obtain ⟨_, _, hrs5⟩ := ho5.rds; have hpg : PgR w5 (fun b => wr.heap.size ≤ b ∧ b < w5.heap.size) [.int .i64 (from_ + (m : Int)), .bool fb, .bool true, .bool false, .slice A5 d.length c5] ⟨from_ + (m : Int), fb, true, false, d⟩ := ⟨A5, c5, rfl, hc5, hrs5.weak (fun b hb _ => ⟨hb.1, hb.2.1⟩), ⟨⟨(by simp only; omega), (by simp only; omega)⟩, (by simp only; omega), hdb⟩⟩)
                      | (at_builtin; refine wpList_push_G rfl (.tmp 69) (.tmp 83) _ rfl PgR.good w5 (.agg #[.int .i64 0, .bool false, .bool false, .bool false, .slice none 0 0]) 40 Try.underlying23 info_pg rfl (by omega) rfl hown5 (fun b => wr.heap.size ≤ b ∧ b < w5.heap.size) _ 1 [.int .i64 (from_ + (m : Int)), .bool fb, .bool true, .bool false, .slice A5 d.length c5] ⟨from_ + (m : Int), fb, true, false, d⟩ rfl rfl hpg (fun b => w1.heap.size ≤ b ∧ b ≤ w5.heap.size) (fun b hb _ => ⟨hb.1, Nat.le_of_lt (Nat.lt_of_lt_of_le hb.2 hb5.size)⟩) (fun b hb _ => ⟨Nat.le_trans hby.size hb.1, Nat.le_of_lt hb.2⟩) (fun b hb hS => Nat.lt_irrefl _ (Nat.lt_of_lt_of_le (hob3 b hb).2 hS.1)) (fun b hb => hb.2) ⟨Nat.le_trans hby.size hb5.size, Nat.le_refl _⟩ HLm.out (Nat.le_trans hby.size hb5.size) ?_; intro v6 w6 ho6 hg6 _))
                    refine ⟨⟨j + 1, by omega, ?_, ?_, ?_, ?_⟩, ?_⟩
                    · rw [show ((252 * (j + 1) : Nat) : Int) = (a : Int) + 252 by have := HA.out; omega]
                    · rw [HPt.out, HPa.out, ← List.append_assoc]
                      exact ho6.weak PgR.good (fun b hb hl => ⟨hb.1, hl⟩)
                    · exact Below.grown ((hby.trans (hb5.mono hby.size)).alloc (Nat.le_trans hby.size hb5.size) _) hg6 (by have h1 := hby.size; have h2 := hb5.size; simp; omega) (fun k e => (hob3 k e).1)
                    · have := HM.out; omega
                    · simp [intOf]; omega
                  · skip
                    have HX9 : ((a + 252) : Nat) - a = 252 := by omega
                    have hrc : RdI w1 w1.heap.size .u8 (Aj.map (fun x => x.add a)) ((b.drop a).take (252)) := by
                      have h := (RdI.cut hrj.top (n := a) (cap := cj) (by omega) hcj).take (n := 252) (by rw [List.length_drop]; omega)
                      rwa [if_neg (by omega)] at h
                    have hd : ((b.drop a).take (252)).length = 252 := by rw [List.length_take, List.length_drop]; omega
                    have HCl := Lib.hid (fun W (hW : Below w1.heap.size w1 W) => clone_any (Aj.map (fun x => x.add a)) (cj - a) ((b.drop a).take (252)) (by rw [hd]; omega) W w1.heap.size (hrc.below hW (Nat.le_refl _)) hW.size)
                    rw [hd] at HCl
                    have HDb : (b.drop a).take (252) = (b.drop (252 * j)).take 252 := by
                      rw [← ha]
                    have hdb : byteB ((b.drop a).take (252)) := byteB.part (b := b) hbj a (252)
                    have hPa : pageAt b (from_ + acc.length) j = ⟨from_ + (m : Int), fb, false, false, (b.drop a).take (252)⟩ := by
                      rw [pageAt, HFb.out, HDb, HM.out]
                      simp only [Pg.mk.injEq, and_true, true_and]
                      refine ⟨by omega, ?_⟩
                      exact decide_eq_false (by omega)
                    have hdl : ((b.drop a).take (252)).length ≤ 1000000000 := by rw [hd]; omega
                    have HPa := Lib.hid hPa
                    have HDl := Lib.hid hd
                    clear hPa HDb
                    generalize (b.drop a).take (252) = d at *
                    have hl2 : (a : Int) + 252 < (b.length : Int) := by omega
                    have e9 : ((a : Int) + 252).toNat - a = 252 := by omega
                    have hl3 : ((a : Int) + 252 == (b.length : Int)) = false := by rw [beq_eq_false_iff_ne]; omega
                    clear ha hm hrc hd HX9 hlast
                    go_wp2_with (first
                      | (go_at_call 46; (with_reducible refine (HCl.out _ hby).mono ?_); rintro e w5 ⟨v5, rfl, ho5, hb5⟩; obtain ⟨A5, c5, rfl, hc5, hr5, _⟩ := ho5.form; have hown5 := hown3.keep PgR.good (Mod.of_fresh (M := fun _ => False) hb5) (fun _ _ _ h => h) (fun _ _ h => h); obtain ⟨_, _, hrs5⟩ := ho5.rds; have hpg : PgR w5 (fun b => wr.heap.size ≤ b ∧ b < w5.heap.size) [.int .i64 (from_ + (m : Int)), .bool fb, .bool false, .bool false, .slice A5 d.length c5] ⟨from_ + (m : Int), fb, false, false, d⟩ := ⟨A5, c5, rfl, hc5, hrs5.weak (fun b hb _ => ⟨hb.1, hb.2.1⟩), ⟨⟨(by simp only; omega), (by simp only; omega)⟩, (by simp only; omega), hdb⟩⟩)
                      | (at_builtin; refine wpList_push_G rfl (.tmp 69) (.tmp 83) _ rfl PgR.good w5 (.agg #[.int .i64 0, .bool false, .bool false, .bool false, .slice none 0 0]) 40 Try.underlying23 info_pg rfl (by omega) rfl hown5 (fun b => wr.heap.size ≤ b ∧ b < w5.heap.size) _ 1 [.int .i64 (from_ + (m : Int)), .bool fb, .bool false, .bool false, .slice A5 d.length c5] ⟨from_ + (m : Int), fb, false, false, d⟩ rfl rfl hpg (fun b => w1.heap.size ≤ b ∧ b ≤ w5.heap.size) (fun b hb _ => ⟨hb.1, Nat.le_of_lt (Nat.lt_of_lt_of_le hb.2 hb5.size)⟩) (fun b hb _ => ⟨Nat.le_trans hby.size hb.1, Nat.le_of_lt hb.2⟩) (fun b hb hS => Nat.lt_irrefl _ (Nat.lt_of_lt_of_le (hob3 b hb).2 hS.1)) (fun b hb => hb.2) ⟨Nat.le_trans hby.size hb5.size, Nat.le_refl _⟩ HLm.out (Nat.le_trans hby.size hb5.size) ?_; intro v6 w6 ho6 hg6 _))
                    refine ⟨⟨j + 1, by omega, ?_, ?_, ?_, ?_⟩, ?_⟩
                    · rw [show ((252 * (j + 1) : Nat) : Int) = (a : Int) + 252 by have := HA.out; omega]
                    · rw [HPt.out, HPa.out, ← List.append_assoc]
                      exact ho6.weak PgR.good (fun b hb hl => ⟨hb.1, hl⟩)
                    · exact Below.grown ((hby.trans (hb5.mono hby.size)).alloc (Nat.le_trans hby.size hb5.size) _) hg6 (by have h1 := hby.size; have h2 := hb5.size; simp; omega) (fun k e => (hob3 k e).1)
                    · have := HM.out; omega
                    · simp [intOf]; omega
              · have hjN : j = nPages b := by omega
                have hge : ¬ (252 * j < b.length) := fun h => hjn (nPages_lt.2 h)
                have hge2 : ¬ (((252 * j : Nat) : Int) < (b.length : Int)) := by omega
                have HX := Lib.hid hjN
                clear hjN hjn
                generalize 252 * j = a at *
                go_wp2
                go_roundw
                case rel =>
                  refine ⟨k + 1, by omega, by go_num, ?_, hby, ?_⟩
                  · rw [HT.out, HS.out]
                    have e : (pagesOf b (from_ + acc.length)).take j = pagesOf b (from_ + acc.length) := List.take_of_length_le (by rw [pagesOf_len, HX.out]; exact Nat.le_refl _)
                    rw [e] at hown3' ⊢
                    exact hown3'
                  · rw [HT.out, HS.out, List.length_append, pagesOf_len, ← HX.out]; omega
                case measure => simp [intOf]; omega
          · have hkl : k = bs.length := by omega
            subst hkl
            rw [List.take_length] at hown hfl
            have hEE : E = 0 := by rw [hE2.out, if_neg (by omega)]
            have hPP : P = pagesAll from_ bs := by rw [HP.out, if_pos hEE]
            subst hEE hPP
            clear hE2 HP
            go_wp2
            go_ret2
            have hsz2 := hbel.size
            exact ⟨_, rfl, (hown.base_ hsz2).weak PgR.good (fun b hb _ => ⟨by omega, hb.2⟩), hbel.trans (hbx.mono hsz2)⟩
end Go.Proofs.Ytdnkdjaokmibjaa
