/- The reference's PageSplit. Printed by genrsplit.py. -/
import Derived.Test.YtaimjlnhdobgeaaPgSplitL
import Derived.Test.YtaimjlnhdobgeaaPkOpenL
import Derived.Test.YtaimjlnhdobgeaaPkInfo
import Derived.Test.YtaimjlnhdobgeaaPkRLay
import Derived.Test.YtaimjlnhdobgeaaPkVal
set_option linter.unusedSimpArgs false
set_option linter.unusedVariables false
namespace Go.Proofs.Ytaimjlnhdobgeaa
open Go.RowKit

theorem sum_take {α : Type} (g : α → Nat) : ∀ (l : List α) (k : Nat) (hk : k < l.length), ((l.take k).map g).sum + g l[k] ≤ (l.map g).sum
  | [], k, hk => absurd hk (by simp)
  | x :: l, 0, _ => by simp
  | x :: l, k + 1, hk => by
    have := sum_take g l k (by simpa using hk)
    simp only [List.take_succ_cons, List.map_cons, List.sum_cons, List.getElem_cons_succ]
    omega
theorem pages_le (f : Int) {l : List Pk} {k : Nat} (hk : k < l.length) : (pagesAll f ((l.take k).map Pk.bytes)).length + nPages l[k].bytes ≤ (l.map fun p => nPages p.bytes).sum := by
  rw [pagesAll_len, List.map_map]
  exact sum_take (fun p => nPages p.bytes) l k hk

set_option maxHeartbeats 8000000 in
set_option maxRecDepth 100000 in
theorem rsplit_any {l : List Pk} {A : Option Addr} {c : Nat} {S : Nat → Prop} {w : World} (hr : RdPk w S A l) (hl : l.length ≤ 1000000000) (from_ : Int) (h0 : -9223372036854775808 ≤ from_) (h1 : from_ ≤ 9223372036854775807) (hsm : (l.map fun p => nPages p.bytes).sum ≤ 1000000) :
    Calls Try.prog 15 #[.slice A l.length c, .int .i64 from_] w (SplitPost w (splitP l from_) (splitE l from_)) := by
  have HE := Lib.hid (show splitE l from_ = if from_ < 0 ∨ 2147483647 < from_ then 1 else if layBad l ≠ 0 then layBad l else if 0 < (pagesAll from_ (l.map Pk.bytes)).length ∧ 2147483647 < from_ + (pagesAll from_ (l.map Pk.bytes)).length - 1 then 4 else 0 from rfl)
  have HP := Lib.hid (show splitP l from_ = if splitE l from_ = 0 then pagesAll from_ (l.map Pk.bytes) else [] from rfl)
  have HSm := Lib.hid hsm
  have HLen := Lib.hid (show (pagesAll from_ (l.map Pk.bytes)).length ≤ 1000000 by rw [pagesAll_len, List.map_map]; exact hsm)
  clear hsm
  generalize splitE l from_ = E at *
  generalize splitP l from_ = P at *
  by_cases hf : from_ < 0 ∨ 2147483647 < from_
  · have HE2 : E = 1 := by rw [HE.out, if_pos hf]
    subst HE2
    have HP2 : P = [] := by rw [HP.out, if_neg (by omega)]
    subst HP2
    clear HE HP HLen
    rcases hf with hf | hf
    · go_enter Try.func15, Try.ntmps15
      go_wp2
      go_ret2
      exact ⟨_, rfl, OwnG.nil_ _ _ _ _ _ _, Below.refl _ _⟩
    · have hf0 : ¬ from_ < 0 := by omega
      go_enter Try.func15, Try.ntmps15
      go_wp2
      go_ret2
      exact ⟨_, rfl, OwnG.nil_ _ _ _ _ _ _, Below.refl _ _⟩
  · have hE1 := Lib.hid (HE.out.trans (if_neg hf))
    have hf1 : 0 ≤ from_ := by omega
    have hf2 : from_ ≤ 2147483647 := by omega
    clear HE hf h0 h1
    have HB := Lib.hid (fun W' (hb : Below w.heap.size w W') => hr.below PkR.good hb)
    clear hr
    go_enter Try.func15, Try.ntmps15
    go_wp2
    go_loopw [6, 7] (fun v i wr => ∃ k : Nat, k ≤ l.length ∧ i = .int .i64 k ∧ (∀ p ∈ l.take k, layE p = 0) ∧ OwnG PgR 5 56 wr w.heap.size (fun b => w.heap.size ≤ b ∧ b < wr.heap.size) v (pagesAll from_ ((l.take k).map Pk.bytes)) ∧ Below w.heap.size w wr) (fun _ i _ => l.length - (intOf i).toNat)
    case atStart => exact ⟨0, Nat.zero_le _, rfl, by simp, OwnG.nil_ _ _ _ _ _ _, Below.refl _ _⟩
    case round =>
      obtain ⟨k, hk, rfl, hno, hown, hbel⟩ := hrel
      have HNo := Lib.hid hno
      clear hno
      by_cases hlt : k < l.length
      · obtain ⟨ad, p, Aj, cj, rfl, _, hp, e0, e1, e2, e3, e4, e5, hcj, hrj, hwj⟩ := RdPk.at_ (HB.out _ hbel) hlt
        have HL := Lib.hid (rlay_any l[k] Aj cj hwj wr hrj.top)
        have HT := Lib.hid (show l.take (k + 1) = l.take k ++ [l[k]] from List.take_succ_eq_append_getElem hlt)
        have HX := Lib.hid (layBad_some hlt HNo.out)
        have HLb := Lib.hid (show layB l[k] = if layE l[k] = 0 then l[k].bytes else [] from rfl)
        have HBy := Lib.hid (fun (h : layE l[k] = 0) => bytes_byte h hwj)
        have HBl := Lib.hid (bytes_len l[k])
        have HBk := Lib.hid (fun (h : layE l[k] = 0) => layOk_len h)
        have HPl := Lib.hid (Nat.le_trans (pages_le from_ hlt) HSm.out)
        have HSn := Lib.hid (show pagesAll from_ ((l.take k).map Pk.bytes ++ [l[k].bytes]) = pagesAll from_ ((l.take k).map Pk.bytes) ++ pagesOf l[k].bytes (from_ + (pagesAll from_ ((l.take k).map Pk.bytes)).length) from pagesAll_snoc _ _ _)
        generalize hacc : pagesAll from_ ((l.take k).map Pk.bytes) = acc at *
        have HAcc := Lib.hid hacc
        clear hacc
        generalize l[k] = q at *
        generalize hEq : layE q = E' at *
        have HE0 := Lib.hid hEq
        clear hEq
        generalize layB q = B' at *
        obtain ⟨q1, q2, q3, q4, q5, q6⟩ := q
        simp only [Pk.val] at HL e0 e1 e2 e3 e4 e5 hcj
        by_cases hE' : E' = 0
        · subst hE'
          have hB' : B' = Pk.bytes ⟨q1, q2, q3, q4, q5, q6⟩ := by rw [HLb.out, if_pos rfl]
          subst hB'
          have hbj := HBy.out (by first | rfl | trivial)
          have hbl65 : (Pk.bytes ⟨q1, q2, q3, q4, q5, q6⟩).length ≤ 65554 := by have := HBl.out; have := HBk.out rfl; simp only at *; omega
          generalize hb9 : Pk.bytes ⟨q1, q2, q3, q4, q5, q6⟩ = b at *
          have HB9 := Lib.hid hb9
          clear hb9
          go_wp2_with (first
            | (go_at_call 32; (with_reducible refine HL.out.mono ?_); rintro e w2 ⟨v2, rfl, ho2, hb2⟩; obtain ⟨A2, c2, rfl, hc2, hr2, hA2⟩ := ho2.form))
          have hz2 := hb2.size
          obtain ⟨hA0, hA0', hr2s⟩ := ho2.rds
          have hr2s := RdS.weak (S' := fun g => wr.heap.size ≤ g ∧ g < w2.heap.size) hr2s (fun g hg _ => ⟨hg.1, hg.2.1⟩)
          have hown2 := (hown.keep PgR.good (M := fun _ => False) (Mod.of_fresh hb2) (fun _ _ _ h => h) (fun _ _ h => h)).weak PgR.good (D' := fun b => w.heap.size ≤ b ∧ b < w2.heap.size) (fun b hb hl => ⟨hb.1, hl⟩)
          have hob2 := hown.own_ge
          have hb02 := hbel.trans (hb2.mono hbel.size)
          have HOwn := Lib.hid hown2
          have HHob := Lib.hid hob2
          have HR2 := Lib.hid hr2s
          clear hr2 hA2 ho2 hown hb2 hp e0 e1 e2 e3 e4 e5 hrj hwj hr2s hown2 hob2
          obtain ⟨wo, rfl⟩ : ∃ wo : World, wo = wr := ⟨_, rfl⟩
          go_loopw [6, 10] (fun v i wy => ∃ j : Nat, j ≤ nPages b ∧ i = .int .i64 ((252 * j : Nat) : Int) ∧ OwnG PgR 5 56 wy w.heap.size (fun b => w.heap.size ≤ b ∧ b < wy.heap.size) v (acc ++ (pagesOf b (from_ + acc.length)).take j) ∧ Below w.heap.size w wy ∧ RdS wy (fun g => wo.heap.size ≤ g ∧ g < w2.heap.size) .u8 A2 b ∧ (∀ g, v.ownBlock = some g → g < wo.heap.size ∨ w2.heap.size ≤ g ∧ g < wy.heap.size) ∧ w2.heap.size ≤ wy.heap.size) (fun _ i _ => b.length - (intOf i).toNat)
          case atStart => exact ⟨0, Nat.zero_le _, rfl, by simpa using HOwn.out, hb02, HR2.out, fun g hg => .inl (HHob.out g hg).2, Nat.le_refl _⟩
          case round =>
            obtain ⟨j, hj, rfl, hown3, hby, hbs, hvb, hz2⟩ := hrel
            have hlen : (acc ++ (pagesOf b (from_ + acc.length)).take j).length = acc.length + j := by rw [List.length_append, List.length_take, pagesOf_len]; omega
            obtain ⟨A3, c3, rfl, hc3, _, hob3⟩ := hown3.form PgR.good
            have hown3' := hown3
            by_cases hjn : j < nPages b
            · have hjb := nPages_lt.1 hjn
              have HPt := Lib.hid (pagesOf_take (s := from_ + acc.length) hjn)
              rw [hlen] at hown3 hc3 hob3 hvb
              rw [hlen]
              have hm6 : acc.length + j ≤ 1000000 := by have := HPl.out; omega
              obtain ⟨m, hm⟩ : ∃ m, m = acc.length + j := ⟨_, rfl⟩
              obtain ⟨a, ha⟩ : ∃ a, a = 252 * j := ⟨_, rfl⟩
              rw [← hm] at hown3 hc3 hob3 hvb hm6 ⊢
              rw [← ha] at hjb ⊢
              have hsq : IntKind.i64.wrap (from_ + (m : Int)) = from_ + (m : Int) := IntWalk.i64_in _ (by omega)
              obtain ⟨fb, hfb⟩ : ∃ fb, fb = decide (j = 0) := ⟨_, rfl⟩
              have t6 : ((a : Int) == 0) = fb := by rw [hfb, ha, Bool.eq_iff_iff]; simp; omega
              have HFb := Lib.hid hfb
              have HA := Lib.hid ha
              have HM := Lib.hid hm
              clear hfb
              have HLm := Lib.hid (show (acc ++ (pagesOf b (from_ + acc.length)).take j).length ≤ 3999999999 by rw [hlen]; omega)
              rcases Nat.lt_trichotomy b.length (a + 252) with hlast | hlast | hlast
              · have hEn : a + (b.length - a) ≤ b.length := by omega
                obtain ⟨Ad, hrun, hrc, _⟩ := (RdS.top hbs).slice_lh Try.underlying27 info_u8 (lo := a) (hh := b.length) (by omega) (by omega) hc2
                (try simp only [Nat.sub_zero] at hrun hrc)
                have hd : ((b.drop a).take (b.length - a)).length = b.length - a := by rw [List.length_take, List.length_drop]; omega
                have HDb : (b.drop a).take (b.length - a) = (b.drop (252 * j)).take 252 := by
                  rw [← ha]
                  try rw [List.take_of_length_le (by simp), List.take_of_length_le (by simp; omega)]
                have hdb : byteB ((b.drop a).take (b.length - a)) := byteB.part (b := b) hbj a (b.length - a)
                have hPa : pageAt b (from_ + acc.length) j = ⟨from_ + (m : Int), fb, true, false, (b.drop a).take (b.length - a)⟩ := by
                  rw [pageAt, HFb.out, HDb, HM.out]
                  simp only [Pg.mk.injEq, and_true, true_and]
                  refine ⟨by omega, ?_⟩
                  exact decide_eq_true (by omega)
                have hdl : ((b.drop a).take (b.length - a)).length ≤ 252 := by rw [hd]; omega
                have HPa := Lib.hid hPa
                have HDl := Lib.hid hd
                clear hPa HDb
                generalize (b.drop a).take (b.length - a) = d at *
                have hl2 : (b.length : Int) < (a : Int) + 252 := by omega
                clear ha hm hd hlast
                go_wp2_with (first
                  | (at_builtin; (refine wpList_append_int _ rfl (.tmp 57) (.tmp 61) _ rfl wr wr.heap.size wr.heap.size 5 .u8 1 Try.underlying27 info_u8 _ [] rfl (OwnI.empty _ _ _ _ (Nat.le_refl _)) _ Ad _ _ d rfl HDl.out.symm (hrc.alloc (Nat.le_refl _) _) (by simp; omega) (by omega) (below_alloc (Below.refl _ _) _) (Nat.le_refl _) (by simp) ?_); intro v5 w5 ow5 hb5; rw [List.nil_append] at ow5; obtain ⟨A5, c5, rfl, hc5, hr5, _⟩ := ow5.form; have hown5 := hown3.keep PgR.good (Mod.of_fresh (M := fun _ => False) hb5) (fun _ _ _ h => h) (fun _ _ h => h); obtain ⟨_, _, hrs5⟩ := ow5.rds; have hpg : PgR w5 (fun b => wr.heap.size ≤ b ∧ b < w5.heap.size) [.int .i64 (from_ + (m : Int)), .bool fb, .bool true, .bool false, .slice A5 d.length c5] ⟨from_ + (m : Int), fb, true, false, d⟩ := ⟨A5, c5, rfl, hc5, hrs5.weak (fun b hb _ => ⟨hb.1, hb.2.1⟩), ⟨⟨(by simp only; omega), (by simp only; omega)⟩, (by simp only; omega), hdb⟩⟩)
                  | (at_builtin; refine wpList_push_G rfl (.tmp 46) (.tmp 64) _ rfl PgR.good w5 (.agg #[.int .i64 0, .bool false, .bool false, .bool false, .slice none 0 0]) 40 Try.underlying42 info_pg rfl (by omega) rfl hown5 (fun b => wr.heap.size ≤ b ∧ b < w5.heap.size) _ 1 [.int .i64 (from_ + (m : Int)), .bool fb, .bool true, .bool false, .slice A5 d.length c5] ⟨from_ + (m : Int), fb, true, false, d⟩ rfl rfl hpg (fun b => w.heap.size ≤ b ∧ b ≤ w5.heap.size) (fun b hb _ => ⟨hb.1, Nat.le_of_lt (Nat.lt_of_lt_of_le hb.2 hb5.size)⟩) (fun b hb _ => ⟨Nat.le_trans hby.size hb.1, Nat.le_of_lt hb.2⟩) (fun b hb hS => Nat.lt_irrefl _ (Nat.lt_of_lt_of_le (hob3 b hb).2 hS.1)) (fun b hb => hb.2) ⟨Nat.le_trans hby.size hb5.size, Nat.le_refl _⟩ HLm.out (Nat.le_trans hby.size hb5.size) ?_; intro v6 w6 ho6 hg6 hv6))
                have hMg : Mod (fun g => (Value.slice A3 m c3).ownBlock = some g) wr w6 := ((Mod.of_fresh hb5).alloc _).then_ (Mod.of_grown hg6 (fun g e _ => e))
                have hz6 := hMg.size
                refine ⟨⟨j + 1, by omega, ?_, ?_, ?_, RdS.keep hbs hMg (fun g hg _ e => ?_), fun g e => ?_, by omega⟩, ?_⟩
                · rw [show ((252 * (j + 1) : Nat) : Int) = (a : Int) + 252 by have := HA.out; omega]
                · rw [HPt.out, HPa.out, ← List.append_assoc]
                  exact ho6.weak PgR.good (fun b hb hl => ⟨hb.1, hl⟩)
                · exact Below.grown ((hby.trans (hb5.mono hby.size)).alloc (Nat.le_trans hby.size hb5.size) _) hg6 (by have h1 := hby.size; have h2 := hb5.size; simp; omega) (fun k e => (hob3 k e).1)
                · have := hvb g e; omega
                · rcases hv6 with hv6 | hv6
                  · have := hvb g (hv6.symm.trans e); omega
                  · have h9 := (ho6.own_ge g e).2; rw [hv6] at e; injection e with e; have h8 := hb5.size; omega
                · simp [intOf]; omega
              · have hEn : a + (252) ≤ b.length := by omega
                obtain ⟨Ad, hrun, hrc, _⟩ := (RdS.top hbs).slice_lh Try.underlying27 info_u8 (lo := a) (hh := a + 252) (by omega) (by omega) hc2
                (try simp only [Nat.add_sub_cancel_left, show ((a + 252 : Nat) : Int) = (a : Int) + 252 by simp] at hrun hrc)
                have hd : ((b.drop a).take (252)).length = 252 := by rw [List.length_take, List.length_drop]; omega
                have HDb : (b.drop a).take (252) = (b.drop (252 * j)).take 252 := by
                  rw [← ha]
                  try rw [List.take_of_length_le (by simp), List.take_of_length_le (by simp; omega)]
                have hdb : byteB ((b.drop a).take (252)) := byteB.part (b := b) hbj a (252)
                have hPa : pageAt b (from_ + acc.length) j = ⟨from_ + (m : Int), fb, true, false, (b.drop a).take (252)⟩ := by
                  rw [pageAt, HFb.out, HDb, HM.out]
                  simp only [Pg.mk.injEq, and_true, true_and]
                  refine ⟨by omega, ?_⟩
                  exact decide_eq_true (by omega)
                have hdl : ((b.drop a).take (252)).length ≤ 252 := by rw [hd]; omega
                have HPa := Lib.hid hPa
                have HDl := Lib.hid hd
                clear hPa HDb
                generalize (b.drop a).take (252) = d at *
                have hl2 : (a : Int) + 252 ≤ (b.length : Int) := by omega
                have hl4 : (b.length : Int) ≤ (a : Int) + 252 := by omega
                have hl3 : ((a : Int) + 252 == (b.length : Int)) = true := by rw [beq_iff_eq]; omega
                clear ha hm hd hlast
                go_wp2_with (first
                  | (at_builtin; (refine wpList_append_int _ rfl (.tmp 57) (.tmp 61) _ rfl wr wr.heap.size wr.heap.size 5 .u8 1 Try.underlying27 info_u8 _ [] rfl (OwnI.empty _ _ _ _ (Nat.le_refl _)) _ Ad _ _ d rfl HDl.out.symm (hrc.alloc (Nat.le_refl _) _) (by simp; omega) (by omega) (below_alloc (Below.refl _ _) _) (Nat.le_refl _) (by simp) ?_); intro v5 w5 ow5 hb5; rw [List.nil_append] at ow5; obtain ⟨A5, c5, rfl, hc5, hr5, _⟩ := ow5.form; have hown5 := hown3.keep PgR.good (Mod.of_fresh (M := fun _ => False) hb5) (fun _ _ _ h => h) (fun _ _ h => h); obtain ⟨_, _, hrs5⟩ := ow5.rds; have hpg : PgR w5 (fun b => wr.heap.size ≤ b ∧ b < w5.heap.size) [.int .i64 (from_ + (m : Int)), .bool fb, .bool true, .bool false, .slice A5 d.length c5] ⟨from_ + (m : Int), fb, true, false, d⟩ := ⟨A5, c5, rfl, hc5, hrs5.weak (fun b hb _ => ⟨hb.1, hb.2.1⟩), ⟨⟨(by simp only; omega), (by simp only; omega)⟩, (by simp only; omega), hdb⟩⟩)
                  | (at_builtin; refine wpList_push_G rfl (.tmp 46) (.tmp 64) _ rfl PgR.good w5 (.agg #[.int .i64 0, .bool false, .bool false, .bool false, .slice none 0 0]) 40 Try.underlying42 info_pg rfl (by omega) rfl hown5 (fun b => wr.heap.size ≤ b ∧ b < w5.heap.size) _ 1 [.int .i64 (from_ + (m : Int)), .bool fb, .bool true, .bool false, .slice A5 d.length c5] ⟨from_ + (m : Int), fb, true, false, d⟩ rfl rfl hpg (fun b => w.heap.size ≤ b ∧ b ≤ w5.heap.size) (fun b hb _ => ⟨hb.1, Nat.le_of_lt (Nat.lt_of_lt_of_le hb.2 hb5.size)⟩) (fun b hb _ => ⟨Nat.le_trans hby.size hb.1, Nat.le_of_lt hb.2⟩) (fun b hb hS => Nat.lt_irrefl _ (Nat.lt_of_lt_of_le (hob3 b hb).2 hS.1)) (fun b hb => hb.2) ⟨Nat.le_trans hby.size hb5.size, Nat.le_refl _⟩ HLm.out (Nat.le_trans hby.size hb5.size) ?_; intro v6 w6 ho6 hg6 hv6))
                have hMg : Mod (fun g => (Value.slice A3 m c3).ownBlock = some g) wr w6 := ((Mod.of_fresh hb5).alloc _).then_ (Mod.of_grown hg6 (fun g e _ => e))
                have hz6 := hMg.size
                refine ⟨⟨j + 1, by omega, ?_, ?_, ?_, RdS.keep hbs hMg (fun g hg _ e => ?_), fun g e => ?_, by omega⟩, ?_⟩
                · rw [show ((252 * (j + 1) : Nat) : Int) = (a : Int) + 252 by have := HA.out; omega]
                · rw [HPt.out, HPa.out, ← List.append_assoc]
                  exact ho6.weak PgR.good (fun b hb hl => ⟨hb.1, hl⟩)
                · exact Below.grown ((hby.trans (hb5.mono hby.size)).alloc (Nat.le_trans hby.size hb5.size) _) hg6 (by have h1 := hby.size; have h2 := hb5.size; simp; omega) (fun k e => (hob3 k e).1)
                · have := hvb g e; omega
                · rcases hv6 with hv6 | hv6
                  · have := hvb g (hv6.symm.trans e); omega
                  · have h9 := (ho6.own_ge g e).2; rw [hv6] at e; injection e with e; have h8 := hb5.size; omega
                · simp [intOf]; omega
              · have hEn : a + (252) ≤ b.length := by omega
                obtain ⟨Ad, hrun, hrc, _⟩ := (RdS.top hbs).slice_lh Try.underlying27 info_u8 (lo := a) (hh := a + 252) (by omega) (by omega) hc2
                (try simp only [Nat.add_sub_cancel_left, show ((a + 252 : Nat) : Int) = (a : Int) + 252 by simp] at hrun hrc)
                have hd : ((b.drop a).take (252)).length = 252 := by rw [List.length_take, List.length_drop]; omega
                have HDb : (b.drop a).take (252) = (b.drop (252 * j)).take 252 := by
                  rw [← ha]
                  try rw [List.take_of_length_le (by simp), List.take_of_length_le (by simp; omega)]
                have hdb : byteB ((b.drop a).take (252)) := byteB.part (b := b) hbj a (252)
                have hPa : pageAt b (from_ + acc.length) j = ⟨from_ + (m : Int), fb, false, false, (b.drop a).take (252)⟩ := by
                  rw [pageAt, HFb.out, HDb, HM.out]
                  simp only [Pg.mk.injEq, and_true, true_and]
                  refine ⟨by omega, ?_⟩
                  exact decide_eq_false (by omega)
                have hdl : ((b.drop a).take (252)).length ≤ 252 := by rw [hd]; omega
                have HPa := Lib.hid hPa
                have HDl := Lib.hid hd
                clear hPa HDb
                generalize (b.drop a).take (252) = d at *
                have hl2 : (a : Int) + 252 < (b.length : Int) := by omega
                have hl3 : ((a : Int) + 252 == (b.length : Int)) = false := by rw [beq_eq_false_iff_ne]; omega
                clear ha hm hd hlast
                go_wp2_with (first
                  | (at_builtin; (refine wpList_append_int _ rfl (.tmp 57) (.tmp 61) _ rfl wr wr.heap.size wr.heap.size 5 .u8 1 Try.underlying27 info_u8 _ [] rfl (OwnI.empty _ _ _ _ (Nat.le_refl _)) _ Ad _ _ d rfl HDl.out.symm (hrc.alloc (Nat.le_refl _) _) (by simp; omega) (by omega) (below_alloc (Below.refl _ _) _) (Nat.le_refl _) (by simp) ?_); intro v5 w5 ow5 hb5; rw [List.nil_append] at ow5; obtain ⟨A5, c5, rfl, hc5, hr5, _⟩ := ow5.form; have hown5 := hown3.keep PgR.good (Mod.of_fresh (M := fun _ => False) hb5) (fun _ _ _ h => h) (fun _ _ h => h); obtain ⟨_, _, hrs5⟩ := ow5.rds; have hpg : PgR w5 (fun b => wr.heap.size ≤ b ∧ b < w5.heap.size) [.int .i64 (from_ + (m : Int)), .bool fb, .bool false, .bool false, .slice A5 d.length c5] ⟨from_ + (m : Int), fb, false, false, d⟩ := ⟨A5, c5, rfl, hc5, hrs5.weak (fun b hb _ => ⟨hb.1, hb.2.1⟩), ⟨⟨(by simp only; omega), (by simp only; omega)⟩, (by simp only; omega), hdb⟩⟩)
                  | (at_builtin; refine wpList_push_G rfl (.tmp 46) (.tmp 64) _ rfl PgR.good w5 (.agg #[.int .i64 0, .bool false, .bool false, .bool false, .slice none 0 0]) 40 Try.underlying42 info_pg rfl (by omega) rfl hown5 (fun b => wr.heap.size ≤ b ∧ b < w5.heap.size) _ 1 [.int .i64 (from_ + (m : Int)), .bool fb, .bool false, .bool false, .slice A5 d.length c5] ⟨from_ + (m : Int), fb, false, false, d⟩ rfl rfl hpg (fun b => w.heap.size ≤ b ∧ b ≤ w5.heap.size) (fun b hb _ => ⟨hb.1, Nat.le_of_lt (Nat.lt_of_lt_of_le hb.2 hb5.size)⟩) (fun b hb _ => ⟨Nat.le_trans hby.size hb.1, Nat.le_of_lt hb.2⟩) (fun b hb hS => Nat.lt_irrefl _ (Nat.lt_of_lt_of_le (hob3 b hb).2 hS.1)) (fun b hb => hb.2) ⟨Nat.le_trans hby.size hb5.size, Nat.le_refl _⟩ HLm.out (Nat.le_trans hby.size hb5.size) ?_; intro v6 w6 ho6 hg6 hv6))
                have hMg : Mod (fun g => (Value.slice A3 m c3).ownBlock = some g) wr w6 := ((Mod.of_fresh hb5).alloc _).then_ (Mod.of_grown hg6 (fun g e _ => e))
                have hz6 := hMg.size
                refine ⟨⟨j + 1, by omega, ?_, ?_, ?_, RdS.keep hbs hMg (fun g hg _ e => ?_), fun g e => ?_, by omega⟩, ?_⟩
                · rw [show ((252 * (j + 1) : Nat) : Int) = (a : Int) + 252 by have := HA.out; omega]
                · rw [HPt.out, HPa.out, ← List.append_assoc]
                  exact ho6.weak PgR.good (fun b hb hl => ⟨hb.1, hl⟩)
                · exact Below.grown ((hby.trans (hb5.mono hby.size)).alloc (Nat.le_trans hby.size hb5.size) _) hg6 (by have h1 := hby.size; have h2 := hb5.size; simp; omega) (fun k e => (hob3 k e).1)
                · have := hvb g e; omega
                · rcases hv6 with hv6 | hv6
                  · have := hvb g (hv6.symm.trans e); omega
                  · have h9 := (ho6.own_ge g e).2; rw [hv6] at e; injection e with e; have h8 := hb5.size; omega
                · simp [intOf]; omega
            · have hjN : j = nPages b := by omega
              have hge : ¬ (252 * j < b.length) := fun h => hjn (nPages_lt.2 h)
              have hge2 : ¬ (((252 * j : Nat) : Int) < (b.length : Int)) := by omega
              have HXN := Lib.hid hjN
              clear hjN hjn
              generalize 252 * j = a at *
              go_wp2
              go_roundw
              case rel =>
                refine ⟨k + 1, by omega, by go_num, ?_, ?_, hby⟩
                · rw [HT.out]
                  intro p hp
                  rcases List.mem_append.1 hp with hp | hp
                  · exact HNo.out p hp
                  · rw [List.mem_singleton] at hp; rw [hp]; exact HE0.out
                · rw [HT.out, List.map_append, List.map_cons, List.map_nil, HB9.out, HSn.out]
                  have e : (pagesOf b (from_ + acc.length)).take j = pagesOf b (from_ + acc.length) := List.take_of_length_le (by rw [pagesOf_len, HXN.out]; exact Nat.le_refl _)
                  rw [e] at hown3' ⊢
                  exact hown3'
              case measure => simp [intOf]; omega
        · have t9 : (E' != 0) = true := by rw [bne_iff_ne]; exact hE'
          have HXX := HX.out hE'
          have hEE : E = E' := by
            rw [hE1.out, HXX, if_pos hE']
          have hPP : P = [] := by rw [HP.out, if_neg (by rw [hEE]; exact hE')]
          subst hPP hEE
          clear hE' HXX HX
          go_wp2_with (first
            | (go_at_call 32; (with_reducible refine HL.out.mono ?_); rintro e w2 ⟨v2, rfl, ho2, hb2⟩))
          go_ret2
          exact ⟨_, rfl, OwnG.nil_ _ _ _ _ _ _, hbel.trans (hb2.mono hbel.size)⟩
      · have hkl : k = l.length := by omega
        subst hkl
        rw [List.take_length] at hown HNo
        have hLB : layBad l = 0 := layBad_none HNo.out
        have hE2 := Lib.hid (hE1.out.trans (if_neg (by simp [hLB])))
        have hn6 := HLen.out
        clear hLB hE1 HNo HSm
        generalize pagesAll from_ (l.map Pk.bytes) = ps at *
        obtain ⟨A3, c3, rfl, hc3, _, hob3⟩ := hown.form PgR.good
        have hown3 := hown
        by_cases hps : 0 < ps.length
        · by_cases hov : 2147483647 < from_ + (ps.length : Int) - 1
          · have hEE : E = 4 := by rw [hE2.out, if_pos ⟨hps, hov⟩]
            have hPP : P = [] := by rw [HP.out, if_neg (by omega)]
            subst hEE hPP
            clear hE2 HP
            have t5 : decide (2147483647 < from_ + (ps.length : Int) - 1) = true := by simpa using hov
            go_wp2
            go_ret2
            exact ⟨_, rfl, OwnG.nil_ _ _ _ _ _ _, hbel⟩
          · have hEE : E = 0 := by rw [hE2.out, if_neg (fun h => hov h.2)]
            have hPP : P = ps := by rw [HP.out, if_pos hEE]
            subst hEE hPP
            clear hE2 HP
            have t5 : decide (2147483647 < from_ + (P.length : Int) - 1) = false := by simpa using hov
            go_wp2
            go_ret2
            exact ⟨_, rfl, hown3, hbel⟩
        · have hEE : E = 0 := by rw [hE2.out, if_neg (fun h => hps h.1)]
          have hPP : P = ps := by rw [HP.out, if_pos hEE]
          subst hEE hPP
          clear hE2 HP
          have t5 : decide (0 < P.length) = false := by simpa using hps
          have t6 : decide ((0 : Int) < (P.length : Int)) = false := decide_eq_false (by omega)
          go_wp2
          go_ret2
          exact ⟨_, rfl, hown3, hbel⟩
end Go.Proofs.Ytaimjlnhdobgeaa
