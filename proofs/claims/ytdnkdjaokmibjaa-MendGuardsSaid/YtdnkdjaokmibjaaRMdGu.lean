/- The reference's MendGuard. -/
import Derived.Test.YtdnkdjaokmibjaaMdGu
import Derived.Test.YtdnkdjaokmibjaaRMdXo
import Derived.Test.YtdnkdjaokmibjaaRPgBytes
import Derived.Deep.RegionHeld3
import Derived.BigQuiet
import Derived.Deep.QuietTactic
set_option linter.unusedSimpArgs false
set_option linter.unusedVariables false
namespace Go.Proofs.Ytdnkdjaokmibjaa
open Go.RowKit

set_option maxHeartbeats 16000000 in
set_option maxRecDepth 100000 in
theorem rmdguard_any {l : List Pg} {A : Option Addr} {c : Nat} {S : Nat → Prop} {w : World} (hr : RdPg w S A l) (hl : l.length ≤ 1000000) (hlc : l.length ≤ c) :
    Calls Try.prog 40 #[.slice A l.length c] w fun e w' => ∃ v, e = .returned (.tuple #[v, .int .i64 (guardE l)]) ∧ OwnG PgR 5 33 w' w.heap.size (fun b => w.heap.size ≤ b ∧ b < w'.heap.size) v (guardP l) ∧ Below w.heap.size w w' := by
  have hr := hr.weak PgR.good (S' := fun b => b < w.heap.size) (fun b _ h => h)
  have HR := Lib.hid (fun W (h : Below w.heap.size w W) => hr.below PgR.good h)
  have HE0 := Lib.hid (show guardE l = if gAll l = true then 0 else 1 from rfl)
  have HP0 := Lib.hid (show guardP l = if gAll l = true then guarded l else [] from rfl)
  have HBad := Lib.hid (fun i (h : i < l.length) hn => gAll_not (l := l) h hn)
  have HBe := Lib.hid (show gAll l = false → guardE l = 1 ∧ guardP l = [] from fun h => by rw [HE0.out, HP0.out, h]; exact ⟨rfl, rfl⟩)
  clear hr
  go_enter Try.func40, Try.ntmps40
  go_wp2
  go_loopw [4] (fun iv wr => ∃ i : Nat, i ≤ l.length ∧ iv = .int .i64 i ∧ (∀ j, j < i → gOk l j) ∧ Below w.heap.size w wr) (fun iv _ => l.length - (intOf iv).toNat)
  case atStart => exact ⟨0, Nat.zero_le _, rfl, fun j hj => absurd hj (by omega), Below.refl _ _⟩
  case round =>
    obtain ⟨i, hi, rfl, hok, hbr⟩ := hrel
    have HOk := Lib.hid hok
    clear hok
    have hszr := hbr.size
    by_cases hlt : i < l.length
    · obtain ⟨ad, p, Aj, cj, rfl, _, hp, e0, e1, e2, e3, e4, hcj, hrj, hwj⟩ := RdPg.at_ (HR.out _ hbr) hlt
      have HPrev := Lib.hid (show 0 < i → ∃ pp : Addr, ad.add ((i - 1) * 5) = pp ∧ wr.cell? pp = some (.int .i64 (l.getD (i - 1) zg).seq) ∧ 0 ≤ (l.getD (i - 1) zg).seq ∧ (l.getD (i - 1) zg).seq ≤ 2147483647 from fun h => by
        obtain ⟨ad2, p2, _, _, hAd2, _, hp2, z0, _⟩ := RdPg.at_ (HR.out _ hbr) (j := i - 1) (by omega)
        injection hAd2 with hAd2
        subst hAd2
        have h3 := pgOk_seq (HOk.out (i - 1) (by omega)).1
        exact ⟨p2, hp2, by rw [gOk_at (by omega)]; exact z0, h3⟩)
      have HGk := Lib.hid (show gOk l i ↔ pgOk l[i] = true ∧ l[i].guard = false ∧ (0 < i → l[i].seq = (l.getD (i - 1) zg).seq + 1) by rw [gOk, gOk_at hlt])
      have HNo := Lib.hid (show ¬ gOk l i → guardE l = 1 ∧ guardP l = [] from fun h => HBe.out (HBad.out i hlt h))
      have HYes := Lib.hid (show gOk l i → ∀ j, j < i + 1 → gOk l j from fun h j hj => by
        by_cases hji : j = i
        · subst hji; exact h
        · exact HOk.out j (by omega))
      have HAc := Lib.hid (rpgbytes_any l[i] Aj cj hwj wr ((RdS.top hrj)))
      have HE9 := Lib.hid (show pgE l[i] = if pgOk l[i] = true then 0 else 1 from rfl)
      generalize (l.getD (i - 1) zg).seq = ps at *
      generalize l[i] = q at *
      have hqs := hwj.seq
      generalize hO : pgOk q = O at *
      generalize pgE q = E at *
      generalize pgB q = pb at *
      obtain ⟨q1, q2, q3, q4, q5⟩ := q
      simp only [Pg.val] at HAc e0 e1 e2 e3 e4 HGk hqs
      have hO' := Lib.hid hO
      clear hO
      clear hrj hwj
      have HC := Lib.hid (show ∀ (W : World) (ap : Addr) (u : Value), Below wr.heap.size wr W → wr.cell? ap = some u → W.cell? ap = some u from fun W ap u h h2 => (h.cell (World.block_lt_of_cell? wr _ h2)).trans h2)
      cases O
      · have HN := Lib.hid (HNo.out (fun h => by have := (HGk.out.1 h).1; cases this))
        obtain rfl : E = 1 := HE9.out
        clear HE9
        go_wp2_with (first
          | (go_at_call 58; (with_reducible refine HAc.out.mono ?_); rintro e w2 ⟨v2, rfl, ho2, hb2⟩; obtain ⟨A2, c2, rfl, _, _, _⟩ := ho2.form; clear ho2))
        go_quiet (fail)
        go_wp2
        go_ret2
        exact ⟨_, by rw [HN.out.1]; rfl, by rw [HN.out.2]; exact OwnG.nil_ _ _ _ _ _ _, below_then hbr (below_drewN hb2 _)⟩
      · obtain rfl : E = 0 := HE9.out
        clear HE9
        cases q4
        · by_cases h0 : i = 0
          · subst h0
            have HS := Lib.hid (HYes.out (HGk.out.2 ⟨rfl, rfl, fun h => absurd h (by omega)⟩))
            go_wp2_with (first
              | (go_at_call 58; (with_reducible refine HAc.out.mono ?_); rintro e w2 ⟨v2, rfl, ho2, hb2⟩; obtain ⟨A2, c2, rfl, _, _, _⟩ := ho2.form; clear ho2; have y3 := HC.out _ _ _ hb2 e3))
            go_quiet (fail)
            go_wp2
            go_roundw
            case rel => exact ⟨1, by omega, by go_num, HS.out, below_then hbr (below_drewN hb2 _)⟩
            case measure => simp [intOf]; omega
          · obtain ⟨pp, hpp, z0, hp0, hp1⟩ := HPrev.out (by omega)
            have hpos : 0 < i := by omega
            obtain ⟨k', hk'⟩ : ∃ k', i - 1 = k' := ⟨_, rfl⟩
            rw [hk'] at hpp
            have hkz : IntKind.i64.wrap ((i : Int) - 1) = (k' : Int) := by rw [IntWalk.i64_in _ (by omega)]; omega
            have hkz2 : (i : Int) - 1 = (k' : Int) := by omega
            have hkz3 : IntKind.i64.wrap (k' : Int) = (k' : Int) := IntWalk.i64_in _ (by omega)
            have hkl' : k' < l.length := by omega
            have hps : IntKind.i64.wrap (ps + 1) = ps + 1 := IntWalk.i64_in _ (by omega)
            have hqq : 0 ≤ q1 ∧ q1 ≤ 2147483647 := pgOk_seq hO'.out
            clear hk' h0
            by_cases heq : q1 = ps + 1
            · have HS := Lib.hid (HYes.out (HGk.out.2 ⟨rfl, rfl, fun _ => heq⟩))
              have hne : (q1 != ps + 1) = false := by rw [heq]; simp
              clear heq
              go_wp2_with (first
                | (go_at_call 58; (with_reducible refine HAc.out.mono ?_); rintro e w2 ⟨v2, rfl, ho2, hb2⟩; obtain ⟨A2, c2, rfl, _, _, _⟩ := ho2.form; clear ho2; have y3 := HC.out _ _ _ hb2 e3; have y0 := HC.out _ _ _ hb2 e0; have y9 := HC.out _ _ _ hb2 z0))
              go_quiet (fail)
              go_wp2
              go_roundw
              case rel => exact ⟨i + 1, by omega, by go_num, HS.out, below_then hbr (below_drewN hb2 _)⟩
              case measure => simp [intOf]; omega
            · have HN := Lib.hid (HNo.out (fun h => heq ((HGk.out.1 h).2.2 hpos)))
              have hne : (q1 != ps + 1) = true := by rw [bne_iff_ne]; exact heq
              clear heq
              go_wp2_with (first
                | (go_at_call 58; (with_reducible refine HAc.out.mono ?_); rintro e w2 ⟨v2, rfl, ho2, hb2⟩; obtain ⟨A2, c2, rfl, _, _, _⟩ := ho2.form; clear ho2; have y3 := HC.out _ _ _ hb2 e3; have y0 := HC.out _ _ _ hb2 e0; have y9 := HC.out _ _ _ hb2 z0))
              go_quiet (fail)
              go_wp2
              go_ret2
              exact ⟨_, by rw [HN.out.1]; rfl, by rw [HN.out.2]; exact OwnG.nil_ _ _ _ _ _ _, below_then hbr (below_drewN hb2 _)⟩
        · have HN := Lib.hid (HNo.out (fun h => by have := (HGk.out.1 h).2.1; cases this))
          go_wp2_with (first
            | (go_at_call 58; (with_reducible refine HAc.out.mono ?_); rintro e w2 ⟨v2, rfl, ho2, hb2⟩; obtain ⟨A2, c2, rfl, _, _, _⟩ := ho2.form; clear ho2; have y3 := HC.out _ _ _ hb2 e3))
          go_quiet (fail)
          go_wp2
          go_ret2
          exact ⟨_, by rw [HN.out.1]; rfl, by rw [HN.out.2]; exact OwnG.nil_ _ _ _ _ _ _, below_then hbr (below_drewN hb2 _)⟩
    · have hil : i = l.length := by omega
      subst hil
      have HAll := Lib.hid (gAll_iff.2 HOk.out)
      have HG := Lib.hid (show guardE l = 0 ∧ guardP l = guarded l by rw [HE0.out, HP0.out, HAll.out]; exact ⟨rfl, rfl⟩)
      have HOk3 := Lib.hid (fun p (hp : p ∈ l) => show pgOk p = true from by
        obtain ⟨j, hj, rfl⟩ := List.getElem_of_mem hp
        have := (HOk.out j hj).1
        rwa [gOk_at hj] at this)
      clear HE0 HP0 HBad HBe HOk
      have HB0 := Lib.hid hbr
      have HR1 := Lib.hid (fun W (h : Below wr.heap.size wr W) => HR.out W (hbr.trans (h.mono hszr)))
      clear HR
      obtain ⟨w1, rfl⟩ : ∃ w1 : World, w1 = wr := ⟨_, rfl⟩
      go_wp2
      go_loopw [7, 8] (fun v iv wr => ∃ k f : Nat, f = 8 * k ∧ f ≤ l.length + 7 ∧ iv = .int .i64 f ∧ OwnG PgR 5 33 wr w1.heap.size (fun b => w1.heap.size ≤ b ∧ b < wr.heap.size) v (gTo l k) ∧ Below w1.heap.size w1 wr) (fun _ iv _ => l.length - (intOf iv).toNat)
      case atStart => exact ⟨0, 0, rfl, by omega, rfl, OwnG.nil_ _ _ _ _ _ _, Below.refl _ _⟩
      case round =>
        obtain ⟨k, f, hf, hfl, rfl, hown, hbr1⟩ := hrel
        have hsz1 := hbr1.size
        have HF := Lib.hid hf
        clear hf
        by_cases hlt : f < l.length
        · obtain ⟨hh, hhm⟩ : ∃ hh : Nat, hh = min (f + 8) l.length := ⟨_, rfl⟩
          have hh1 : f < hh := by omega
          have hh2 : hh ≤ l.length := by omega
          have hh3 : hh ≤ f + 8 := by omega
          have hmn : (if (l.length : Int) < (f : Int) + 8 then (l.length : Int) else (f : Int) + 8) = (hh : Int) := by split <;> omega
          have hwf : IntKind.i64.wrap ((f : Int) + 8) = (f : Int) + 8 := IntWalk.i64_in _ (by omega)
          obtain ⟨Ag, hsl, hrg⟩ := RdG.slice_lh (P := Try.prog) Try.underlying23 info_pg (HR1.out _ hbr1) (lo := f) (hh := hh) (c := c) (by omega) hh2 hlc
          have HGr := Lib.hid (show (l.drop f).take (hh - f) = grp l k by
            have := HF.out
            rw [grp, ← this]
            by_cases h8 : f + 8 ≤ l.length
            · rw [show hh - f = 8 by omega]
            · rw [List.take_of_length_le (by simp; omega), List.take_of_length_le (by simp; omega)])
          rw [HGr.out] at hrg
          have HGl := Lib.hid (show (grp l k).length = hh - f by rw [← HGr.out]; simp; omega)
          have HGs := Lib.hid (gTo_succ l k)
          have HOl := Lib.hid (gTo_len l k)
          have HRg := Lib.hid (fun W (h : Below w1.heap.size wr W) => hrg.keep PgR.good (Mod.of_below (M := fun b => w1.heap.size ≤ b) h (fun b h _ => h)) (fun b hb' _ h9 => by have h8 : b < w.heap.size := hb'; have h7 : w1.heap.size ≤ b := h9; omega))
          have HGo := Lib.hid (fun p (hp : p ∈ grp l k) => (pgOk_len (HOk3.out p (grp_mem hp))).2)
          clear hrg hhm
          have HOw := Lib.hid hown
          have HB1 := Lib.hid hbr1
          clear hown hbr1
          obtain ⟨w2, rfl⟩ : ∃ w2 : World, w2 = wr := ⟨_, rfl⟩
          have hhf : hh - f ≤ 8 := by omega
          obtain ⟨m, hm⟩ : ∃ m, hh - f = m := ⟨_, rfl⟩
          rw [hm] at hsl HGl hhf
          have hm1 : 1 ≤ m := by omega
          have HFm := Lib.hid (show hh = f + m by omega)
          have hfm : f + m ≤ l.length := by omega
          have HOl2 : (gTo l k).length ≤ 2000000 := by have := HOl.out; have := HF.out; omega
          have hgl : (grp l k).length ≤ m := by rw [HGl.out]; exact Nat.le_refl _
          have hgl2 : m ≤ (grp l k).length := by rw [HGl.out]; exact Nat.le_refl _
          generalize hG : gTo l k = O at *
          generalize hGg : grp l k = G at *
          clear hG hGg hm HGr HOl hh1 hh2 hh3
          go_wp2
          clear hmn hwf hsl
          go_loopw [7, 10] (fun v jv wr => ∃ j : Nat, j ≤ m ∧ jv = .int .i64 j ∧ OwnG PgR 5 33 wr w1.heap.size (fun b => w1.heap.size ≤ b ∧ b < wr.heap.size) v (O ++ G.take j) ∧ Below w1.heap.size w2 wr) (fun _ jv _ => m - (intOf jv).toNat)
          case atStart => exact ⟨0, Nat.zero_le _, rfl, by simpa using HOw.out, Below.refl _ _⟩
          case round =>
            obtain ⟨j, hj, rfl, hown, hbr⟩ := hrel
            have hszr := hbr.size
            have hb12 := HB1.out.trans hbr
            have hol : (O ++ G.take j).length ≤ 2000010 := by simp; omega
            by_cases hlt : j < m
            · obtain ⟨A0, c0, rfl, hc0, _, hob0⟩ := hown.form PgR.good
              have hjG : j < G.length := by omega
              obtain ⟨ad, p, Aj, cj, hAd, _, hp, e0, e1, e2, e3, e4, hcj, hrj, hwj⟩ := RdPg.at_ (HRg.out _ hbr) hjG
              subst hAd
              have HT := Lib.hid (show O ++ G.take (j + 1) = (O ++ G.take j) ++ [G[j]] by rw [List.take_succ_eq_append_getElem hjG, List.append_assoc])
              have hq5 := HGo.out G[j] (List.getElem_mem hjG)
              generalize O ++ G.take j = xs at *
              generalize G[j] = q at *
              obtain ⟨q1, q2, q3, q4, q5⟩ := q
              simp only at hq5
              simp only [Pg.val] at e0 e1 e2 e3 e4
              have HRj := Lib.hid (RdS.top hrj)
              have HWf := Lib.hid hwj
              clear hrj hwj
              go_upto_region 16 with fail
              have bx : Below wr.heap.size wr (wr.alloc (.cells #[.int .i64 q1, .bool q2, .bool q3, .bool q4, .slice Aj q5.length cj] 33)) := below_alloc (Below.refl _ _) _
              have kx := Blk.new wr 33 #[.int .i64 q1, .bool q2, .bool q3, .bool q4, .slice Aj q5.length cj]
              have hRx := HRj.out.below bx (Nat.le_refl _)
              generalize wr.alloc (.cells #[.int .i64 q1, .bool q2, .bool q3, .bool q4, .slice Aj q5.length cj] 33) = wx at *
              have hkl := kx.lt
              have hsx := bx.size
              have x4 := kx.cell 4
              clear e0 e1 e2 e3 e4
              go_upto_region 17 with (first
                | (at_builtin; go_loud (refine wpList_append_int _ rfl (.tmp 78) (.tmp 80) _ rfl wx wx.heap.size wx.heap.size 5 .u8 1 Try.underlying31 info_u8 (.slice (some ⟨wx.heap.size, 0, none⟩) 0 0) [] rfl (OwnI.empty wx wx.heap.size 5 .u8 (Nat.le_refl _)) _ Aj _ cj q5 rfl rfl (RdI.alloc hRx (by omega) _) (by simp; omega) (by omega) (below_alloc (Below.refl _ _) _) (Nat.le_refl _) (by simp) ?_); intro v5 w5 ow5 bw5; rw [List.nil_append] at ow5; obtain ⟨A5, c5, rfl, hc5, _, _⟩ := ow5.form; have kp5 := kx.below bw5 hkl; have y4 := kp5.cell 4; have f4 := kp5.frozen 4))
              have bb5 : Below wr.heap.size wr w5 := bx.trans (bw5.mono hsx)
              have kp6 := kp5.set_ 4 (.slice A5 q5.length c5)
              have bb7 := below_put (off := 4) (u := .slice A5 q5.length c5) bb5 (Nat.le_refl _)
              have ho7 := own_put (off := 4) (u := .slice A5 q5.length c5) ow5 hkl
              generalize w5.setCell ⟨wr.heap.size, 4, none⟩ (.slice A5 q5.length c5) = w6 at *
              have kp7 : Blk w6 wr.heap.size 33 #[.int .i64 q1, .bool q2, .bool q3, .bool q4, .slice A5 q5.length c5] := by simpa using kp6
              obtain ⟨_, hc6, hrd7⟩ := ho7.rds
              (try dsimp only at hrd7)
              have x0 := kp7.cell 0
              have x1 := kp7.cell 1
              have x2 := kp7.cell 2
              have x3 := kp7.cell 3
              have x4 := kp7.cell 4
              have hs6 := bb7.size
              have hown6 := hown.keep PgR.good (Mod.of_fresh (M := fun _ => False) bb7) (fun _ _ _ h => h) (fun _ _ h => h)
              have hrx : RdS w6 (fun b => wr.heap.size ≤ b ∧ b < w6.heap.size) .u8 A5 q5 := hrd7.weak (fun b hb _ => ⟨by have := hb.1; omega, hb.2.1⟩)
              clear y4 f4 kp5 kp6 ow5 bw5 bb5 ho7 hrd7 kx kp7
              go_wp2_with (first
                | (at_builtin; (refine wpList_push_G (v := .slice A0 xs.length c0) rfl (.tmp 83) (.tmp 85) _ rfl PgR.good w6 (.agg #[.int .i64 0, .bool false, .bool false, .bool false, .slice none 0 0]) 40 Try.underlying23 info_pg rfl (by omega) rfl hown6 (fun b => wr.heap.size ≤ b ∧ b < w6.heap.size) _ 1 [.int .i64 q1, .bool q2, .bool q3, .bool q4, .slice A5 q5.length c5] ⟨q1, q2, q3, q4, q5⟩ rfl rfl (show PgR _ _ _ _ from ⟨A5, c5, rfl, hc5, hrx, HWf.out⟩) (fun b => w1.heap.size ≤ b ∧ b ≤ w6.heap.size) (fun b hb _ => ⟨hb.1, by have := hb.2; omega⟩) (fun b hb _ => ⟨by have := hb.1; omega, by have := hb.2; omega⟩) (fun b hb h => by have := (hob0 b hb).2; have := h.1; omega) (fun b hb => hb.2) ⟨by omega, Nat.le_refl _⟩ (by omega) (by omega) ?_); intro v7 w7 ow7 hg7 hv7))
              have hb78 : Below w1.heap.size w6 w7 := Below.grown (below_alloc (Below.refl w6.heap.size w6) _ |>.mono (by omega)) hg7 (by simp; omega) (fun b hb => (hob0 b hb).1)
              have hbf := hbr.trans ((bb7.mono (by omega)).trans hb78)
              have hs7 := hg7.size
              simp at hs7
              go_roundw
              case rel => exact ⟨j + 1, by omega, by go_num, by rw [HT.out]; exact ow7.weak PgR.good (fun b hb hl9 => ⟨hb.1, hl9⟩), hbf⟩
              case measure => simp [intOf]; omega
            · have hjm : m = j := by omega
              subst hjm
              rw [List.take_of_length_le (by omega)] at hown
              have hol3 : (O ++ G).length ≤ 2000010 := by simp; omega
              have HXo := fun W (h : Below w1.heap.size w2 W) => rxored_any (c := c - f) (HRg.out W h) (by omega) (fun p hp => by have := HGo.out p hp; omega)
              rw [HGl.out] at HXo
              have hG0 : 0 < G.length := by omega
              have HWf := Lib.hid (guardG_wf (l := G) (by omega) (fun p hp => by
                obtain ⟨x, hx, rfl⟩ := List.getElem_of_mem hp
                obtain ⟨_, _, _, _, _, _, _, _, _, _, _, _, _, _, hwf⟩ := RdPg.at_ (HRg.out _ hbr) hx
                exact hwf) (fun p hp => by have := HGo.out p hp; omega))
              have hxl : (xrd G).length ≤ 1002 := by
                rw [xrd, List.length_append, sumX_len]
                have := longest_bd (l := G) (n := 1000) (fun p hp => by have := HGo.out p hp; omega)
                simp; omega
              have HGG := Lib.hid (show guardG G = ⟨G[0].seq, false, false, true, [(m : Int) % 256] ++ xrd G⟩ by
                rw [← gOk_at hG0, ← HGl.out]; rfl)
              rw [HGG.out] at HWf
              obtain ⟨ad, p, Aj, cj, hAd, hadl, hp, e0, _⟩ := RdPg.at_ (HRg.out _ hbr) hG0
              subst hAd
              rw [Nat.zero_mul] at hp
              have hp' : ad = p := hp
              subst hp'
              have hlw : IntKind.u8.wrap (m : Int) = (m : Int) % 256 := IntKind.wrap_u8 _
              generalize hO2 : O ++ G = xs at *
              clear hO2 hp
              generalize G[0].seq = sq at *
              generalize (m : Int) % 256 = n8 at *
              generalize xrd G = X at *
              have hm0 : (0 : Int) < (m : Int) := by omega
              have hm0n : 0 < m := by omega
              obtain ⟨A0, c0, rfl, hc0, _, hob0⟩ := hown.form PgR.good
              have HOw2 := Lib.hid hown
              clear hown
              go_upto_region 18 with fail
              refine wp_region_held_drew (S := (fun w' => w'.cell? ad = some (.int .i64 sq))) (by kernel_rfl) ?_ (fun hHeld => ?_)
              focus exact e0
              have hown8 : OwnG PgR 5 33 wr.drew w1.heap.size (fun b => w1.heap.size ≤ b ∧ b < wr.heap.size) (.slice A0 xs.length c0) xs := HOw2.out.keep PgR.good (M := fun _ => False) (Mod.refl _ _).drew (fun _ _ _ h => h) (fun _ _ h => h)
              have hb18 : Below w1.heap.size w1 wr.drew := hb12.drew
              have hb28 : Below w1.heap.size w2 wr.drew := hbr.drew
              have e0 : wr.drew.cell? ad = some (.int .i64 sq) := e0
              rw [show wr.heap.size = wr.drew.heap.size from rfl] at *
              clear HOw2 hb12 hbr
              generalize wr.drew = w8 at *
              have hadl : ad.block < w8.heap.size := World.block_lt_of_cell? _ _ e0
              replace HXo := Lib.hid (fun W (h : Below w8.heap.size w8 W) => HXo W (hb28.trans (h.mono (by have := hb18.size; omega))))
              refine wpAnyH_take (i := 0) (v := ?_) rfl (by kernel_rfl) (by kernel_rfl) (by kernel_rfl) (fun _ _ _ h => h) (Or.inl ⟨by kernel_rfl, ?_⟩) (by assumption) ?_
              rotate_left
              focus
                intro w9 hSw
                (try dsimp only at hSw)
                go_simp
                (try with_reducible rfl)
              (try simp only [Act.put, List.getElem_toArray, List.getElem_cons_succ, List.getElem_cons_zero, List.setIfInBounds_toArray, List.set_cons_zero, List.set_cons_succ])
              refine wpAnyH_take (i := 1) (v := ?_) rfl (by kernel_rfl) (by kernel_rfl) (by kernel_rfl) (fun _ _ _ h => h) (Or.inl ⟨by kernel_rfl, ?_⟩) (by assumption) ?_
              rotate_left
              focus
                intro w9 hSw
                (try dsimp only at hSw)
                go_simp
                (try with_reducible rfl)
              (try simp only [Act.put, List.getElem_toArray, List.getElem_cons_succ, List.getElem_cons_zero, List.setIfInBounds_toArray, List.set_cons_zero, List.set_cons_succ])
              refine wpAnyH_take (i := 2) (v := ?_) rfl (by kernel_rfl) (by kernel_rfl) (by kernel_rfl) (fun _ _ _ h => h) (Or.inl ⟨by kernel_rfl, ?_⟩) (by assumption) ?_
              rotate_left
              focus
                intro w9 hSw
                (try dsimp only at hSw)
                go_simp
                (try with_reducible rfl)
              (try simp only [Act.put, List.getElem_toArray, List.getElem_cons_succ, List.getElem_cons_zero, List.setIfInBounds_toArray, List.set_cons_zero, List.set_cons_succ])
              refine wpAnyH_take (i := 3) (v := ?_) rfl (by kernel_rfl) (by kernel_rfl) (by kernel_rfl) (fun _ _ _ h => h) (Or.inl ⟨by kernel_rfl, ?_⟩) (by assumption) ?_
              rotate_left
              focus
                intro w9 hSw
                (try dsimp only at hSw)
                go_simp
                (try with_reducible rfl)
              (try simp only [Act.put, List.getElem_toArray, List.getElem_cons_succ, List.getElem_cons_zero, List.setIfInBounds_toArray, List.set_cons_zero, List.set_cons_succ])
              refine wpAnyH_take (i := 4) (v := ?_) rfl (by kernel_rfl) (by kernel_rfl) (by kernel_rfl) (fun _ _ _ h => h) (Or.inl ⟨by kernel_rfl, ?_⟩) (by assumption) ?_
              rotate_left
              focus
                intro w9 hSw
                (try dsimp only at hSw)
                go_simp
                (try with_reducible rfl)
              (try simp only [Act.put, List.getElem_toArray, List.getElem_cons_succ, List.getElem_cons_zero, List.setIfInBounds_toArray, List.set_cons_zero, List.set_cons_succ])
              refine wpAnyH_take (i := 5) (v := ?_) rfl (by kernel_rfl) (by kernel_rfl) (by kernel_rfl) (fun _ _ _ h => h) (Or.inl ⟨by kernel_rfl, ?_⟩) (by assumption) ?_
              rotate_left
              focus
                intro w9 hSw
                (try dsimp only at hSw)
                go_simp
                (try with_reducible rfl)
              (try simp only [Act.put, List.getElem_toArray, List.getElem_cons_succ, List.getElem_cons_zero, List.setIfInBounds_toArray, List.set_cons_zero, List.set_cons_succ])
              refine wpAnyH_take (i := 6) (v := ?_) rfl (by kernel_rfl) (by kernel_rfl) (by kernel_rfl) (fun _ _ _ h => h) (Or.inl ⟨by kernel_rfl, ?_⟩) (by assumption) ?_
              rotate_left
              focus
                intro w9 hSw
                (try dsimp only at hSw)
                go_simp
                (try with_reducible rfl)
              (try simp only [Act.put, List.getElem_toArray, List.getElem_cons_succ, List.getElem_cons_zero, List.setIfInBounds_toArray, List.set_cons_zero, List.set_cons_succ])
              refine wpAnyH_take (i := 7) (v := ?_) rfl (by kernel_rfl) (by kernel_rfl) (by kernel_rfl) (fun _ _ _ h => h) (Or.inl ⟨by kernel_rfl, ?_⟩) (by assumption) ?_
              rotate_left
              focus
                intro w9 hSw
                (try dsimp only at hSw)
                go_simp
                (try with_reducible rfl)
              (try simp only [Act.put, List.getElem_toArray, List.getElem_cons_succ, List.getElem_cons_zero, List.setIfInBounds_toArray, List.set_cons_zero, List.set_cons_succ])
              refine wpAnyH_take (i := 9) (v := ?_) rfl (by kernel_rfl) (by kernel_rfl) (by kernel_rfl) (fun _ _ _ h => h) (Or.inl ⟨by kernel_rfl, ?_⟩) (by assumption) ?_
              rotate_left
              focus
                intro w9 hSw
                (try dsimp only at hSw)
                go_simp
                (try with_reducible rfl)
              (try simp only [Act.put, List.getElem_toArray, List.getElem_cons_succ, List.getElem_cons_zero, List.setIfInBounds_toArray, List.set_cons_zero, List.set_cons_succ])
              refine wpAnyH_ready (rs := [8, 10]) (by kernel_rfl) (by simp) (AllReadyH.cons rfl (fun K hK => ?_) (AllReadyH.cons rfl (fun K hK => ?_) AllReadyH.nil))
              · go_simp
                have bl : Below w8.heap.size w8 (w8.alloc (.cells #[.int .u8 n8] 5)) := below_alloc (Below.refl _ _) _
                have hn1 := OwnI.lit w8 w8.heap.size 5 .u8 [n8] #[.int .u8 n8] rfl (Nat.le_refl _) (by simp [maxLen])
                have hbl1 : w8.heap.size ≤ (w8.alloc (.cells #[.int .u8 n8] 5)).heap.size := bl.size
                refine hK.out _ _ ?_ (fun hHeld => ?_)
                focus exact (bl.cell hadl).trans e0
                clear hK K
                (try simp only [Act.put, List.getElem_toArray, List.getElem_cons_succ, List.getElem_cons_zero, List.setIfInBounds_toArray, List.set_cons_zero, List.set_cons_succ])
                refine wpAnyH_ready (rs := [10]) (by kernel_rfl) (by simp) (AllReadyH.cons rfl (fun K hK => ?_) AllReadyH.nil)
                go_simp
                go_at_call 59
                with_reducible refine (HXo.out _ bl).mono ?_
                rintro e w6 ⟨A6, c6, rfl, ho6, hb6⟩
                have bb6 : Below w8.heap.size w8 w6 := bl.trans (hb6.mono bl.size)
                have hn6 := hn1.below hb6
                obtain ⟨hc6, hr6⟩ : X.length ≤ c6 ∧ RdI w6 w6.heap.size .u8 A6 X := by
                  obtain ⟨_, hh1, hh2⟩ := ho6.rds
                  exact ⟨hh1, RdS.top hh2⟩
                refine hK.out _ _ ?_ (fun hHeld => ?_)
                focus exact (bb6.cell hadl).trans e0
                clear hK K
                (try simp only [Act.put, List.getElem_toArray, List.getElem_cons_succ, List.getElem_cons_zero, List.setIfInBounds_toArray, List.set_cons_zero, List.set_cons_succ])
                clear hn1 ho6 hb6 bl hbl1
                have hs6 := bb6.size
                refine wpAnyH_ready (rs := [11]) (by kernel_rfl) (by simp) (AllReadyH.cons rfl (fun K hK => ?_) AllReadyH.nil)
                refine step_append_int _ (by rfl) (.tmp 95) (.tmp 97) _ (by rfl) w8 w8.heap.size w8.heap.size 5 .u8 1 Try.underlying31 info_u8 _ [n8] (by rfl) hn6 _ A6 _ c6 X (by rfl) (by rfl) hr6 (by simp; omega) (by omega) bb6 (Nat.le_refl _) hs6 ?_
                intro v9 w9 ow9 bw9 _ _
                obtain ⟨A9, c9, rfl, hc9, _, _⟩ := ow9.form
                obtain ⟨_, hc9', hrd9⟩ := ow9.rds
                have hs9 := bw9.size
                have hown9 := hown8.keep PgR.good (Mod.of_fresh (M := fun _ => False) bw9) (fun _ _ _ h => h) (fun _ _ h => h)
                have hrx : RdS w9 (fun b => w8.heap.size ≤ b ∧ b < w9.heap.size) .u8 A9 ([n8] ++ X) := hrd9.weak (fun b hb _ => ⟨hb.1, hb.2.1⟩)
                have e9 := (bw9.cell hadl).trans e0
                refine hK.out _ _ ?_ (fun hHeld => ?_)
                focus exact e9
                clear hK K
                (try simp only [Act.put, List.getElem_toArray, List.getElem_cons_succ, List.getElem_cons_zero, List.setIfInBounds_toArray, List.set_cons_zero, List.set_cons_succ])
                refine wpAnyH_take (i := 12) (v := ?_) rfl (by kernel_rfl) (by kernel_rfl) (by kernel_rfl) (fun _ _ _ h => h) (Or.inl ⟨by kernel_rfl, ?_⟩) (by assumption) ?_
                rotate_left
                focus
                  intro w9 hSw
                  (try dsimp only at hSw)
                  go_simp
                  (try with_reducible rfl)
                (try simp only [Act.put, List.getElem_toArray, List.getElem_cons_succ, List.getElem_cons_zero, List.setIfInBounds_toArray, List.set_cons_zero, List.set_cons_succ])
                refine wpAnyH_ready (rs := [13]) (by kernel_rfl) (by simp) (AllReadyH.cons rfl (fun K hK => ?_) AllReadyH.nil)
                go_simp
                refine hK.out _ _ ?_ (fun hHeld => ?_)
                focus exact ((below_alloc (Below.refl w9.heap.size w9) _).cell (by omega)).trans e9
                clear hK K
                (try simp only [Act.put, List.getElem_toArray, List.getElem_cons_succ, List.getElem_cons_zero, List.setIfInBounds_toArray, List.set_cons_zero, List.set_cons_succ])
                refine wpAnyH_ready (rs := [14]) (by kernel_rfl) (by simp) (AllReadyH.cons rfl (fun K hK => ?_) AllReadyH.nil)
                refine step_push_G (v := .slice A0 xs.length c0) (by rfl) (.tmp 87) (.tmp 100) _ (by rfl) PgR.good w9 (.agg #[.int .i64 0, .bool false, .bool false, .bool false, .slice none 0 0]) 40 Try.underlying23 info_pg (by rfl) (by omega) (by rfl) hown9 (fun b => w8.heap.size ≤ b ∧ b < w9.heap.size) _ 1 [.int .i64 sq, .bool false, .bool false, .bool true, .slice A9 ([n8] ++ X).length c9] ⟨sq, false, false, true, [n8] ++ X⟩ (by rfl) (by rfl) (show PgR _ _ _ _ from ⟨A9, c9, rfl, hc9, hrx, HWf.out⟩) (fun b => w1.heap.size ≤ b ∧ b ≤ w9.heap.size) (fun b hb _ => ⟨hb.1, by have := hb.2; omega⟩) (fun b hb _ => ⟨by have := hb.1; omega, by have := hb.2; omega⟩) (fun b hb h => by have := (hob0 b hb).2; have := h.1; omega) (fun b hb => hb.2) ⟨by omega, Nat.le_refl _⟩ (by omega) (by omega) ?_
                intro v7 w7 ow7 hg7 hv7
                have hb78 : Below w1.heap.size w9 w7 := Below.grown (below_alloc (Below.refl w9.heap.size w9) _ |>.mono (by omega)) hg7 (by simp; omega) (fun b hb => (hob0 b hb).1)
                have hbf := hb18.trans ((bw9.mono (by omega)).trans hb78)
                have hs7 := hg7.size
                simp at hs7
                refine hK.out _ _ ?_ (fun hHeld => ?_)
                focus exact (hb78.cell (by omega)).trans e9
                clear hK K
                (try simp only [Act.put, List.getElem_toArray, List.getElem_cons_succ, List.getElem_cons_zero, List.setIfInBounds_toArray, List.set_cons_zero, List.set_cons_succ])
                refine wpAnyH_take (i := 15) (v := ?_) rfl (by kernel_rfl) (by kernel_rfl) (by kernel_rfl) (fun _ _ _ h => h) (Or.inl ⟨by kernel_rfl, ?_⟩) (by assumption) ?_
                rotate_left
                focus
                  intro w9 hSw
                  (try dsimp only at hSw)
                  go_simp
                  (try with_reducible rfl)
                (try simp only [Act.put, List.getElem_toArray, List.getElem_cons_succ, List.getElem_cons_zero, List.setIfInBounds_toArray, List.set_cons_zero, List.set_cons_succ])
                refine wpAnyH_done (by kernel_rfl) ?_ _
                (try simp only [Act.put, List.getElem_toArray, List.getElem_cons_succ, List.getElem_cons_zero, List.setIfInBounds_toArray, List.set_cons_zero, List.set_cons_succ])
                have hw8 : IntKind.i64.wrap ((f : Int) + 8) = ((f + 8 : Nat) : Int) := by rw [IntWalk.i64_in _ (by omega)]; omega
                go_wp2
                go_roundw
                case rel => exact ⟨k + 1, f + 8, by have := HF.out; omega, by omega, by first | rfl | go_num, by rw [HGs.out, HGG.out]; exact ow7.weak PgR.good (fun b hb hl9 => ⟨hb.1, hl9⟩), hbf⟩
                case measure => simp [intOf]; omega
              · go_simp
                go_at_call 59
                with_reducible refine (HXo.out _ (Below.refl _ _)).mono ?_
                rintro e wy ⟨A6, c6, rfl, ho6, hb6⟩
                refine hK.out _ _ ?_ (fun hHeld => ?_)
                focus exact (hb6.cell hadl).trans e0
                clear hK K
                (try simp only [Act.put, List.getElem_toArray, List.getElem_cons_succ, List.getElem_cons_zero, List.setIfInBounds_toArray, List.set_cons_zero, List.set_cons_succ])
                refine wpAnyH_ready (rs := [8]) (by kernel_rfl) (by simp) (AllReadyH.cons rfl (fun K hK => ?_) AllReadyH.nil)
                go_simp
                have bl : Below wy.heap.size wy (wy.alloc (.cells #[.int .u8 n8] 5)) := below_alloc (Below.refl _ _) _
                have hn6 := (OwnI.lit wy wy.heap.size 5 .u8 [n8] #[.int .u8 n8] rfl (Nat.le_refl _) (by simp [maxLen])).base_ hb6.size
                have bb6 : Below w8.heap.size w8 (wy.alloc (.cells #[.int .u8 n8] 5)) := hb6.trans (bl.mono hb6.size)
                have ho7 := ho6.below bl
                obtain ⟨hc6, hr6⟩ : X.length ≤ c6 ∧ RdI (wy.alloc (.cells #[.int .u8 n8] 5)) (wy.alloc (.cells #[.int .u8 n8] 5)).heap.size .u8 A6 X := by
                  obtain ⟨_, hh1, hh2⟩ := ho7.rds
                  exact ⟨hh1, RdS.top hh2⟩
                clear ho6 ho7 bl hb6
                generalize wy.alloc (.cells #[.int .u8 n8] 5) = w6 at *
                refine hK.out _ _ ?_ (fun hHeld => ?_)
                focus exact (bb6.cell hadl).trans e0
                clear hK K
                (try simp only [Act.put, List.getElem_toArray, List.getElem_cons_succ, List.getElem_cons_zero, List.setIfInBounds_toArray, List.set_cons_zero, List.set_cons_succ])
                have hs6 := bb6.size
                refine wpAnyH_ready (rs := [11]) (by kernel_rfl) (by simp) (AllReadyH.cons rfl (fun K hK => ?_) AllReadyH.nil)
                refine step_append_int _ (by rfl) (.tmp 95) (.tmp 97) _ (by rfl) w8 w8.heap.size w8.heap.size 5 .u8 1 Try.underlying31 info_u8 _ [n8] (by rfl) hn6 _ A6 _ c6 X (by rfl) (by rfl) hr6 (by simp; omega) (by omega) bb6 (Nat.le_refl _) hs6 ?_
                intro v9 w9 ow9 bw9 _ _
                obtain ⟨A9, c9, rfl, hc9, _, _⟩ := ow9.form
                obtain ⟨_, hc9', hrd9⟩ := ow9.rds
                have hs9 := bw9.size
                have hown9 := hown8.keep PgR.good (Mod.of_fresh (M := fun _ => False) bw9) (fun _ _ _ h => h) (fun _ _ h => h)
                have hrx : RdS w9 (fun b => w8.heap.size ≤ b ∧ b < w9.heap.size) .u8 A9 ([n8] ++ X) := hrd9.weak (fun b hb _ => ⟨hb.1, hb.2.1⟩)
                have e9 := (bw9.cell hadl).trans e0
                refine hK.out _ _ ?_ (fun hHeld => ?_)
                focus exact e9
                clear hK K
                (try simp only [Act.put, List.getElem_toArray, List.getElem_cons_succ, List.getElem_cons_zero, List.setIfInBounds_toArray, List.set_cons_zero, List.set_cons_succ])
                refine wpAnyH_take (i := 12) (v := ?_) rfl (by kernel_rfl) (by kernel_rfl) (by kernel_rfl) (fun _ _ _ h => h) (Or.inl ⟨by kernel_rfl, ?_⟩) (by assumption) ?_
                rotate_left
                focus
                  intro w9 hSw
                  (try dsimp only at hSw)
                  go_simp
                  (try with_reducible rfl)
                (try simp only [Act.put, List.getElem_toArray, List.getElem_cons_succ, List.getElem_cons_zero, List.setIfInBounds_toArray, List.set_cons_zero, List.set_cons_succ])
                refine wpAnyH_ready (rs := [13]) (by kernel_rfl) (by simp) (AllReadyH.cons rfl (fun K hK => ?_) AllReadyH.nil)
                go_simp
                refine hK.out _ _ ?_ (fun hHeld => ?_)
                focus exact ((below_alloc (Below.refl w9.heap.size w9) _).cell (by omega)).trans e9
                clear hK K
                (try simp only [Act.put, List.getElem_toArray, List.getElem_cons_succ, List.getElem_cons_zero, List.setIfInBounds_toArray, List.set_cons_zero, List.set_cons_succ])
                refine wpAnyH_ready (rs := [14]) (by kernel_rfl) (by simp) (AllReadyH.cons rfl (fun K hK => ?_) AllReadyH.nil)
                refine step_push_G (v := .slice A0 xs.length c0) (by rfl) (.tmp 87) (.tmp 100) _ (by rfl) PgR.good w9 (.agg #[.int .i64 0, .bool false, .bool false, .bool false, .slice none 0 0]) 40 Try.underlying23 info_pg (by rfl) (by omega) (by rfl) hown9 (fun b => w8.heap.size ≤ b ∧ b < w9.heap.size) _ 1 [.int .i64 sq, .bool false, .bool false, .bool true, .slice A9 ([n8] ++ X).length c9] ⟨sq, false, false, true, [n8] ++ X⟩ (by rfl) (by rfl) (show PgR _ _ _ _ from ⟨A9, c9, rfl, hc9, hrx, HWf.out⟩) (fun b => w1.heap.size ≤ b ∧ b ≤ w9.heap.size) (fun b hb _ => ⟨hb.1, by have := hb.2; omega⟩) (fun b hb _ => ⟨by have := hb.1; omega, by have := hb.2; omega⟩) (fun b hb h => by have := (hob0 b hb).2; have := h.1; omega) (fun b hb => hb.2) ⟨by omega, Nat.le_refl _⟩ (by omega) (by omega) ?_
                intro v7 w7 ow7 hg7 hv7
                have hb78 : Below w1.heap.size w9 w7 := Below.grown (below_alloc (Below.refl w9.heap.size w9) _ |>.mono (by omega)) hg7 (by simp; omega) (fun b hb => (hob0 b hb).1)
                have hbf := hb18.trans ((bw9.mono (by omega)).trans hb78)
                have hs7 := hg7.size
                simp at hs7
                refine hK.out _ _ ?_ (fun hHeld => ?_)
                focus exact (hb78.cell (by omega)).trans e9
                clear hK K
                (try simp only [Act.put, List.getElem_toArray, List.getElem_cons_succ, List.getElem_cons_zero, List.setIfInBounds_toArray, List.set_cons_zero, List.set_cons_succ])
                refine wpAnyH_take (i := 15) (v := ?_) rfl (by kernel_rfl) (by kernel_rfl) (by kernel_rfl) (fun _ _ _ h => h) (Or.inl ⟨by kernel_rfl, ?_⟩) (by assumption) ?_
                rotate_left
                focus
                  intro w9 hSw
                  (try dsimp only at hSw)
                  go_simp
                  (try with_reducible rfl)
                (try simp only [Act.put, List.getElem_toArray, List.getElem_cons_succ, List.getElem_cons_zero, List.setIfInBounds_toArray, List.set_cons_zero, List.set_cons_succ])
                refine wpAnyH_done (by kernel_rfl) ?_ _
                (try simp only [Act.put, List.getElem_toArray, List.getElem_cons_succ, List.getElem_cons_zero, List.setIfInBounds_toArray, List.set_cons_zero, List.set_cons_succ])
                have hw8 : IntKind.i64.wrap ((f : Int) + 8) = ((f + 8 : Nat) : Int) := by rw [IntWalk.i64_in _ (by omega)]; omega
                go_wp2
                go_roundw
                case rel => exact ⟨k + 1, f + 8, by have := HF.out; omega, by omega, by first | rfl | go_num, by rw [HGs.out, HGG.out]; exact ow7.weak PgR.good (fun b hb hl9 => ⟨hb.1, hl9⟩), hbf⟩
                case measure => simp [intOf]; omega
        · have hk : k = nGrp l := by have := HF.out; rw [nGrp]; omega
          have HE := Lib.hid (show gTo l k = guarded l by rw [hk]; rfl)
          clear hk
          go_wp2
          go_ret2
          refine ⟨_, by rw [HG.out.1]; rfl, ?_, HB0.out.trans (hbr1.mono hszr)⟩
          rw [HG.out.2, ← HE.out]
          exact (hown.base_ hszr).weak PgR.good (fun b hb _ => ⟨by have := hb.1; omega, hb.2⟩)
end Go.Proofs.Ytdnkdjaokmibjaa
