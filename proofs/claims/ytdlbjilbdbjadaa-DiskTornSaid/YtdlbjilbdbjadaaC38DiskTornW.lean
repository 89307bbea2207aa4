/- DiskTorn: the walk. -/
import Derived.Test.YtdlbjilbdbjadaaDkTorn
set_option linter.unusedSimpArgs false
set_option linter.unusedVariables false
namespace Go.Proofs.Ytdlbjilbdbjadaa.diskTorn
open Go.RowKit

set_option maxHeartbeats 16000000 in
set_option maxRecDepth 100000 in
theorem walk (w : World) (A0 : Option Addr) (c0 : Nat) (t : List Int) (ht : ∀ x ∈ t, -9223372036854775808 ≤ x ∧ x ≤ 9223372036854775807) (hc : t.length ≤ c0) (h63 : c0 ≤ 9223372036854775807) (hrt : RdI w w.heap.size .i64 A0 t)
    (A1 : Option Addr) (c1 : Nat) (kept : List Int) (hk : ∀ x ∈ kept, -9223372036854775808 ≤ x ∧ x ≤ 9223372036854775807) (hck : kept.length ≤ c1) (hrk : RdI w w.heap.size .i64 A1 kept) (hd : Int) (hd0 : -9223372036854775808 ≤ hd) (hd1 : hd ≤ 9223372036854775807) :
    Calls Try.prog 4 #[.slice A0 t.length c0, .slice A1 kept.length c1, .int .i64 hd] w fun e w' => e = .returned (.bool true) ∧ Below w.heap.size w w' := by
  have HK := Lib.hid (fun W => known_any W)
  have HT := Lib.hid (newtape_any A0 t c0 ht hc (by omega) w hrt (Nat.le_refl _))
  have HKp := Lib.hid (fun W (hW : Below w.heap.size w W) => hrk.below hW (Nat.le_refl _))
  have HKb := Lib.hid hk
  have HWi := Lib.hid (fun W => within_any hd 0 2 hd0 hd1 (by omega) (by omega) (by omega) W)
  have HV := withinV_in (n := hd) (lo := 0) (hi := 2) (by omega)
  obtain ⟨way, hway⟩ := Int.eq_ofNat_of_zero_le HV.1
  rw [hway] at HWi HV
  have hw2 : way ≤ 2 := by omega
  clear ht hrt hrk hk HV hway
  by_cases h100 : kept.length ≤ 100
  · have g1 : decide ((100 : Int) < (kept.length : Int)) = false := decide_eq_false (by omega)
    have g2 : decide (100 < kept.length) = false := decide_eq_false (by omega)
    have HN := dnew_any (N := 100) (by omega) (by omega)
    rw [show ((100 : Nat) : Int) = 100 from rfl] at HN
    replace HN := Lib.hid HN
    go_enter Try.func4, Try.ntmps4
    go_upto_region 7 with (first
      | (go_at_call 6; (with_reducible refine HT.out.mono ?_); rintro e w1 ⟨rfl, hT1, hb1⟩)
      | (go_at_call 7; (with_reducible refine (HN.out _).mono ?_); rintro e w2 ⟨gd, gs, ge, rfl, hD2, hb2⟩))
    have hT2 := hT1.below hb2 hT1.lt
    have bb2 := below_then hb1 hb2
    have hgt := hT1.lt
    have hS2 : Sd w w2 w.heap.size w1.heap.size (dkF gd gs ge (.slice none 0 0)) (.slice none 0 0) [] (fun _ => False) := ⟨hT2, hgt, hD2.lt, OwnG.nil_ _ _ _ _ _ _, fun b hb => (by cases hb), fun b hb => hb.elim⟩
    have hL2 := log_start (N := 100) (by omega)
    generalize hs0 : (⟨100, List.replicate (64 * 100) 0, List.replicate (64 * 100) 0, []⟩ : Dk) = s0 at *
    have hn0 : s0.n = 100 := by rw [← hs0]
    have hq0 : s0.qs.length ≤ 1 := by rw [← hs0]; exact Nat.zero_le _
    have HSt := Lib.hid (start_any hD2 (hL2.good (by simp)) hq0)
    have hbs1 := hb1.size
    have HS2 := Lib.hid hS2
    have HL2 := Lib.hid hL2
    clear hs0 hT1 hT2 hb1 hb2 hD2 HT HN hS2 hL2 g1 g2
    go_upto_region 10 with (first
      | (go_at_call 8; (with_reducible refine HSt.out.mono ?_); rintro e w4 ⟨gr, rfl, hgr, hR4, hb4⟩))
    have hS4 : Sd w w4 w.heap.size w1.heap.size (rkF gd gs ge gr (.slice none 0 0) (.slice none 0 0)) (.slice none 0 0) [] (fun _ => False) := (HS2.out.disk ((Mod.of_fresh (M := fun _ => False) hb4).mono (fun _ h _ => h.elim)) (fun x hx => by
      rcases hx with hx | rfl | hx
      · exact .inl hx
      · exact .inr hgr
      · cases hx) hR4.lt)
    have bw4 := below_then bb2 hb4
    have hbw4 : w1.heap.size ≤ w4.heap.size := by have := hR4.lt gr (.inr (.inl rfl)); omega
    have HP1 := tapepgs_any hS4.tp 0 (by omega) 4 (by omega)
    simp only [Nat.zero_add] at HP1
    rw [show ((0 : Nat) : Int) = 0 from rfl, show ((4 : Nat) : Int) = 4 from rfl] at HP1
    replace HP1 := Lib.hid HP1
    have HS4 := Lib.hid hS4
    have HR4 := Lib.hid hR4
    clear hS4 hR4 HSt HS2 hb4 hgr bb2
    go_upto_region 11 with (first
      | (go_at_call 18; (with_reducible refine HP1.out.mono ?_); rintro e w5 ⟨v5, a, rfl, hla, hga, ho5, hT5, hg5⟩; obtain ⟨Aa, ca, rfl, hca, _, _⟩ := ho5.form PgR.good))
    have hS5 := HS4.out.fill hT5 hg5 ho5 hbw4
    have hR5 := rk_tape HR4.out hg5 HS4.out.tb
    have bw5 := below_one bw4 hg5 (Nat.le_refl _)
    have hs5 := hg5.size
    generalize hDa : (fun b => w4.heap.size ≤ b ∧ b < w5.heap.size) = Da at *
    have HS5 := Lib.hid hS5
    have HR5 := Lib.hid hR5
    have HGa := Lib.hid hga
    clear hDa hS5 hR5 HP1 HS4 HR4 ho5 hT5 hg5 bw4 hga
    go_wp2_with (fail)
    go_loopw [13] (fun iv wr => ∃ (k : Nat) (s : Dk) (vq vr : Value) (r : Rc), iv = .int .i64 (k : Int) ∧ k ≤ a.length ∧ LogI s r (List.replicate 64 0) [] 1 [] (a.take k) ∧ s.n = 100 ∧ RkM wr w1.heap.size gd gs ge gr vq vr s r ∧ Sd w wr w.heap.size w1.heap.size (rkF gd gs ge gr vq vr) (.slice Aa a.length ca) a Da ∧ r.used * 64 + r.rest.length ≤ 64 + 264 * k ∧ Below w.heap.size w wr) (fun iv _ => a.length - natOf iv)
    case atStart => exact ⟨0, s0, _, _, _, rfl, Nat.zero_le _, HL2.out, hn0, HR5.out, HS5.out, by show 1 * 64 + 0 ≤ _; omega, bw5⟩
    case round =>
      obtain ⟨k, s, vq, vr, r, rfl, hk, hL, hn, hR, hS, hU, hbr⟩ := hrel
      by_cases hkl : k < a.length
      · have hk1 : decide ((k : Int) < (a.length : Int)) = true := decide_eq_true (by omega)
        have hk2 : decide (k < a.length) = true := decide_eq_true hkl
        obtain ⟨_, _, hrp⟩ := hS.rd
        obtain ⟨ad, p, Aj, cj, hAx, _, hp, y0, y1, y2, y3, y4, hcj, hrj, _⟩ := RdPg.at_ hrp hkl
        have htk : a.take (k + 1) = a.take k ++ [a[k]] := List.take_succ_eq_append_getElem hkl
        have hgd := HGa.out k hkl
        have hnx := hL.next
        rw [List.length_take, Nat.min_eq_left hk, List.length_nil, Nat.zero_add] at hnx
        generalize a[k] = pg at *
        have hAd := Lib.hid (radd_pg (c := cj) hR hL (by rw [hnx]; exact hgd) hrj.top (by omega) (by omega))
        have HSx := Lib.hid hS
        have HRx := Lib.hid hR
        have htk := Lib.hid htk
        subst hAx
        clear hR hL hS hrp hrj hgd HS5 HR5 HL2
        go_wp2_with (first
          | (go_at_call 12; (with_reducible refine hAd.out.mono ?_); rintro e wa ⟨rfl, vqa, vra, sa, ra, hLa, hna, hsna, hua, hRa, hma, hFa⟩))
        go_roundw
        case rel => exact ⟨k + 1, sa, vqa, vra, ra, rfl, by omega, by rw [htk.out]; exact hLa, by rw [hsna]; exact hn, hRa, HSx.out.disk hma hFa hRa.lt, by omega, hbr.trans (hma.below (Below.size hbr) (fun b hb => by have := (HRx.out.lt b hb).1; omega))⟩
        case measure => simp [natOf]; omega
      · obtain rfl : k = a.length := by omega
        have hk1 : decide ((a.length : Int) < (a.length : Int)) = false := decide_eq_false (by omega)
        have hk2 : decide (a.length < a.length) = false := decide_eq_false (by omega)
        rw [List.take_length] at hL
        have hla4 : a.length ≤ 4 := hla
        have HSy := Lib.hid (rsync_logX hR hL (by rw [hn]; omega))
        have HSz := Lib.hid hS
        have HRz := Lib.hid hR
        clear hR hL hS HL2 HS5 HR5
        go_upto_region 17 with (first
          | (go_at_call 13; (with_reducible refine HSy.out.mono ?_); rintro e w6 ⟨rfl, vr6, s6, r6, H6, C6, U6, hL6, _, hn6, hsn6, hq6, hu6, hR6, hm6, hF6⟩))
        have hS6 := HSz.out.disk hm6 hF6 hR6.lt
        have bw6 := hbr.trans (hm6.below (Below.size hbr) (fun b hb => by have := (HRz.out.lt b hb).1; omega))
        rw [List.nil_append] at hL6
        have hU6 : U6 * 64 ≤ 1200 := by have := hL6.uu; omega
        have hbw6 : w1.heap.size ≤ w6.heap.size := by have := hR6.lt gr (.inr (.inl rfl)); omega
        have HP2 := tapepgs_any hS6.tp a.length (by omega) 4 (by omega)
        rw [show ((4 : Nat) : Int) = 4 from rfl] at HP2
        replace HP2 := Lib.hid HP2
        have HS6 := Lib.hid hS6
        have HR6 := Lib.hid hR6
        have HL6 := Lib.hid hL6
        have hsn : s6.n = 100 := by rw [hsn6]; exact hn
        clear hS6 hR6 hL6 HSy HSz HRz hm6 hF6 hbr hn hsn6 hn6
        go_upto_region 18 with (first
          | (go_at_call 18; (with_reducible refine HP2.out.mono ?_); rintro e w7 ⟨v7, c, rfl, hlc, hgc, ho7, hT7, hg7⟩; obtain ⟨Ac, cc, rfl, hcc, _, _⟩ := ho7.form PgR.good))
        have hS7 := HS6.out.fill hT7 hg7 ho7 hbw6
        have hSa7 := HS6.out.tape hT7 hg7
        have hR7 := rk_tape HR6.out hg7 HS6.out.tb
        have bw7 := below_one bw6 hg7 (Nat.le_refl _)
        have hs7 := hg7.size
        generalize hDc : (fun b => w6.heap.size ≤ b ∧ b < w7.heap.size) = Dc at *
        have HS7 := Lib.hid (And.intro hSa7 hS7)
        have HR7 := Lib.hid hR7
        have HGc := Lib.hid hgc
        clear hDc hS7 hSa7 hR7 HP2 HS6 HR6 ho7 hT7 hg7 bw6 hgc
        go_wp2_with (fail)
        go_loopw [15] (fun iv wr => ∃ (k : Nat) (s : Dk) (vq vr : Value) (r : Rc), iv = .int .i64 (k : Int) ∧ k ≤ c.length ∧ LogI s r H6 C6 U6 a (c.take k) ∧ s.n = 100 ∧ RkM wr w1.heap.size gd gs ge gr vq vr s r ∧ (Sd w wr w.heap.size w1.heap.size (rkF gd gs ge gr vq vr) (.slice Aa a.length ca) a Da ∧ Sd w wr w.heap.size w1.heap.size (rkF gd gs ge gr vq vr) (.slice Ac c.length cc) c Dc) ∧ r.used * 64 + r.rest.length ≤ 1200 + 264 * k ∧ Below w.heap.size w wr) (fun iv _ => c.length - natOf iv)
        case atStart => exact ⟨0, s6, _, _, _, rfl, Nat.zero_le _, HL6.out, hsn, HR7.out, HS7.out, by omega, bw7⟩
        case round =>
          clear hU
          obtain ⟨k, s, vq, vr, r, rfl, hk, hL, hn, hR, hS, hU, hbr⟩ := hrel
          by_cases hkl : k < c.length
          · have hk3 : decide ((k : Int) < (c.length : Int)) = true := decide_eq_true (by omega)
            have hk4 : decide (k < c.length) = true := decide_eq_true hkl
            obtain ⟨_, _, hrp⟩ := hS.2.rd
            obtain ⟨ad, p, Aj, cj, hAx, _, hp, y0, y1, y2, y3, y4, hcj, hrj, _⟩ := RdPg.at_ hrp hkl
            have htk : c.take (k + 1) = c.take k ++ [c[k]] := List.take_succ_eq_append_getElem hkl
            have hgd := HGc.out k hkl
            have hnx := hL.next
            rw [List.length_take, Nat.min_eq_left hk] at hnx
            generalize c[k] = pg at *
            have hAd := Lib.hid (radd_pg (c := cj) hR hL (by rw [hnx]; exact hgd) hrj.top (by omega) (by omega))
            have HSx := Lib.hid hS
            have HRx := Lib.hid hR
            have htk := Lib.hid htk
            subst hAx
            clear hR hL hS hrp hrj hgd HS7 HR7 HL6
            go_wp2_with (first
              | (go_at_call 12; (with_reducible refine hAd.out.mono ?_); rintro e wa ⟨rfl, vqa, vra, sa, ra, hLa, hna, hsna, hua, hRa, hma, hFa⟩))
            go_roundw
            case rel => exact ⟨k + 1, sa, vqa, vra, ra, rfl, by omega, by rw [htk.out]; exact hLa, by rw [hsna]; exact hn, hRa, ⟨HSx.out.1.disk hma hFa hRa.lt, HSx.out.2.disk hma hFa hRa.lt⟩, by omega, hbr.trans (hma.below (Below.size hbr) (fun b hb => by have := (HRx.out.lt b hb).1; omega))⟩
            case measure => simp [natOf]; omega
          · obtain rfl : k = c.length := by omega
            have hk3 : decide ((c.length : Int) < (c.length : Int)) = false := decide_eq_false (by omega)
            have hk4 : decide (c.length < c.length) = false := decide_eq_false (by omega)
            rw [List.take_length] at hL
            have hqb := hR.qb
            have HCr := Lib.hid (dcrash_log hR.dk hL (by rw [hn] at hqb; omega) A1 c1 kept HKb.out hck (HKp.out _ hbr) hbs1)
            have HSz := Lib.hid hS
            have HRz := Lib.hid hR
            clear hR hL hS HS7 HR7 HL6
            go_upto_region 24 with (first
              | (go_at_call 14; (with_reducible refine HCr.out.mono ?_); rintro e w8 ⟨rfl, s8, hL8, hsn8, hq8, hD8, hm8⟩))
            have hmr : Mod (rkF gd gs ge gr vq vr) _ w8 := hm8.mono (fun b hb _ => .inl hb)
            have hF8 : ∀ x, dkF gd gs ge (.slice none 0 0) x → rkF gd gs ge gr vq vr x ∨ wr.heap.size ≤ x := fun x hx => by
              rcases hx with hx | hx | hx | hx
              · exact .inl (.inl (.inl hx))
              · exact .inl (.inl (.inr (.inl hx)))
              · exact .inl (.inl (.inr (.inr (.inl hx))))
              · cases hx
            have hSa8 := HSz.out.1.disk hmr hF8 hD8.lt
            have hSc8 := HSz.out.2.disk hmr hF8 hD8.lt
            have bw8 := hbr.trans (hmr.below (Below.size hbr) (fun b hb => by have := (HRz.out.lt b hb).1; omega))
            have HRc := Lib.hid (recover_log hD8 (hL8.good (by omega)))
            have HS8 := Lib.hid (And.intro hSa8 hSc8)
            have HD8 := Lib.hid hD8
            have HL8 := Lib.hid hL8
            clear hSa8 hSc8 hD8 hL8 hF8 HSz HRz HCr hmr hm8 hbr
            go_upto_region 25 with (first
              | (go_at_call 15; (with_reducible refine HRc.out.mono ?_); rintro e w9 ⟨Al, cl, rfl, hrl, hol, hb9⟩))
            have hSa9 := HS8.out.1.fresh hb9
            have hSc9 := HS8.out.2.fresh hb9
            have hD9 := HD8.out.below hb9
            have bw9 := below_then bw8 hb9
            have HSm := Lib.hid (samepgs_any cl ca hrl hSa9.rd.2.2 (by omega) (by omega))
            have HS9 := Lib.hid (And.intro hSa9 hSc9)
            have HD9 := Lib.hid hD9
            clear hSa9 hSc9 hD9 HS8 HD8 HRc hrl hol hb9 bw8
            go_upto_region 27 with (first
              | (go_at_call 16; (with_reducible refine HSm.out.mono ?_); rintro e w10 ⟨rfl, hb10⟩))
            have hSa10 := HS9.out.1.fresh hb10
            have hSc10 := HS9.out.2.fresh hb10
            have hD10 := HD9.out.below hb10
            have bw10 := below_then bw9 hb10
            have HSt2 := Lib.hid (start_any hD10 (HL8.out.good (by omega)) (by rw [hq8]; exact Nat.zero_le _))
            have HSb := Lib.hid (And.intro hSa10 hSc10)
            clear hSa10 hSc10 hD10 HS9 HD9 HSm hb10 bw9
            go_upto_region 30 with (first
              | (go_at_call 8; (with_reducible refine HSt2.out.mono ?_); rintro e w11 ⟨gr2, rfl, hgr2, hR11, hb11⟩; have HNx := Lib.hid (rnext_any hR11))
              | (go_at_call 9; (with_reducible refine HNx.out.mono ?_); rintro e w11' ⟨rfl, rfl⟩))
            have hF11 : ∀ x, rkF gd gs ge gr2 (.slice none 0 0) (.slice none 0 0) x → dkF gd gs ge (.slice none 0 0) x ∨ w10.heap.size ≤ x := fun x hx => by
              rcases hx with hx | rfl | hx
              · exact .inl hx
              · exact .inr hgr2
              · cases hx
            have hm11 : Mod (dkF gd gs ge (.slice none 0 0)) w10 w11 := (Mod.of_fresh (M := fun _ => False) hb11).mono (fun _ h _ => h.elim)
            have hSa11 := HSb.out.1.disk hm11 hF11 hR11.lt
            have hSc11 := HSb.out.2.disk hm11 hF11 hR11.lt
            have bw11 := below_then bw10 hb11
            have HS11 := Lib.hid (And.intro hSa11 hSc11)
            have HR11 := Lib.hid hR11
            have hsn8 : s8.n = 100 := by rw [hsn8]; exact hn
            clear hSa11 hSc11 hF11 hm11 hR11 HSb HSt2 HNx hgr2 hb11 bw10
            go_wp2_with (fail)
            go_loopw [20] (fun iv wr => ∃ (k : Nat) (s : Dk) (vq vr : Value) (r : Rc), iv = .int .i64 (k : Int) ∧ k ≤ c.length ∧ LogI s r H6 C6 U6 a (c.take k) ∧ s.n = 100 ∧ RkM wr w1.heap.size gd gs ge gr2 vq vr s r ∧ (Sd w wr w.heap.size w1.heap.size (rkF gd gs ge gr2 vq vr) (.slice Aa a.length ca) a Da ∧ Sd w wr w.heap.size w1.heap.size (rkF gd gs ge gr2 vq vr) (.slice Ac c.length cc) c Dc) ∧ r.used * 64 + r.rest.length ≤ 1200 + 264 * k ∧ Below w.heap.size w wr) (fun iv _ => c.length - natOf iv)
            case atStart => exact ⟨0, s8, _, _, _, rfl, Nat.zero_le _, HL8.out, hsn8, HR11.out, HS11.out, by show U6 * 64 + 0 ≤ _; omega, bw11⟩
            case round =>
              clear hU
              obtain ⟨k, s, vq, vr, r, rfl, hk, hL, hn, hR, hS, hU, hbr⟩ := hrel
              by_cases hkl : k < c.length
              · have hk5 : decide ((k : Int) < (c.length : Int)) = true := decide_eq_true (by omega)
                have hk6 : decide (k < c.length) = true := decide_eq_true hkl
                obtain ⟨_, _, hrp⟩ := hS.2.rd
                obtain ⟨ad, p, Aj, cj, hAx, _, hp, y0, y1, y2, y3, y4, hcj, hrj, _⟩ := RdPg.at_ hrp hkl
                have htk : c.take (k + 1) = c.take k ++ [c[k]] := List.take_succ_eq_append_getElem hkl
                have hgd := HGc.out k hkl
                have hnx := hL.next
                rw [List.length_take, Nat.min_eq_left hk] at hnx
                generalize c[k] = pg at *
                have hAd := Lib.hid (radd_pg (c := cj) hR hL (by rw [hnx]; exact hgd) hrj.top (by omega) (by omega))
                have HSx := Lib.hid hS
                have HRx := Lib.hid hR
                have htk := Lib.hid htk
                subst hAx
                clear hR hL hS hrp hrj hgd HS11 HR11
                go_wp2_with (first
                  | (go_at_call 12; (with_reducible refine hAd.out.mono ?_); rintro e wa ⟨rfl, vqa, vra, sa, ra, hLa, hna, hsna, hua, hRa, hma, hFa⟩))
                go_roundw
                case rel => exact ⟨k + 1, sa, vqa, vra, ra, rfl, by omega, by rw [htk.out]; exact hLa, by rw [hsna]; exact hn, hRa, ⟨HSx.out.1.disk hma hFa hRa.lt, HSx.out.2.disk hma hFa hRa.lt⟩, by omega, hbr.trans (hma.below (Below.size hbr) (fun b hb => by have := (HRx.out.lt b hb).1; omega))⟩
                case measure => simp [natOf]; omega
              · obtain rfl : k = c.length := by omega
                have hk5 : decide ((c.length : Int) < (c.length : Int)) = false := decide_eq_false (by omega)
                have hk6 : decide (c.length < c.length) = false := decide_eq_false (by omega)
                rw [List.take_length] at hL
                have HRd := Lib.hid (dread0_log hR.dk hL)
                have HSz := Lib.hid hS
                have HRz := Lib.hid hR
                have HLz := Lib.hid hL
                clear hR hL hS HS11 HR11
                go_upto_region 36 with (first
                  | (go_at_call 19; (with_reducible refine HRd.out.mono ?_); rintro e w12 ⟨Ao, co, rfl, hro, hbo, hb12⟩))
                have hR12 := HRz.out.below hb12
                have HSy2 := Lib.hid (rsync_logX hR12 HLz.out (by rw [hn]; omega))
                have HS12 := Lib.hid (And.intro (HSz.out.1.fresh hb12) (HSz.out.2.fresh hb12))
                have HR12 := Lib.hid (fun x hx => (HRz.out.lt x hx))
                have bw12 := below_then hbr hb12
                have hb12s := hb12.size
                clear hR12 HSz HRz HRd hbr hb12
                go_upto_region 37 with (first
                  | (go_at_call 13; (with_reducible refine HSy2.out.mono ?_); rintro e w13 ⟨rfl, vr13, s13, r13, H13, C13, U13, hL13, ⟨X13, hX13⟩, _, hn13, hq13, hu13, hR13, hm13, hF13⟩))
                have hro13 := hro.keep hm13 (fun b hb _ e => by have := (HR12.out b e).2; have := hb.1; omega)
                have hSa13 := HS12.out.1.disk hm13 hF13 hR13.lt
                have hSc13 := HS12.out.2.disk hm13 hF13 hR13.lt
                have bw13 := bw12.trans (hm13.below (Below.size bw12) (fun b hb => by have := (HR12.out b hb).1; omega))
                have HRd13 := Lib.hid (dread0_log hR13.dk hL13)
                have hsn13 : s13.n = 100 := by rw [hn13]; exact hn
                have HS13 := Lib.hid (And.intro hSa13 hSc13)
                have HR13 := Lib.hid hR13
                have HL13 := Lib.hid hL13
                have hs13 := hm13.size
                clear hSa13 hSc13 hR13 hL13 HSy2 HS12 HR12 hm13 hF13 bw12 hro
                go_upto_region 38 with (first
                  | (go_at_call 19; (with_reducible refine HRd13.out.mono ?_); rintro e w14 ⟨An, cn, rfl, hrn, hbn, hb14⟩))
                have hD14 := HR13.out.dk.below hb14
                have hro14 := hro13.keep (M := fun _ => False) (Mod.of_fresh hb14) (fun _ _ _ h => h)
                have HW := Lib.hid (dwrite0 (c := co) hD14 HLz.out.hl hbo (by rw [hq13]; exact Nat.zero_le _) hro14.top)
                have HS14 := Lib.hid (And.intro (HS13.out.1.fresh hb14) (HS13.out.2.fresh hb14))
                have HD14 := Lib.hid hD14
                have bw14 := below_then bw13 hb14
                have hdlt : ∀ x, dkF gd gs ge (.slice none 0 0) x → w1.heap.size ≤ x ∧ x < w13.heap.size := fun x hx => HR13.out.dk.lt x hx
                clear hD14 HS13 HR13 HRd13 hro13 hro14 bw13
                go_upto_region 40 with (first
                  | (go_at_call 20; (with_reducible refine HW.out.mono ?_); rintro e w15 ⟨rfl, vq15, hD15, hm15, hF15⟩))
                have hgd13 := hdlt gd (.inl rfl)
                have hgs13 := hdlt gs (.inr (.inl rfl))
                have hge13 := hdlt ge (.inr (.inr (.inl rfl)))
                have hm15' : Mod (rkF gd gs ge gr2 (.slice none 0 0) vr13) w14 w15 := hm15.mono (fun b h _ => .inl h)
                have hF15' : ∀ x, dkF gd gs ge vq15 x → rkF gd gs ge gr2 (.slice none 0 0) vr13 x ∨ w14.heap.size ≤ x := fun x hx => (hF15 x hx).imp .inl id
                have hSa15 := HS14.out.1.disk hm15' hF15' hD15.lt
                have hSc15 := HS14.out.2.disk hm15' hF15' hD15.lt
                have bw15 := bw14.trans (hm15.below (Below.size bw14) (fun b hb => by have := (hdlt b hb).1; omega))
                have hrn15 := hrn.keep hm15 (fun b hb _ e => by have := (hdlt b e).2; have := hb.1; omega)
                have HFl := Lib.hid (dflush_any hD15)
                have HS15 := Lib.hid (And.intro hSa15 hSc15)
                have hvq15 := hD15.lt
                have hs15 := hm15.size
                clear hD15 hSa15 hSc15 hm15' hF15' hm15 HS14 HD14 HW hrn bw14
                go_upto_region 41 with (first
                  | (go_at_call 21; (with_reducible refine HFl.out.mono ?_); rintro e w16 ⟨rfl, hD16, hm16⟩))
                have hm16' : Mod (dkF gd gs ge vq15) w15 w16 := hm16.mono (fun b h _ => by
                  rcases h with h | h
                  · exact .inl h
                  · exact .inr (.inl h))
                have hSa16 := HS15.out.1.disk hm16' (fun x hx => .inl (dkF_nil hx)) hD16.lt
                have hSc16 := HS15.out.2.disk hm16' (fun x hx => .inl (dkF_nil hx)) hD16.lt
                have bw16 := bw15.trans (hm16'.below (Below.size bw15) (fun b hb => by have := (hvq15 b hb).1; omega))
                have hrn16 := hrn15.keep hm16 (fun b hb _ e => by have := hb.1; omega)
                have HW2 := Lib.hid (dwrite0 (c := cn) hD16 HL13.out.hl hbn (Nat.zero_le _) hrn16.top)
                have HS16 := Lib.hid (And.intro hSa16 hSc16)
                clear hD16 hSa16 hSc16 hm16' hm16 HS15 HFl hrn15 hrn16 bw15
                go_upto_region 43 with (first
                  | (go_at_call 20; (with_reducible refine HW2.out.mono ?_); rintro e w17 ⟨rfl, vq17, hD17, hm17, hF17⟩))
                have hSa17 := HS16.out.1.disk hm17 hF17 hD17.lt
                have hSc17 := HS16.out.2.disk hm17 hF17 hD17.lt
                have bw17 := bw16.trans (hm17.below (Below.size bw16) (fun b hb => by have := (hdlt b hb).1; omega))
                have bx := below_alloc (Below.refl w17.heap.size w17) (.cells #[.int .i64 (way : Int)] 3)
                have hrw := RdS.one w17 .i64 (way : Int) 3
                have hDx := hD17.below bx
                have hgs17 := (hD17.lt gs (.inr (.inl rfl))).2
                have HCr2 := dcrash_S hDx (by show (([] : List (Nat × List Int)) ++ [_]).length ≤ 1000000; simp) (some ⟨w17.heap.size, 0, none⟩) 1 [(way : Int)] (fun x hx => by rw [List.mem_singleton] at hx; subst hx; exact ⟨by omega, by omega⟩) (by simp) hrw (fun b hb _ e => by have hb : b = w17.heap.size := hb; omega)
                simp only [List.length_cons, List.length_nil, Nat.zero_add] at HCr2
                have HCr3 := Lib.hid HCr2
                have HSx := Lib.hid (And.intro (hSa17.fresh bx) (hSc17.fresh bx))
                have bwx := below_then bw17 bx
                have hvq17 := hDx.lt
                clear HCr2 hD17 hDx hSa17 hSc17 HS16 HW2 hm17 hF17 bw16 bw17 bx hrw
                go_upto_region 44 with (first
                  | (go_at_call 22; (with_reducible refine (HWi.out _).mono ?_); rintro e wx ⟨rfl, rfl⟩))
                go_upto_region 45 with (first
                  | (go_at_call 14; (with_reducible refine HCr3.out.mono ?_); rintro e w18 ⟨rfl, hD18, hm18⟩))
                have hm18' : Mod (dkF gd gs ge vq17) _ w18 := hm18.mono (fun b h _ => by
                  rcases h with h | h | h
                  · exact .inl h
                  · exact .inr (.inl h)
                  · exact .inr (.inr (.inl h)))
                have hSa18 := HSx.out.1.disk hm18' (fun x hx => .inl (dkF_nil hx)) hD18.lt
                have hSc18 := HSx.out.2.disk hm18' (fun x hx => .inl (dkF_nil hx)) hD18.lt
                have bw18 := bwx.trans (hm18'.below (Below.size bwx) (fun b hb => by have := (hvq17 b hb).1; omega))
                have hG := torn_good HL13.out HLz.out.hl HLz.out.cl HLz.out.u1 HLz.out.hd HLz.out.laid hX13 (by rw [List.length_append]; omega) way hw2
                obtain ⟨want, hwant⟩ : ∃ x, x = if way = 0 then a else a ++ c := ⟨_, rfl⟩
                rw [← hwant] at hG
                have HRc2 := Lib.hid (recover_log hD18 hG)
                have HS18 := Lib.hid (And.intro hSa18 hSc18)
                obtain ⟨B, hB⟩ : ∃ B, B = decide ((0 : Int) < (way : Int)) := ⟨_, rfl⟩
                have hB2 : decide (0 < way) = B := by rw [hB]; exact decide_eq_decide.2 (by omega)
                have hB1 := hB.symm
                replace hB := Lib.hid hB
                have hwl : want.length ≤ 8 := by
                  rw [hwant]
                  split
                  · omega
                  · rw [List.length_append]; omega
                replace hwant := Lib.hid hwant
                clear hD18 hSa18 hSc18 hm18 hm18' HSx HCr3 hG bwx
                go_upto_if 179 with (first
                  | (go_at_call 15; (with_reducible refine HRc2.out.mono ?_); rintro e w19 ⟨Am, cm, rfl, hrm, _, hb19⟩))
                clear hB1 hB2
                have hra := (HS18.out.1.fresh hb19).rd.2.2
                have hrc := (HS18.out.2.fresh hb19).rd.2.2
                have bw19 := below_then bw18 hb19
                have hrm' : RdPg w19 (fun b => b < w19.heap.size) Am want := hrm.weak PgR.good (fun b hb _ => hb.2)
                have hra' : RdPg w19 (fun b => b < w19.heap.size) Aa a := hra.weak PgR.good (fun b hb h => h)
                have hrc' : RdPg w19 (fun b => b < w19.heap.size) Ac c := hrc.weak PgR.good (fun b hb h => h)
                clear HRc2 HS18 hra hrc hrm hb19
                go_cut [28] (fun v wc => ∃ (A : Option Addr) (cp : Nat), v = .slice A want.length cp ∧ RdPg wc (fun _ => True) A want ∧ RdPg wc (fun _ => True) Am want ∧ Below w.heap.size w wc)
                case first =>
                  cases B with
                  | false =>
                    go_wp2_with (fail)
                    go_meet
                    have hw0 : way = 0 := by have := of_decide_eq_false hB.out.symm; omega
                    have hwa : want = a := by rw [hwant.out, if_pos hw0]
                    subst hwa
                    exact ⟨Aa, ca, rfl, hra'.weak PgR.good (fun _ _ _ => trivial), hrm'.weak PgR.good (fun _ _ _ => trivial), bw19⟩
                  | true =>
                    have hlit : ∀ b, (Value.slice (some ⟨w19.heap.size, 0, none⟩) 0 0).ownBlock = some b → b = w19.heap.size := fun b hb => by
                      simp [Value.ownBlock] at hb; omega
                    have hE := OwnG.empty PgR 5 38 w19 w19.heap.size (fun b => b < w19.heap.size) (Nat.le_refl _)
                    have bE := below_alloc (Below.refl w19.heap.size w19) (.cells #[] 38)
                    have hraE := hra'.below PgR.good bE
                    go_wp2_with (first
                      | (at_builtin; (refine wpList_append_G (v := .slice (some ⟨w19.heap.size, 0, none⟩) 0 0) rfl (.tmp 180) (.tmp 181) _ rfl PgR.good (w19.alloc (.cells #[] 38)) (.agg #[.int .i64 0, .bool false, .bool false, .bool false, .slice none 0 0]) 40 Try.underlying30 info_pg rfl (by omega) rfl hE (fun b => b < w19.heap.size) Aa ca a.length a rfl rfl hraE (fun b hb _ => hb) (fun b hb h => by have h8 : b < w19.heap.size := h; have := hlit b hb; omega) (fun b hb => by have h8 : b < w19.heap.size := hb; simp; omega) (by simp; omega) (by simp) ?_); intro v20 w20 ow20 hg20 hv20; rw [List.nil_append] at ow20; have hb20 := Below.grown bE hg20 (by simp) (fun b hb => by have := hlit b hb; omega); have hs20 := hb20.size; have hrcE := hrc'.below PgR.good hb20; obtain ⟨A20, c20, rfl, _, _, hoo20⟩ := ow20.form PgR.good)
                      | (at_builtin; (refine wpList_append_G (v := .slice A20 a.length c20) rfl (.tmp 182) (.tmp 183) _ rfl PgR.good w20 (.agg #[.int .i64 0, .bool false, .bool false, .bool false, .slice none 0 0]) 40 Try.underlying30 info_pg rfl (by omega) rfl ow20 (fun b => b < w19.heap.size) Ac cc c.length c rfl rfl hrcE (fun b hb _ => hb) (fun b hb h => by have h8 : b < w19.heap.size := h; have := (hoo20 b hb).1; omega) (fun b hb => by have h8 : b < w19.heap.size := hb; omega) (by omega) (by omega) ?_); intro v21 w21 ow21 hg21 hv21; obtain ⟨A21, c21, rfl, _, hr21, _⟩ := ow21.form PgR.good))
                    have hb21 := Below.grown hb20 hg21 hs20 (fun b hb => (hoo20 b hb).1)
                    go_meet
                    have hw0 : way ≠ 0 := by have := of_decide_eq_true hB.out.symm; omega
                    have hwa : want = a ++ c := by rw [hwant.out, if_neg hw0]
                    have hlen : want.length = a.length + c.length := by rw [hwa, List.length_append]
                    rw [← hwa] at hr21
                    rw [← hlen]
                    exact ⟨A21, c21, rfl, hr21.weak PgR.good (fun _ _ _ => trivial), (hrm'.below PgR.good hb21).weak PgR.good (fun _ _ _ => trivial), below_then bw19 hb21⟩
                case rest =>
                  obtain ⟨Aw, cw, rfl, hrw, hrm9, bwc⟩ := hcut
                  have HSm9 := Lib.hid (samepgs_any cm cw hrm9 hrw (by omega) (by omega))
                  clear hra' hrc' hrm' hrm9 hrw
                  go_wp2_with (first
                    | (go_at_call 16; (with_reducible refine HSm9.out.mono ?_); rintro e w22 ⟨rfl, hb22⟩)
                    | (go_at_call 17; (with_reducible refine (HK.out _).mono ?_); rintro e w23 ⟨rfl, hb23⟩))
                  go_ret
                  exact ⟨rfl, below_then (below_then bwc hb22) hb23⟩
  · have g1 : decide ((100 : Int) < (kept.length : Int)) = true := decide_eq_true (by omega)
    have g2 : decide (100 < kept.length) = true := decide_eq_true (by omega)
    go_enter Try.func4, Try.ntmps4
    go_wp2_with (fail)
    go_ret
    exact ⟨rfl, Below.refl _ _⟩
end Go.Proofs.Ytdlbjilbdbjadaa.diskTorn
