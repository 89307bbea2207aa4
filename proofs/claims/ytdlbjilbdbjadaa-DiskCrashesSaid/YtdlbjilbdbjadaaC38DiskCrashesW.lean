/- DiskCrashes: the walk. -/
import Derived.Test.YtdlbjilbdbjadaaDkLog
set_option linter.unusedSimpArgs false
set_option linter.unusedVariables false
namespace Go.Proofs.Ytdlbjilbdbjadaa.diskCrashes
open Go.RowKit

set_option maxHeartbeats 16000000 in
set_option maxRecDepth 100000 in
theorem walk (w : World) (A0 : Option Addr) (c0 : Nat) (t : List Int) (ht : ∀ x ∈ t, -9223372036854775808 ≤ x ∧ x ≤ 9223372036854775807) (hc : t.length ≤ c0) (h63 : c0 ≤ 9223372036854775807) (hrt : RdI w w.heap.size .i64 A0 t)
    (A1 : Option Addr) (c1 : Nat) (kept : List (List Int)) (hk : ∀ y ∈ kept, ∀ x ∈ y, -9223372036854775808 ≤ x ∧ x ≤ 9223372036854775807) (hck : kept.length ≤ c1) (hrk : RdLL w w.heap.size .i64 A1 kept) :
    Calls Try.prog 3 #[.slice A0 t.length c0, .slice A1 kept.length c1] w fun e w' => e = .returned (.bool true) ∧ Below w.heap.size w w' := by
  have HK := Lib.hid (fun W => known_any W)
  have HT := Lib.hid (newtape_any A0 t c0 ht hc (by omega) w hrt (Nat.le_refl _))
  have HKp := Lib.hid (fun W (hW : Below w.heap.size w W) => hrk.below hW (Nat.le_refl _))
  have HKb := Lib.hid hk
  clear ht hrt hrk hk
  by_cases h12 : kept.length ≤ 12
  · have g1 : decide ((12 : Int) < (kept.length : Int)) = false := decide_eq_false (by omega)
    have g2 : decide (12 < kept.length) = false := decide_eq_false (by omega)
    go_enter Try.func3, Try.ntmps3
    go_wp2_with (fail)
    go_loop [5] (fun iv => ∃ i : Nat, i ≤ kept.length ∧ iv = .int .i64 (i : Int)) (fun iv => kept.length - natOf iv)
    case atStart => exact ⟨0, Nat.zero_le _, rfl⟩
    case round =>
      obtain ⟨i, hi, rfl⟩ := hrel
      by_cases hik : i < kept.length
      · obtain ⟨al, Aj, cj, rfl, _, zh, hcj, hrj⟩ := HKp.out _ (Below.refl _ _) i hik
        generalize kept.getD i [] = kl at *
        by_cases h60 : kl.length ≤ 60
        · have e1 : decide ((60 : Int) < (kl.length : Int)) = false := decide_eq_false (by omega)
          have e2 : decide (60 < kl.length) = false := decide_eq_false (by omega)
          clear hrj
          go_wp2_with (fail)
          go_round
          case rel => exact ⟨i + 1, by omega, by go_num⟩
          case measure => simp [natOf]; omega
        · have e1 : decide ((60 : Int) < (kl.length : Int)) = true := decide_eq_true (by omega)
          have e2 : decide (60 < kl.length) = true := decide_eq_true (by omega)
          clear hrj
          go_wp2_with (fail)
          go_ret
          exact ⟨rfl, Below.refl _ _⟩
      · obtain rfl : i = kept.length := by omega
        have HN := dnew_any (N := 1024) (by omega) (by omega)
        rw [show ((1024 : Nat) : Int) = 1024 from rfl] at HN
        replace HN := Lib.hid HN
        go_upto_region 12 with (first
          | (go_at_call 6; (with_reducible refine HT.out.mono ?_); rintro e w1 ⟨rfl, hT1, hb1⟩)
          | (go_at_call 7; (with_reducible refine (HN.out _).mono ?_); rintro e w2 ⟨gd, gs, ge, rfl, hD2, hb2⟩))
        have hT2 := hT1.below hb2 hT1.lt
        have bb2 := below_then hb1 hb2
        have hgt := hT1.lt
        have hS2 : Sd w w2 w.heap.size w1.heap.size (dkF gd gs ge (.slice none 0 0)) (.slice none 0 0) [] (fun _ => False) := ⟨hT2, hgt, hD2.lt, OwnG.nil_ _ _ _ _ _ _, fun b hb => (by cases hb), fun b hb => hb.elim⟩
        have hL2 := log_start (N := 1024) (by omega)
        generalize hs0 : (⟨1024, List.replicate (64 * 1024) 0, List.replicate (64 * 1024) 0, []⟩ : Dk) = s0 at *
        have hn0 : s0.n = 1024 := by rw [← hs0]
        have hq0 : s0.qs.length ≤ 1 := by rw [← hs0]; exact Nat.zero_le _
        have HL2 := Lib.hid hL2
        have HS2 := Lib.hid hS2
        have HD2 := Lib.hid hD2
        have HN0 := Lib.hid hn0
        have hbs1 := hb1.size
        clear hs0 hT1 hT2 hb1 hb2 hL2 hS2 hD2 hn0 HT HN hik hi
        go_wp2_with (fail)
        go_loopw [9, 10, 11] (fun av sv iv wr => Below w.heap.size w wr ∧ ∃ i : Nat, iv = .int .i64 (i : Int) ∧ ((i = kept.length + 1) ∨ (i ≤ kept.length ∧ ∃ (U : Nat) (s : Dk) (vq : Value) (H C : List Int) (sure : List Pg) (D F : Nat → Prop),
          LogI s ⟨sure.length, U, []⟩ H C U sure [] ∧ s.n = 1024 ∧ s.qs.length ≤ U ∧ DkM wr w1.heap.size gd gs ge vq s ∧ Sd w wr w.heap.size w1.heap.size F av sure D ∧ (∀ x, dkF gd gs ge vq x → F x) ∧ sv = .int .i64 (sure.length : Int) ∧ U * 64 ≤ 64 + 1980 * i ∧ sure.length ≤ 6 * i))) (fun _ _ iv _ => kept.length + 1 - natOf iv)
        case atStart => exact ⟨bb2, 0, rfl, .inr ⟨Nat.zero_le _, 1, s0, _, _, _, [], _, _, HL2.out, HN0.out, hq0, HD2.out, HS2.out, fun x hx => hx, rfl, by omega, by simp⟩⟩
        case round =>
          obtain ⟨hbw, i, rfl, hcase⟩ := hrel
          rcases hcase with rfl | ⟨hi, U, s, vq, H, C, sure, D, F, hL, hn, hq, hD, hS, hF, rfl, hU, hsl⟩
          · have e1 : decide ((kept.length : Int) + 1 ≤ (kept.length : Int)) = false := decide_eq_false (by omega)
            have e2 : decide (kept.length + 1 ≤ kept.length) = false := decide_eq_false (by omega)
            go_wp2_with (first
              | (go_at_call 17; (with_reducible refine (HK.out _).mono ?_); rintro e w9 ⟨rfl, hb9⟩))
            go_ret
            exact ⟨rfl, below_then hbw hb9⟩
          · have e1 : decide ((i : Int) ≤ (kept.length : Int)) = true := decide_eq_true (by omega)
            have HSt := Lib.hid (start_any hD (hL.good (by omega)) hq)
            obtain ⟨Aa, ca, rfl, hca, _, _⟩ := hS.ad.form PgR.good
            have HL := Lib.hid hL
            have HS := Lib.hid hS
            have hDlt := hD.lt
            clear hL hS hD
            go_upto_region 20 with (first
              | (go_at_call 8; (with_reducible refine HSt.out.mono ?_); rintro e w4 ⟨gr, rfl, hgr, hR4, hb4⟩; have HNx := Lib.hid (rnext_any hR4))
              | (go_at_call 9; (with_reducible refine HNx.out.mono ?_); rintro e w4' ⟨rfl, rfl⟩))
            have hS4 : Sd w w4 w.heap.size w1.heap.size (rkF gd gs ge gr vq (.slice none 0 0)) (.slice Aa sure.length ca) sure D := (HS.out.disk ((Mod.of_fresh (M := fun _ => False) hb4).mono (fun _ h _ => h.elim)) (fun x hx => by
              rcases hx with hx | rfl | hx
              · exact .inl (hF x hx)
              · exact .inr hgr
              · cases hx) hR4.lt)
            have bw4 := below_then hbw hb4
            have HN7 := Lib.hid (next_any hS4.tp 7 (by omega) (by omega))
            have HL4 : Hid (LogI s ⟨sure.length, U, []⟩ H C U (sure ++ []) []) := by rw [List.append_nil]; exact HL
            clear HNx HSt hb4 hDlt
            go_upto_region 21 with (first
              | (go_at_call 10; (with_reducible refine HN7.out.mono ?_); rintro e w5 ⟨J, rfl, hJ, hT5, hg5⟩))
            have hS5 := hS4.tape hT5 hg5
            have hR5 := rk_tape hR4 hg5 hS4.tb
            have bw5 := below_one bw4 hg5 (Nat.le_refl _)
            have HS5 := Lib.hid hS5
            have HR5 := Lib.hid hR5
            clear hS4 hS5 hR4 hR5 hT5 hg5 HN7 HS
            go_loopw [9, 10, 14] (fun av sv jv wq => Below w.heap.size w wq ∧ ∃ (j U : Nat) (s : Dk) (vq vr : Value) (r : Rc) (H C : List Int) (sure pend : List Pg) (D : Nat → Prop), jv = .int .i64 (j : Int) ∧ j ≤ J ∧ LogI s r H C U sure pend ∧ s.n = 1024 ∧ RkM wq w1.heap.size gd gs ge gr vq vr s r ∧
              Sd w wq w.heap.size w1.heap.size (rkF gd gs ge gr vq vr) av (sure ++ pend) D ∧ sv = .int .i64 (sure.length : Int) ∧ r.used * 64 + r.rest.length ≤ 64 + 1980 * i + 330 * (J - j) ∧ (sure ++ pend).length ≤ 6 * i + (J - j)) (fun _ _ jv _ => natOf jv)
            case atStart => exact ⟨bw5, J, U, s, vq, _, _, H, C, sure, [], D, rfl, Nat.le_refl _, HL.out, hn, HR5.out, by rw [List.append_nil]; exact HS5.out, rfl, by show U * 64 + 0 ≤ _; omega, by rw [List.append_nil]; omega⟩
            case round =>
              clear HS5 HR5 HL HL4 bw5 bw4 hU hsl hq hn hF hca
              obtain ⟨bwq, j, U, s, vq, vr, r, H, C, sure, pend, D, rfl, hj, hL, hn, hR, hS, rfl, hU, hsl⟩ := hrel
              obtain ⟨Aa, ca, hav, hca, _, hoa⟩ := hS.ad.form PgR.good
              have hlen : (sure ++ pend).length = r.next := by rw [List.length_append]; exact hL.next.symm
              rw [hlen] at hav
              subst hav
              by_cases hj0 : 0 < j
              · have HPg := Lib.hid (tapepage_any hS.tp ((r.next : Nat) : Int))
                have e3 : decide ((0 : Int) < (j : Int)) = true := decide_eq_true (by omega)
                have HL5 := Lib.hid hL
                have HS5 := Lib.hid hS
                have HR5 := Lib.hid hR
                have HLen := Lib.hid hlen
                clear hL hS hR hlen
                go_upto_region 24 with (first
                  | (go_at_call 11; (with_reducible refine HPg.out.mono ?_); rintro e w6 ⟨f1, f2, pb, A6, c6, rfl, hp1, hp2, hpB, ho6, hT6, hg6⟩))
                have hS6 := HS5.out.tape hT6 hg6
                have hR6 := rk_tape HR5.out hg6 HS5.out.tb
                have bw6 := below_one bwq hg6 (Nat.le_refl _)
                have hsq := hg6.size
                obtain ⟨_, hc6, hr6⟩ := ho6.rds
                have bx := below_alloc (Below.refl w6.heap.size w6) (.cells #[.int .i64 (r.next : Int), .bool f1, .bool f2, .bool false, .slice A6 pb.length c6] 38)
                have kx := Blk.new w6 38 #[.int .i64 (r.next : Int), .bool f1, .bool f2, .bool false, .slice A6 pb.length c6]
                have hsx : (w6.alloc (.cells #[.int .i64 (r.next : Int), .bool f1, .bool f2, .bool false, .slice A6 pb.length c6] 38)).heap.size ≥ w6.heap.size + 1 := by simp
                generalize w6.alloc (.cells #[.int .i64 (r.next : Int), .bool f1, .bool f2, .bool false, .slice A6 pb.length c6] 38) = wx at *
                have bwx := below_then bw6 bx
                have hSx := hS6.fresh bx
                have hRx := hR6.below bx
                have hrx : RdS wx (fun b => wr.heap.size ≤ b ∧ b < w6.heap.size) .u8 A6 pb := (hr6.keep (M := fun _ => False) (Mod.of_fresh bx) (fun _ _ _ h => h)).weak (fun b hb _ => ⟨hb.1, hb.2.1⟩)
                have hnx : r.next < 1000000 := by have := HLen.out; omega
                have hxs : 64 + 1980 * i + 330 * (J - j) + 330 ≤ 65536 := by have : J ≤ 6 := by omega
                                                                             omega
                have hAdd := Lib.hid (radd_log (f1 := f1) (f2 := f2) (c := c6) hRx HL5.out hp1 hp2 hpB (hrx.top) hnx (by rw [hn]; omega))
                have z0 := kx.cell 0
                have z1 := kx.cell 1
                have z2 := kx.cell 2
                have z3 := kx.cell 3
                have z4 := kx.cell 4
                have HSx := Lib.hid hSx
                have HLL := Lib.hid HL5.out.next
                have hF5 := Lib.hid (fun b (hb : rkF gd gs ge gr vq vr b) => HR5.out.lt b hb)
                clear hS6 hR6 hT6 hg6 bw6 ho6 hr6 hSx hRx HS5 HR5 HL5 HPg bwq
                go_upto_region 26 with (first
                  | (go_at_call 12; (with_reducible refine hAdd.out.mono ?_); rintro e wa ⟨rfl, vqa, vra, sa, ra, hLa, hna, hsna, hua, hRa, hma, hFa⟩; have kxa := kx.mod hma (fun e => by have := (hF5.out _ e).2; omega)))
                have hSa := HSx.out.disk hma hFa hRa.lt
                have hDx := Lib.hid HSx.out.Dn
                have hsa := hma.size
                have hbw1 : w1.heap.size ≤ wr.heap.size := by have := hF5.out gd (.inl (.inl rfl)); omega
                have hrxa : RdS wa (fun b => wr.heap.size ≤ b ∧ b < w6.heap.size) .u8 A6 pb := hrx.keep hma (fun b hb _ e => by have := (hF5.out _ e).2; have := hb.1; omega)
                have hwf : Pg.wf ⟨(r.next : Int), f1, f2, false, pb⟩ := (pgGood_of (by omega) hp1 hp2 hpB).wf
                have HSa := Lib.hid hSa
                have HRa := Lib.hid hRa
                have HLa := Lib.hid hLa
                have bwa := bwx.trans (hma.below (Below.size bwx) (fun b hb => by have := (hF5.out b hb).1; omega))
                have hDle : ∀ b, (D b ∨ (wr.heap.size ≤ b ∧ b < w6.heap.size) ∨ b = wa.heap.size) → b ≤ wa.heap.size := fun b hb => by
                  rcases hb with hb | hb | hb
                  · have := (hDx.out b hb).2.1; omega
                  · have := hb.2; omega
                  · omega
                clear z0 z1 z2 z3 z4 hSa hRa hLa hAdd kx
                have z0 := kxa.cell 0
                have z1 := kxa.cell 1
                have z2 := kxa.cell 2
                have z3 := kxa.cell 3
                have z4 := kxa.cell 4
                go_upto_region 27 with (first
                  | (at_builtin; (refine wpList_push_G (v := .slice Aa r.next ca) rfl (.tmp 83) (.tmp 85) _ rfl PgR.good wa (.agg #[.int .i64 0, .bool false, .bool false, .bool false, .slice none 0 0]) 40 Try.underlying30 info_pg rfl (by omega) rfl HSa.out.ad (fun b => wr.heap.size ≤ b ∧ b < w6.heap.size) _ 1 [.int .i64 (r.next : Int), .bool f1, .bool f2, .bool false, .slice A6 pb.length c6] ⟨(r.next : Int), f1, f2, false, pb⟩ rfl rfl (show PgR _ _ _ _ from ⟨A6, c6, rfl, hc6, hrxa, hwf⟩) (fun b => D b ∨ (wr.heap.size ≤ b ∧ b < w6.heap.size) ∨ b = wa.heap.size) (fun b hb _ => .inl hb) (fun b hb _ => .inr (.inl hb)) (fun b hb h => by have := (hoa b hb).2; have := h.1; omega) hDle (.inr (.inr rfl)) (by rw [HLen.out]; omega) (by omega) ?_); intro v7 w7 ow7 hg7 hv7; obtain ⟨A7, c7, rfl, hc7, _⟩ := ow7.form PgR.good))
                have hs7 := hg7.size
                simp at hs7
                have hM7 : Mod (fun x => (Value.slice Aa r.next ca).ownBlock = some x) wa w7 := ((Mod.refl _ _).alloc _).then_ (Mod.of_grown hg7 (fun x e _ => e))
                have hS7 := HSa.out.push hM7 ow7 (fun b hb => by
                  rcases hv7 with e | e
                  · exact .inl (e ▸ hb)
                  · rw [hb] at e
                    have := Option.some.inj e
                    exact .inr (by omega)) (fun b hb => by
                  rcases hb with hb | hb | hb
                  · have := HSa.out.Dn b hb
                    exact ⟨this.1, by have := this.2.1; omega, this.2.2⟩
                  · refine ⟨by have := hb.1; omega, by have := hb.2; omega, fun e => ?_⟩
                    rcases hFa b e with e | e
                    · have := (hF5.out b e).2; have := hb.1; omega
                    · have := hb.2; omega
                  · refine ⟨by omega, by omega, fun e => ?_⟩
                    have := (HRa.out.lt b e).2; omega)
                have hR7 := HRa.out.keep hM7 (fun b hb e => HSa.out.vn b e hb)
                have bw7 := bwa.trans (hM7.below (Below.size bwa) (fun b hb => by have := (hoa b hb).1; omega))
                have HN4 := Lib.hid (next_any hS7.tp 4 (by omega) (by omega))
                have HS7 := Lib.hid hS7
                have HR7 := Lib.hid hR7
                clear z0 z1 z2 z3 z4 hS7 hR7 ow7 kxa HSa HRa hM7 hg7 hv7
                go_upto_if 89 with (first
                  | (go_at_call 10; (with_reducible refine HN4.out.mono ?_); rintro e w8 ⟨r9, rfl, hr9, hT8, hg8⟩))
                have hS8 := HS7.out.tape hT8 hg8
                have hR8 := rk_tape HR7.out hg8 HS7.out.tb
                have bw8 := below_one bw7 hg8 (Nat.le_refl _)
                rw [List.append_assoc] at hS8
                have hp9 : (pend ++ [(⟨(r.next : Int), f1, f2, false, pb⟩ : Pg)]).length = pend.length + 1 := by rw [List.length_append]; rfl
                have hLa := HLa.out
                generalize pend ++ [(⟨(r.next : Int), f1, f2, false, pb⟩ : Pg)] = pend9 at *
                obtain ⟨m9, hm9⟩ : ∃ m9, sure.length + (pend.length + 1) = m9 := ⟨_, rfl⟩
                have hlm : (sure ++ pend9).length = m9 := by rw [List.length_append]; omega
                rw [hlm] at hS8
                have hln := HLen.out
                rw [List.length_append] at hln hsl
                have hsn : sa.n = 1024 := by rw [hsna]; exact hn
                obtain ⟨j1, hj1⟩ : ∃ j1, j = j1 + 1 := ⟨j - 1, by omega⟩
                have q1 : IntKind.i64.wrap ((j : Int) - 1) = (j1 : Int) := by rw [IntWalk.i64_in _ (by omega)]; omega
                simp only [hm9]
                have HS8 := Lib.hid hS8
                have HR8 := Lib.hid hR8
                replace HLa := Lib.hid hLa
                clear hLa hS8 hR8 HS7 HR7 hT8 hg8 HN4
                by_cases h90 : r9 = 0
                · subst h90
                  have HSy := Lib.hid (rsync_log HR8.out HLa.out (by rw [hsn]; omega))
                  go_wp2_with (first
                    | (go_at_call 13; (with_reducible refine HSy.out.mono ?_); rintro e w9 ⟨rfl, vrb, sb, rb, Hb, Cb, Ub, hLb, hnb, hsnb, hub, hRb, hmb, hFb⟩))
                  have hS9 := HS8.out.disk hmb hFb hRb.lt
                  have bw9 := bw8.trans (hmb.below (Below.size bw8) (fun b hb => by have := (HR8.out.lt b hb).1; omega))
                  go_roundw
                  case rel => exact ⟨bw9, j1, Ub, sb, _, vrb, rb, Hb, Cb, sure ++ pend9, [], _, rfl, by omega, hLb, by rw [hsnb]; exact hsn, hRb, by rw [List.append_nil]; exact hS9, by rw [hlm], by omega, by rw [List.append_nil, hlm]; omega⟩
                  case measure => simp [natOf]; omega
                · have e9 : ((r9 : Int) == 0) = false := by rw [beq_eq_false_iff_ne]; omega
                  go_wp2_with (fail)
                  go_roundw
                  case rel => exact ⟨bw8, j1, U, sa, vqa, vra, ra, H, C, sure, pend9, _, rfl, by omega, HLa.out, hsn, HR8.out, HS8.out, rfl, by omega, by rw [hlm]; omega⟩
                  case measure => simp [natOf]; omega
              · obtain rfl : j = 0 := by omega
                have e3 : decide ((0 : Int) < ((0 : Nat) : Int)) = false := by decide
                obtain ⟨B, hB⟩ : ∃ B, B = decide ((i : Int) < (kept.length : Int)) := ⟨_, rfl⟩
                have hB2 : decide (i < kept.length) = B := by rw [hB]; exact decide_eq_decide.2 (by omega)
                have hB1 := hB.symm
                replace hB := Lib.hid hB
                have HL5 := Lib.hid hL
                have HS5 := Lib.hid hS
                have HR5 := Lib.hid hR
                have HLen := Lib.hid hlen
                clear hL hS hR hlen
                go_upto_if 97 with (fail)
                clear hB1 hB2
                go_cut [] (fun wc => ∃ (s' : Dk) (vq' : Value), Good s' sure U ∧ (i < kept.length → LogI s' ⟨sure.length, U, []⟩ H C U sure [] ∧ s'.n = 1024 ∧ s'.qs = []) ∧ DkM wc w1.heap.size gd gs ge vq' s' ∧ (∀ x, dkF gd gs ge vq' x → rkF gd gs ge gr vq vr x) ∧
                  Sd w wc w.heap.size w1.heap.size (rkF gd gs ge gr vq vr) (.slice Aa r.next ca) (sure ++ pend) D ∧ Below w.heap.size w wc)
                case first =>
                  cases B with
                  | false =>
                    go_wp2_with (fail)
                    go_meet
                    have hni : ¬ i < kept.length := by have := of_decide_eq_false hB.out.symm; omega
                    exact ⟨s, vq, HL5.out.good (by rw [List.length_append] at hsl; omega), fun h => absurd h hni, HR5.out.dk, fun x hx => .inl hx, HS5.out, bwq⟩
                  | true =>
                    have hik : i < kept.length := by have := of_decide_eq_true hB.out.symm; omega
                    obtain ⟨al, Aj, cj, rfl, _, zh, hcj, hrj⟩ := HKp.out _ bwq i hik
                    have hkb : ∀ x ∈ kept.getD i [], i64B x := HKb.out _ (by rw [List.getD_eq_getElem?_getD, List.getElem?_eq_getElem hik]; exact List.getElem_mem hik)
                    generalize kept.getD i [] = kl at *
                    have hqb := HR5.out.qb
                    have HCr := Lib.hid (dcrash_log HR5.out.dk HL5.out (by rw [hn] at hqb; omega) Aj cj kl hkb hcj hrj hbs1)
                    clear hrj
                    go_wp2_with (first
                      | (go_at_call 14; (with_reducible refine HCr.out.mono ?_); rintro e w11 ⟨rfl, s11, hL11, hn11, hq11, hD11, hm11⟩))
                    go_meet
                    refine ⟨s11, _, hL11.good (by rw [List.length_append] at hsl; omega), fun _ => ⟨hL11, by rw [hn11]; exact hn, hq11⟩, hD11, fun x hx => ?_, HS5.out.disk (hm11.mono (fun b hb _ => .inl hb)) (fun x hx => .inl hx) (fun x hx => ⟨(HR5.out.lt x hx).1, Nat.lt_of_lt_of_le (HR5.out.lt x hx).2 hm11.size⟩), bwq.trans (hm11.below (Below.size bwq) (fun b hb => by have := (HR5.out.lt b (.inl hb)).1; omega))⟩
                    rcases hx with hx | hx | hx | hx
                    · exact .inl (.inl hx)
                    · exact .inl (.inr (.inl hx))
                    · exact .inl (.inr (.inr (.inl hx)))
                    · cases hx
                case rest =>
                  obtain ⟨s', vq', hG, hin, hD, hFd, hS, hbc⟩ := hcut
                  have HRec := Lib.hid (recover_log hD hG)
                  have HSc := Lib.hid hS
                  have HDc := Lib.hid hD
                  have HLi := Lib.hid hin
                  have hln := HLen.out
                  rw [List.length_append] at hln hsl
                  have hFc := Lib.hid hFd
                  have HL6 := HL5
                  clear hD hS hin hG hFd HL5 HS5
                  go_upto_region 33 with (first
                    | (go_at_call 15; (with_reducible refine HRec.out.mono ?_); rintro e wd ⟨Al, cl, rfl, hrl, hol, hbd⟩))
                  have hSd := (HSc.out.fresh hbd).cut (k := sure.length) (by rw [List.length_append]; omega)
                  rw [List.take_left] at hSd
                  obtain ⟨Ad, cd, hvd, hcd, hrd, _⟩ := hSd.ad.form PgR.good
                  simp only [Value.slice.injEq] at hvd
                  obtain ⟨rfl, _, rfl⟩ := hvd
                  have hS9 := (HSc.out.fresh hbd).ad
                  rw [← HLen.out] at hS9
                  have hup := OwnG.upto_run (P := Try.prog) Try.underlying30 info_pg PgR.good hS9 (k := sure.length) (by rw [List.length_append]; omega)
                  have HSm := Lib.hid (samepgs_any cl ca hrl hrd (by omega) (by omega))
                  have HSd := Lib.hid hSd
                  have HDd := Lib.hid (HDc.out.below hbd)
                  have bwd := below_then hbc hbd
                  have hnx : (sure ++ pend).length = r.next := HLen.out
                  rw [hnx] at hup
                  clear hrl hol hrd hSd HSc HDc hbd
                  go_upto_region 35 with (first
                    | (go_at_call 16; (with_reducible refine HSm.out.mono ?_); rintro e we ⟨rfl, hbe⟩))
                  have bwe := below_then bwd hbe
                  have hSe := HSd.out.fresh hbe
                  have hDe := HDd.out.below hbe
                  have hFc := hFc.out
                  have hdr := HR5.out
                  go_wp2_with (fail)
                  go_roundw
                  case rel =>
                    refine ⟨bwe, i + 1, rfl, ?_⟩
                    by_cases hik : i < kept.length
                    · obtain ⟨hLi, hni, hqi⟩ := HLi.out hik
                      have huu := HL6.out.uu
                      exact .inr ⟨by omega, U, s', vq', H, C, sure, D, _, hLi, hni, by rw [hqi]; exact Nat.zero_le _, hDe, hSe, hFc, rfl, by omega, by omega⟩
                    · exact .inl (by omega)
                  case measure => simp [natOf]; omega
  · have g1 : decide ((12 : Int) < (kept.length : Int)) = true := decide_eq_true (by omega)
    have g2 : decide (12 < kept.length) = true := decide_eq_true (by omega)
    go_enter Try.func3, Try.ntmps3
    go_wp2_with (fail)
    go_ret
    exact ⟨rfl, Below.refl _ _⟩
end Go.Proofs.Ytdlbjilbdbjadaa.diskCrashes
