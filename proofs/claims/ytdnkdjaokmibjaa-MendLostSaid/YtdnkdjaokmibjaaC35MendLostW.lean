/- MendLost: the walk. -/
import Derived.Test.YtdnkdjaokmibjaaMdKn
import Derived.Test.YtdnkdjaokmibjaaMdBY
import Derived.Test.YtdnkdjaokmibjaaTapePgs
set_option linter.unusedSimpArgs false
set_option linter.unusedVariables false
namespace Go.Proofs.Ytdnkdjaokmibjaa.mendLost
open Go.RowKit

theorem num_ok {l : List Pg} (h : Num l) : gAll l = true := gAll_iff.2 fun i hi => by
  have h1 := h i hi
  refine ⟨by rw [gOk_at hi]; exact h1.ok, by rw [gOk_at hi]; exact h1.g, fun h0 => ?_⟩
  rw [gOk_at hi, gOk_at (by omega), h.seq hi, h.seq (by omega)]; omega
theorem num_guard {l : List Pg} (h : Num l) : guardE l = 0 ∧ guardP l = guarded l := by rw [guardE, guardP, num_ok h]; exact ⟨rfl, rfl⟩

set_option maxHeartbeats 16000000 in
set_option maxRecDepth 100000 in
theorem walk (w : World) (A0 : Option Addr) (c0 : Nat) (t : List Int) (ht : ∀ x ∈ t, -9223372036854775808 ≤ x ∧ x ≤ 9223372036854775807) (hc : t.length ≤ c0) (h63 : c0 ≤ 9223372036854775807) (hrt : RdI w w.heap.size .i64 A0 t)
    (g : Int) (g0 : -9223372036854775808 ≤ g) (g1 : g ≤ 9223372036854775807) (a : Int) (a0 : -9223372036854775808 ≤ a) (a1 : a ≤ 9223372036854775807) (b : Int) (b0 : -9223372036854775808 ≤ b) (b1 : b ≤ 9223372036854775807) :
    Calls Try.prog 4 #[.slice A0 t.length c0, .int .i64 g, .int .i64 a, .int .i64 b] w fun e w' => e = .returned (.bool true) ∧ Below w.heap.size w w' := by
  have HK := Lib.hid (fun W => known_any W)
  have HT := Lib.hid (newtape_any A0 t c0 ht hc (by omega) w hrt (Nat.le_refl _))
  have HPs := fun W (hW : TapeB W w.heap.size w.heap.size) => tapepgs_any hW 0 (by omega) 30 (by omega)
  rw [show ((0 : Nat) : Int) = 0 from rfl, show ((30 : Nat) : Int) = 30 from rfl] at HPs
  replace HPs := Lib.hid HPs
  clear ht hrt
  go_enter Try.func4, Try.ntmps4
  go_upto_region 2 with (first
    | (go_at_call 8; (with_reducible refine HT.out.mono ?_); rintro e w1 ⟨rfl, hT1, hb1⟩)
    | (go_at_call 9; (with_reducible refine (HPs.out _ hT1).mono ?_); rintro e w2 ⟨v2, l, rfl, hll, hN, ho2, hT2, hg2⟩; obtain ⟨A2, c2, rfl, hc2, hr2⟩ := ho2.reads PgR.good (S := fun b => b < w2.heap.size) (fun b _ hl => hl)))
  have bb2 := below_one hb1 hg2 (Nat.le_refl _)
  have hNum : Num l := hN
  obtain ⟨hgE, hgP⟩ := num_guard hNum
  have HGu := mdguard_any (c := c2) hr2 (by omega) hc2
  rw [hgE, hgP] at HGu
  replace HGu := Lib.hid HGu
  have HNum := Lib.hid hNum
  have hgl := guarded_len (l := l)
  have hng : nGrp l ≤ 4 := by unfold nGrp; omega
  have hgl2 : (guarded l).length ≤ 34 := by omega
  clear hgE hgP hN hNum hgl ho2 hT2 hT1
  by_cases h16 : l.length < 16
  · have hd16 : decide ((l.length : Int) < 16) = true := decide_eq_true (by omega)
    go_wp2_with (first
      | (go_at_call 10; (with_reducible refine HGu.out.mono ?_); rintro e w3 ⟨v3, rfl, ho3, hb3⟩)
      | (go_at_call 14; (with_reducible refine (HK.out _).mono ?_); rintro e w10 ⟨rfl, hb10⟩))
    go_ret
    exact ⟨rfl, below_then (below_then bb2 hb3) hb10⟩
  · have hd16 : decide ((l.length : Int) < 16) = false := decide_eq_false (by omega)
    obtain ⟨m, hm⟩ : ∃ m, l.length / 8 = m := ⟨_, rfl⟩
    have htd : (l.length : Int).tdiv 8 = (m : Int) := by rw [← hm]; rfl
    have hm2 : 2 ≤ m := by omega
    have hm3 : m ≤ 3 := by omega
    have hwm : IntKind.i64.wrap (m : Int) = (m : Int) := IntWalk.i64_in _ (by omega)
    have hwm2 : IntKind.i64.wrap ((m : Int) - 2) = (m : Int) - 2 := IntWalk.i64_in _ (by omega)
    have HW1 := Lib.hid (fun W => within_any g 0 ((m : Int) - 2) g0 g1 (by omega) (by omega) (by omega) W)
    have HW2 := Lib.hid (fun W => within_any a 0 7 a0 a1 (by omega) (by omega) (by omega) W)
    have HW3 := Lib.hid (fun W => within_any b 0 8 b0 b1 (by omega) (by omega) (by omega) W)
    have v1 := withinV_in (n := g) (lo := 0) (hi := (m : Int) - 2) (by omega)
    have v2' := withinV_in (n := a) (lo := 0) (hi := 7) (by omega)
    have v3' := withinV_in (n := b) (lo := 0) (hi := 8) (by omega)
    generalize withinV g 0 ((m : Int) - 2) = nI at *
    generalize withinV a 0 7 = xI at *
    generalize withinV b 0 8 = yI at *
    obtain ⟨n, rfl⟩ := Int.eq_ofNat_of_zero_le v1.1
    obtain ⟨x, rfl⟩ := Int.eq_ofNat_of_zero_le v2'.1
    obtain ⟨y, rfl⟩ := Int.eq_ofNat_of_zero_le v3'.1
    have hn2 : 8 * n + 16 ≤ l.length := by omega
    have hn1 : n ≤ 1 := by omega
    have hx7 : x < 8 := by omega
    have hy8 : y ≤ 8 := by omega
    clear v1 v2' v3' hm
    by_cases hxy : x = y
    · have hdxy : ((x : Int) == (y : Int)) = true := by rw [hxy]; simp
      clear hxy
      go_wp2_with (first
        | (go_at_call 10; (with_reducible refine HGu.out.mono ?_); rintro e w3 ⟨v3, rfl, ho3, hb3⟩)
        | (go_at_call 11; (with_reducible refine (HW1.out _).mono ?_); rintro e w5 ⟨rfl, rfl⟩)
        | (go_at_call 11; (with_reducible refine (HW2.out _).mono ?_); rintro e w5 ⟨rfl, rfl⟩)
        | (go_at_call 11; (with_reducible refine (HW3.out _).mono ?_); rintro e w5 ⟨rfl, rfl⟩)
        | (go_at_call 14; (with_reducible refine (HK.out _).mono ?_); rintro e w10 ⟨rfl, hb10⟩))
      go_ret
      exact ⟨rfl, below_then (below_then bb2 hb3) hb10⟩
    · have hdxy : ((x : Int) == (y : Int)) = false := by rw [beq_eq_false_iff_ne]; omega
      go_upto_region 9 with (first
        | (go_at_call 10; (with_reducible refine HGu.out.mono ?_); rintro e w3 ⟨v3, rfl, ho3, hb3⟩; obtain ⟨A3, c3, rfl, hc3, hr3⟩ := ho3.reads PgR.good (S := fun b => b < w3.heap.size) (fun b _ hl => hl))
        | (go_at_call 11; (with_reducible refine (HW1.out _).mono ?_); rintro e w5 ⟨rfl, rfl⟩)
        | (go_at_call 11; (with_reducible refine (HW2.out _).mono ?_); rintro e w5 ⟨rfl, rfl⟩)
        | (go_at_call 11; (with_reducible refine (HW3.out _).mono ?_); rintro e w5 ⟨rfl, rfl⟩))
      have bb3 := below_then bb2 hb3
      have HR3 := Lib.hid (fun W (h : Below w3.heap.size w3 W) => hr3.below PgR.good h)
      clear HT HPs HGu ho3 hr2 hr3 HW1 HW2 HW3 htd hwm hwm2 hd16
      have HL1 := Lib.hid (fun (i : Nat) (h : lostL n x y i = true) => keepL_out (g := guarded l) (L := lostL n x y) (m := i) h)
      have HL0 := Lib.hid (fun (i : Nat) (h : lostL n x y i = false) (hi : i < (guarded l).length) => keepL_in (g := guarded l) (L := lostL n x y) (m := i) hi h)
      have HLl := Lib.hid (fun i => keepL_len (guarded l) (lostL n x y) i)
      obtain ⟨F, hF⟩ : ∃ F : Nat, F = 9 * n := ⟨_, rfl⟩
      have hwF : IntKind.i64.wrap ((n : Int) * 9) = (F : Int) := by rw [IntWalk.i64_in _ (by omega)]; omega
      have hwF2 : (n : Int) * 9 = (F : Int) := by omega
      have hF18 : F ≤ 18 := by omega
      have HLd := Lib.hid (show ∀ i, lostL n x y i = (decide (i = F + x) || decide (i = F + y)) from fun i => by rw [lostL, hF]; simp)
      clear hF
      go_wp2
      go_loopw [16, 17] (fun v iv wr => ∃ i : Nat, i ≤ (guarded l).length ∧ iv = .int .i64 i ∧ OwnG PgR 5 33 wr w3.heap.size (fun x => x < wr.heap.size) v (keepL (guarded l) (lostL n x y) i) ∧ Below w3.heap.size w3 wr) (fun _ iv _ => (guarded l).length - (intOf iv).toNat)
      case atStart => exact ⟨0, Nat.zero_le _, rfl, OwnG.nil_ _ _ _ _ _ _, Below.refl _ _⟩
      case round =>
        obtain ⟨i, hi, rfl, hown, hbr⟩ := hrel
        have HOw := Lib.hid hown
        have hszr := hbr.size
        clear hown
        by_cases hlt : i < (guarded l).length
        · have HL1i := Lib.hid (HL1.out i)
          have HL0i := Lib.hid (fun h => HL0.out i h hlt)
          have hkl := HLl.out i
          have hld := HLd.out i
          go_upto_region 14 with fail
          go_cut [77] from 66 to 78 (fun v wc => v = .bool (!lostL n x y i) ∧ wr = wc)
          case first =>
            by_cases h1 : i = F + x
            · have hd1 : ((i : Int) != (F : Int) + (x : Int)) = false := by rw [h1]; simp
              rw [decide_eq_true h1, Bool.true_or] at hld
              have HLd2 := Lib.hid hld
              clear hld h1
              go_wp2
              go_meet
              exact ⟨by rw [HLd2.out]; rfl, rfl⟩
            · have hd1 : ((i : Int) != (F : Int) + (x : Int)) = true := by rw [bne_iff_ne]; omega
              rw [decide_eq_false h1, Bool.false_or] at hld
              clear h1
              by_cases h2 : i = F + y
              · have hd2 : ((i : Int) != (F : Int) + (y : Int)) = false := by rw [h2]; simp
                rw [decide_eq_true h2] at hld
                have HLd2 := Lib.hid hld
                clear hld h2
                go_wp2
                go_meet
                exact ⟨by rw [HLd2.out]; rfl, rfl⟩
              · have hd2 : ((i : Int) != (F : Int) + (y : Int)) = true := by rw [bne_iff_ne]; omega
                rw [decide_eq_false h2] at hld
                have HLd2 := Lib.hid hld
                clear hld h2
                go_wp2
                go_meet
                exact ⟨by rw [HLd2.out]; rfl, rfl⟩
          case rest =>
            obtain ⟨rfl, rfl⟩ := hcut
            clear hld
            cases hLi : lostL n x y i with
            | true =>
              have HS := Lib.hid (HL1i.out hLi)
              go_wp2
              go_roundw
              case rel => exact ⟨i + 1, by omega, by go_num, by rw [HS.out]; exact HOw.out, hbr⟩
              case measure => simp [intOf]; omega
            | false =>
              have HS := Lib.hid (HL0i.out hLi)
              obtain ⟨ad, p, Aj, cj, rfl, _, hp, e0, e1, e2, e3, e4, hcj, hrj, hwj⟩ := RdPg.at_ (HR3.out _ hbr) hlt
              obtain ⟨A5, c5, rfl, hc5, _, hob5⟩ := HOw.out.form PgR.good
              generalize keepL (guarded l) (lostL n x y) i = xs at *
              generalize (guarded l)[i] = q at *
              obtain ⟨q1, q2, q3, q4, q5⟩ := q
              simp only at e0 e1 e2 e3 e4 hcj hrj
              go_wp2_with (first
                | (at_builtin; (refine wpList_push_G (v := .slice A5 xs.length c5) rfl (.tmp 78) (.tmp 83) _ rfl PgR.good wr (.agg #[.int .i64 0, .bool false, .bool false, .bool false, .slice none 0 0]) 40 Try.underlying23 info_pg rfl (by omega) rfl HOw.out (fun x => x < w3.heap.size) _ 1 [.int .i64 q1, .bool q2, .bool q3, .bool q4, .slice Aj q5.length cj] ⟨q1, q2, q3, q4, q5⟩ rfl rfl (show PgR _ _ _ _ from ⟨Aj, cj, rfl, hcj, hrj, hwj⟩) (fun x => x ≤ wr.heap.size) (fun x hx _ => Nat.le_of_lt hx) (fun x hx _ => by have h' : x < w3.heap.size := hx; show x ≤ wr.heap.size; omega) (fun x hx h => by have := (hob5 x hx).1; have h' : x < w3.heap.size := h; omega) (fun x hx => hx) (Nat.le_refl _) (by omega) hszr ?_); intro v7 w7 ow7 hg7 hv7))
              have hb78 : Below w3.heap.size wr w7 := Below.grown (below_alloc (Below.refl wr.heap.size wr) _ |>.mono hszr) hg7 (by simp; omega) (fun x hx => (hob5 x hx).1)
              have hs7 := hg7.size
              simp at hs7
              go_roundw
              case rel => exact ⟨i + 1, by omega, by go_num, by rw [HS.out]; exact ow7.weak PgR.good (fun x hx hl9 => hl9), hbr.trans hb78⟩
              case measure => simp [intOf]; omega
        · have hil : i = (guarded l).length := by omega
          subst hil
          obtain ⟨A6, c6, rfl, hc6, hr6⟩ := HOw.out.reads PgR.good (S := fun x => x < wr.heap.size) (fun x _ h => h)
          have hsl := HLl.out (guarded l).length
          have HMe := Lib.hid (mend_any (c := c6) hr6 (by omega))
          have HWh := Lib.hid (fun (ys : List Pg) (hp : ys.Perm (mendO (keepL (guarded l) (lostL n x y) (guarded l).length))) (ho : ys.Pairwise (fun a b => a.seq ≤ b.seq)) => mend_lost HNum.out (by omega) hx7 hy8 hxy hn2 hp ho)
          clear HL1 HL0 HLl HLd hr6 HOw HR3 hsl
          generalize keepL (guarded l) (lostL n x y) (guarded l).length = s at *
          go_upto_region 17 with (first
            | (go_at_call 12; (with_reducible refine HMe.out.mono ?_); rintro e w7 ⟨v7, v8, ys, rfl, hp7, hs7, ho7, ho8, hb7⟩))
          obtain ⟨hA, hB⟩ := HWh.out ys hp7 hs7
          have bb7 := bb3.trans ((hbr.trans (hb7.mono hszr)).mono bb3.size)
          obtain ⟨A7, c7, rfl, hc7, _, _⟩ := ho7.form PgR.good
          obtain ⟨A8, c8, rfl, hc8, hr8⟩ := ho8.reads HoR.good (S := fun x => x < w7.heap.size) (fun x _ h => h)
          obtain ⟨G, hG⟩ : ∃ G : Nat, G = 8 * n := ⟨_, rfl⟩
          have hwG : IntKind.i64.wrap ((n : Int) * 8) = (G : Int) := by rw [IntWalk.i64_in _ (by omega)]; omega
          have hwG2 : (n : Int) * 8 = (G : Int) := by omega
          obtain ⟨mn, hmnE⟩ : ∃ mn : Nat, mn = min x y := ⟨_, rfl⟩
          obtain ⟨mx, hmxE⟩ : ∃ mx : Nat, mx = max x y := ⟨_, rfl⟩
          have hmn : min (x : Int) (y : Int) = (mn : Int) := by omega
          have hmx : max (x : Int) (y : Int) = (mx : Int) := by omega
          rw [← hG, ← hmnE, ← hmxE] at hB
          rw [← hG] at hA
          obtain ⟨P, hP⟩ : ∃ P : Nat, P = G + mn := ⟨_, rfl⟩
          obtain ⟨Q, hQ⟩ : ∃ Q : Nat, Q = G + mx := ⟨_, rfl⟩
          have hP2 : (G : Int) + (mn : Int) = (P : Int) := by omega
          have hQ2 : (G : Int) + (mx : Int) = (Q : Int) := by omega
          have hPb : P ≤ 30 := by omega
          have hQb : Q ≤ 30 := by omega
          have hA2 := Lib.hid (show y = 8 → ys.length = l.length - 1 ∧ holesP ys (mendT s) = [⟨(P : Int), (P : Int)⟩] from fun h => by
            obtain ⟨e1, e2⟩ := hA h
            exact ⟨e1, by rw [e2, hP, show mn = x by omega]⟩)
          rw [← hP, ← hQ] at hB
          have hB2 := Lib.hid hB
          clear hA hB hG hP hQ hmnE hmxE
          generalize holesP ys (mendT s) = hs at *
          have q1 : HoR w7 (fun _ => True) [.int .i64 (P : Int), .int .i64 (P : Int)] ⟨(P : Int), (P : Int)⟩ := ⟨rfl, ⟨by show (-9223372036854775808 : Int) ≤ P; omega, by show (P : Int) ≤ 9223372036854775807; omega⟩, ⟨by show (-9223372036854775808 : Int) ≤ P; omega, by show (P : Int) ≤ 9223372036854775807; omega⟩⟩
          have q2 : HoR w7 (fun _ => True) [.int .i64 (Q : Int), .int .i64 (Q : Int)] ⟨(Q : Int), (Q : Int)⟩ := ⟨rfl, ⟨by show (-9223372036854775808 : Int) ≤ Q; omega, by show (Q : Int) ≤ 9223372036854775807; omega⟩, ⟨by show (-9223372036854775808 : Int) ≤ Q; omega, by show (Q : Int) ≤ 9223372036854775807; omega⟩⟩
          have hli := RdG.lits HoR.good w7 ((Cells.one HoR.good q1).append (Cells.one HoR.good q2)) 41
          go_upto_region 20 with fail
          have b8 := below_alloc (Below.refl w7.heap.size w7) (.cells #[.int .i64 (P : Int), .int .i64 (P : Int), .int .i64 (Q : Int), .int .i64 (Q : Int)] 41)
          have hli' : RdHo (w7.alloc (.cells #[.int .i64 (P : Int), .int .i64 (P : Int), .int .i64 (Q : Int), .int .i64 (Q : Int)] 41)) (fun b => (True ∧ b < w7.heap.size) ∨ b = w7.heap.size) (some ⟨w7.heap.size, 0, none⟩) [⟨(P : Int), (P : Int)⟩, ⟨(Q : Int), (Q : Int)⟩] := hli
          have hr9 := hr8.below HoR.good b8
          generalize w7.alloc (.cells #[.int .i64 (P : Int), .int .i64 (P : Int), .int .i64 (Q : Int), .int .i64 (Q : Int)] 41) = w8 at *
          have bb8 := bb7.trans (b8.mono bb7.size)
          clear hli q1 q2 hr8 ho8 ho7 HMe HWh hwG hwG2 hmn hmx hP2 hQ2 hwF hwF2
          by_cases hy : y = 8
          · obtain ⟨e1, rfl⟩ := hA2.out hy
            have hd8 : ((y : Int) == 8) = true := by rw [hy]; rfl
            have hle : ((ys.length : Int) == (l.length : Int) - 1) = true := by rw [beq_iff_eq]; omega
            obtain ⟨A9, hsl, hr10⟩ := RdG.slice_h (P := Try.prog) Try.underlying34 info_ho hli' (hh := 1) (c := 2) (by simp) (by simp)
            rw [show ((1 : Nat) : Int) = 1 from rfl] at hsl
            simp only [List.length_cons, List.length_nil, Nat.zero_add, Nat.reduceAdd] at hsl
            have hr11 : RdHo w8 (fun b => (True ∧ b < w7.heap.size) ∨ b = w7.heap.size) A9 [⟨(P : Int), (P : Int)⟩] := hr10
            have HSm := sameho_any (w := w8) c8 2 hr9 hr11 (by simp) (by simp)
            rw [decide_eq_true rfl] at HSm
            simp only [List.length_cons, List.length_nil, Nat.zero_add, Nat.reduceAdd] at HSm
            replace HSm := Lib.hid HSm
            clear e1 hy hr9 hr10 hr11 hli'
            go_wp2_with (first
              | (go_at_call 15; (with_reducible refine HSm.out.mono ?_); rintro e w9 ⟨rfl, n9, rfl⟩)
              | (go_at_call 14; (with_reducible refine (HK.out _).mono ?_); rintro e w10 ⟨rfl, hb10⟩))
            go_ret
            exact ⟨rfl, below_then (below_drewN bb8 n9) hb10⟩
          · have hy7 : y < 8 := by omega
            obtain ⟨e1, e2⟩ := hB2.out hy7
            have hd8 : ((y : Int) == 8) = false := by rw [beq_eq_false_iff_ne]; omega
            have hle : ((ys.length : Int) == (l.length : Int) - 2) = true := by rw [beq_iff_eq]; omega
            by_cases hq : Q = P + 1
            · rw [if_pos hq] at e2
              subst e2
              have hdq : ((Q : Int) == (P : Int) + 1) = true := by rw [beq_iff_eq]; omega
              have q3 : HoR w8 (fun _ => False) [.int .i64 (P : Int), .int .i64 (Q : Int)] ⟨(P : Int), (Q : Int)⟩ := ⟨rfl, ⟨by show (-9223372036854775808 : Int) ≤ P; omega, by show (P : Int) ≤ 9223372036854775807; omega⟩, ⟨by show (-9223372036854775808 : Int) ≤ Q; omega, by show (Q : Int) ≤ 9223372036854775807; omega⟩⟩
              have b9 := below_alloc (Below.refl w8.heap.size w8) (.cells #[.int .i64 (P : Int), .int .i64 (Q : Int)] 41)
              have bb9 := bb8.trans (b9.mono bb8.size)
              have HSm := sameho_any (w := w8.alloc (.cells #[.int .i64 (P : Int), .int .i64 (Q : Int)] 41)) c8 1 (hr9.below HoR.good b9) (RdG.one_ HoR.good w8 q3 41) (by simp) (by simp)
              rw [decide_eq_true rfl] at HSm
              simp only [List.length_cons, List.length_nil, Nat.zero_add, Nat.reduceAdd] at HSm
              replace HSm := Lib.hid HSm
              clear e1 hy hy7 hq hr9 hli' q3
              go_wp2_with (first
                | (go_at_call 15; (with_reducible refine HSm.out.mono ?_); rintro e w9 ⟨rfl, n9, rfl⟩)
                | (go_at_call 14; (with_reducible refine (HK.out _).mono ?_); rintro e w10 ⟨rfl, hb10⟩))
              go_ret
              exact ⟨rfl, below_then (below_drewN bb9 n9) hb10⟩
            · rw [if_neg hq] at e2
              subst e2
              have hdq : ((Q : Int) == (P : Int) + 1) = false := by rw [beq_eq_false_iff_ne]; omega
              have HSm := sameho_any (w := w8) c8 2 hr9 hli' (by simp) (by simp)
              rw [decide_eq_true rfl] at HSm
              simp only [List.length_cons, List.length_nil, Nat.zero_add, Nat.reduceAdd] at HSm
              replace HSm := Lib.hid HSm
              clear e1 hy hy7 hq hr9 hli'
              go_wp2_with (first
                | (go_at_call 15; (with_reducible refine HSm.out.mono ?_); rintro e w9 ⟨rfl, n9, rfl⟩)
                | (go_at_call 14; (with_reducible refine (HK.out _).mono ?_); rintro e w10 ⟨rfl, hb10⟩))
              go_ret
              exact ⟨rfl, below_then (below_drewN bb8 n9) hb10⟩
end Go.Proofs.Ytdnkdjaokmibjaa.mendLost
