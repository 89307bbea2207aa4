/- MendThrough: the walk. -/
import Derived.Test.YtdnkdjaokmibjaaMdKn
import Derived.Test.YtdnkdjaokmibjaaMdTh
import Derived.Test.YtdnkdjaokmibjaaMdCl
import Derived.Test.YtdnkdjaokmibjaaMdGu
import Derived.Test.YtdnkdjaokmibjaaMdMe
import Derived.Test.YtdnkdjaokmibjaaTapePgs
import Derived.Test.YtdnkdjaokmibjaaOwnEmp
import Derived.Deep.RegionHeld3
set_option linter.unusedSimpArgs false
set_option linter.unusedVariables false
namespace Go.Proofs.Ytdnkdjaokmibjaa.mendThrough
open Go.RowKit

theorem num_ok {l : List Pg} (h : Num l) : gAll l = true := gAll_iff.2 fun i hi => by
  have h1 := h i hi
  refine ⟨by rw [gOk_at hi]; exact h1.ok, by rw [gOk_at hi]; exact h1.g, fun h0 => ?_⟩
  rw [gOk_at hi, gOk_at (by omega), h.seq hi, h.seq (by omega)]; omega
theorem num_guard {l : List Pg} (h : Num l) : guardE l = 0 ∧ guardP l = guarded l := by rw [guardE, guardP, num_ok h]; exact ⟨rfl, rfl⟩

set_option maxHeartbeats 16000000 in
set_option maxRecDepth 100000 in
theorem walk (w : World) (A0 : Option Addr) (c0 : Nat) (t : List Int) (ht : ∀ x ∈ t, -9223372036854775808 ≤ x ∧ x ≤ 9223372036854775807) (hc : t.length ≤ c0) (h63 : c0 ≤ 9223372036854775807) (hrt : RdI w w.heap.size .i64 A0 t)
    (a : Int) (a0 : -9223372036854775808 ≤ a) (a1 : a ≤ 9223372036854775807) (y : Int) (y0 : 0 ≤ y) (y1 : y ≤ 255) :
    Calls Try.prog 6 #[.slice A0 t.length c0, .int .i64 a, .int .u8 y] w fun e w' => e = .returned (.bool true) ∧ Below w.heap.size w w' := by
  have HK := Lib.hid (fun W => known_any W)
  have HT := Lib.hid (newtape_any A0 t c0 ht hc (by omega) w hrt (Nat.le_refl _))
  have HPs := fun W (hW : TapeB W w.heap.size w.heap.size) => tapepgs_any hW 0 (by omega) 12 (by omega)
  rw [show ((0 : Nat) : Int) = 0 from rfl, show ((12 : Nat) : Int) = 12 from rfl] at HPs
  replace HPs := Lib.hid HPs
  clear ht hrt
  go_enter Try.func6, Try.ntmps6
  go_upto_region 2 with (first
    | (go_at_call 8; (with_reducible refine HT.out.mono ?_); rintro e w1 ⟨rfl, hT1, hb1⟩)
    | (go_at_call 9; (with_reducible refine (HPs.out _ hT1).mono ?_); rintro e w2 ⟨v2, l, rfl, hll, hN, ho2, hT2, hg2⟩; obtain ⟨A2, c2, rfl, hc2, hr2⟩ := ho2.reads PgR.good (S := fun b => b < w2.heap.size) (fun b _ hl => hl)))
  have bb2 := below_one hb1 hg2 (Nat.le_refl _)
  have hNum : Num l := hN
  obtain ⟨hgE, hgP⟩ := num_guard hNum
  have HGu := mdguard_any (c := c2) hr2 (by omega) hc2
  rw [hgE, hgP] at HGu
  replace HGu := Lib.hid HGu
  have HR2 := Lib.hid (fun W (h : Below w2.heap.size w2 W) => hr2.below PgR.good h)
  have hgl := guarded_len (l := l)
  have hng : nGrp l ≤ 2 := by unfold nGrp; omega
  have hgl2 : (guarded l).length ≤ 14 := by omega
  have HGok := Lib.hid (guarded_ok hNum (by omega))
  have HNum := Lib.hid hNum
  have HTh := Lib.hid (fun i ys => through_ok (l := l) hNum (by omega) (i := i) (ys := ys))
  clear hgE hgP hN hNum ho2 hT2 hT1 hgl hng HT HPs hr2 hg2 hb1
  generalize guarded l = g at *
  go_upto_region 3 with (first
    | (go_at_call 10; (with_reducible refine HGu.out.mono ?_); rintro e w3 ⟨v3, rfl, ho3, hb3⟩; obtain ⟨A3, c3, rfl, hc3, hr3⟩ := ho3.reads PgR.good (S := fun b => b < w3.heap.size) (fun b _ hl => hl)))
  have bb3 := below_then bb2 hb3
  have HR3 := Lib.hid (fun W (h : Below w3.heap.size w3 W) => hr3.below PgR.good h)
  have HBs := mdbytes_any (c := c3) hr3 (by omega)
  have hbk := bys_ok (l := g) (fun j hj => HGok.out _ (List.getElem_mem hj))
  rw [hbk.1, hbk.2] at HBs
  replace HBs := Lib.hid HBs
  have hbts := pgbs_bytes HGok.out (fun p hp => by
    obtain ⟨x, hx, rfl⟩ := List.getElem_of_mem hp
    obtain ⟨_, _, _, _, _, _, _, _, _, _, _, _, _, _, hwf⟩ := RdPg.at_ hr3 hx
    exact hwf)
  have hblen := bys_len (l := g) (fun p hp => (pgOk_len (HGok.out p hp)).2)
  have HPl := Lib.hid (fun k (hk : k < g.length) => plc_lt (g := g) hk)
  have HPs := Lib.hid (fun k (hk : k < g.length) => plc_succ (g := g) hk)
  have HP0 := Lib.hid (show plc g 0 = 8 from rfl)
  generalize g.flatMap pgBytes = F at *
  have HF := Lib.hid hbts
  clear hbk hr3 ho3 HGu hbts HGok
  go_upto_region 6 with (first
    | (go_at_call 19; (with_reducible refine HBs.out.mono ?_); rintro e w4 ⟨v4, rfl, ho4, hb4⟩; obtain ⟨A4, c4, rfl, hc4, hr4, _⟩ := ho4.form))
  have bb4 := below_then bb3 hb4
  have hs34 := hb4.size
  clear HBs ho4
  by_cases hn0 : g.length = 0
  · have hd0 : ((g.length : Int) == 0) = true := by rw [hn0]; rfl
    clear hn0
    go_wp2_with (first
      | (go_at_call 14; (with_reducible refine (HK.out _).mono ?_); rintro e w10 ⟨rfl, hb10⟩))
    go_ret
    exact ⟨rfl, below_then bb4 hb10⟩
  · have hd0 : ((g.length : Int) == 0) = false := by rw [beq_eq_false_iff_ne]; omega
    by_cases hy : y = 0
    · have hd1 : (y == 0) = true := by rw [hy]; rfl
      clear hy
      go_wp2_with (first
        | (go_at_call 14; (with_reducible refine (HK.out _).mono ?_); rintro e w10 ⟨rfl, hb10⟩))
      go_ret
      exact ⟨rfl, below_then bb4 hb10⟩
    · have hd1 : (y == 0) = false := by rw [beq_eq_false_iff_ne]; exact hy
      have hwl : IntKind.i64.wrap ((g.length : Int) - 1) = (g.length : Int) - 1 := IntWalk.i64_in _ (by omega)
      have HW := Lib.hid (fun W => within_any a 0 ((g.length : Int) - 1) a0 a1 (by omega) (by omega) (by omega) W)
      have v1 := withinV_in (n := a) (lo := 0) (hi := (g.length : Int) - 1) (by omega)
      generalize withinV a 0 ((g.length : Int) - 1) = jI at *
      obtain ⟨i, rfl⟩ := Int.eq_ofNat_of_zero_le v1.1
      have hig : i < g.length := by omega
      clear v1 hn0 hy
      go_upto_region 9 with (first
        | (go_at_call 11; (with_reducible refine (HW.out _).mono ?_); rintro e w6 ⟨rfl, rfl⟩))
      clear hwl HW
      obtain ⟨w5, rfl⟩ : ∃ w5 : World, w5 = w4 := ⟨_, rfl⟩
      go_wp2
      go_loop [13, 14] (fun pv kv => ∃ k : Nat, k ≤ i ∧ kv = .int .i64 k ∧ pv = .int .i64 ((plc g k : Nat) : Int)) (fun _ kv => i - (intOf kv).toNat)
      case atStart => exact ⟨0, Nat.zero_le _, rfl, by rw [HP0.out]; rfl⟩
      case round =>
        obtain ⟨k, hk, rfl, rfl⟩ := hrel
        by_cases hki : k < i
        · have hkg : k < g.length := by omega
          obtain ⟨ad, p, Aj, cj, rfl, _, hp, e0, e1, e2, e3, e4, hcj, hrj, hwj⟩ := RdPg.at_ (HR3.out _ hb4) hkg
          have hpk := HPs.out k hkg
          have hpl := HPl.out k hkg
          have HNx := Lib.hid hpk
          have hml : g[k].body.length ≤ 140737488355328 := hwj.len
          clear hpk
          generalize plc g k = P0 at *
          generalize g[k].body.length = m at *
          have hw1 : IntKind.i64.wrap ((P0 : Int) + 12) = (P0 : Int) + 12 := IntWalk.i64_in _ (by omega)
          have hw2 : IntKind.i64.wrap ((P0 : Int) + 12 + (m : Int)) = (P0 : Int) + 12 + (m : Int) := IntWalk.i64_in _ (by omega)
          clear e0 e1 e2 e3 hrj hwj
          go_wp2
          go_round
          case rel => exact ⟨k + 1, by omega, by go_num, by rw [HNx.out]; simp⟩
          case measure => simp [intOf]; omega
        · have hki2 : k = i := by omega
          subst hki2
          have hpl := HPl.out k hig
          generalize plc g k = P0 at *
          have hd2 : decide ((F.length : Int) ≤ (P0 : Int)) = false := decide_eq_false (by omega)
          have hr5 := hr4
          go_upto_region 15 with (first
            | (at_builtin; go_loud (refine wpList_append_int _ rfl (.tmp 67) (.tmp 68) _ rfl w5 w5.heap.size w5.heap.size 5 .u8 1 Try.underlying31 info_u8 (.slice (some ⟨w5.heap.size, 0, none⟩) 0 0) [] rfl (OwnI.empty w5 w5.heap.size 5 .u8 (Nat.le_refl _)) _ A4 F.length c4 F rfl rfl (RdI.alloc hr4 (Nat.le_refl _) _) (by simp; omega) (by omega) (below_alloc (Below.refl _ _) _) (Nat.le_refl _) (by simp) ?_); intro v7 w7 ow7 bw7; rw [List.nil_append] at ow7))
          obtain ⟨g7, c7, rfl, hg7, hgl7, hc7, hcell7, hfr7, hset7⟩ := ow7.row (by omega)
          have u0 := hcell7 P0 hpl
          have u1 := hfr7 P0
          have HS7 := Lib.hid (hset7 P0 (xo (F.getD P0 0) y))
          have HFs := Lib.hid (show byteB (F.set P0 (xo (F.getD P0 0) y)) from fun x hx => by
            rcases List.mem_or_eq_of_mem_set hx with h | rfl
            · exact HF.out x h
            · exact xo_bd _ _)
          have hxx : bits .xor .u8 (F.getD P0 0) y = xo (F.getD P0 0) y := rfl
          have bb7 := below_then bb4 bw7
          have b37 := hb4.trans (bw7.mono hs34)
          have hP0i : (P0 : Int) < (F.length : Int) := by omega
          clear hcell7 hfr7 hset7 ow7 hr4 hr5
          generalize F.getD P0 0 = f0 at *
          have HFl := Lib.hid (show (F.set P0 (xo f0 y)).length = F.length from List.length_set)
          generalize F.set P0 (xo f0 y) = F2 at *
          go_upto_region 18 with fail
          have b79 := below_put (B := w3.heap.size) (g := g7) (off := P0) (u := .int .u8 (xo f0 y)) b37 (by omega)
          have bw9 := below_put (B := w.heap.size) (g := g7) (off := P0) (u := .int .u8 (xo f0 y)) bb7 (by have := bb4.size; omega)
          have ho9 := HS7.out
          generalize w7.setCell ⟨g7, P0, none⟩ (.int .u8 (xo f0 y)) = w9 at *
          have HThk := Lib.hid (HTh.out k)
          have hr9 := HR3.out _ b79
          have HR23 := Lib.hid (fun W (h : Below w3.heap.size w3 W) => HR2.out W (hb3.trans (h.mono hb3.size)))
          obtain ⟨As1, hsl1, hrs1⟩ := RdG.slice_h (P := Try.prog) Try.underlying23 info_pg hr9 (hh := k) (c := c3) (by omega) hc3
          obtain ⟨As2, hsl2, hrs2⟩ := RdG.slice_l (P := Try.prog) Try.underlying23 info_pg hr9 (lo := k + 1) (c := c3) (by omega) hc3
          rw [show ((k + 1 : Nat) : Int) = (k : Int) + 1 by omega] at hsl2
          have hwk : IntKind.i64.wrap ((k : Int) + 1) = (k : Int) + 1 := IntWalk.i64_in _ (by omega)
          have hT1 : (g.take k).length = k := by rw [List.length_take]; omega
          have hT2 : (g.drop (k + 1)).length = g.length - (k + 1) := List.length_drop
          generalize g.take k = T1 at *
          generalize g.drop (k + 1) = T2 at *
          have hT1' := Lib.hid hT1
          have hT2' := Lib.hid hT2
          clear hT1 hT2
          have hki : k ≤ g.length := by omega
          have hkl : (k : Int) ≤ (g.length : Int) := by omega
          have hk1l : (k : Int) + 1 ≤ (g.length : Int) := by omega
          have hs39 := b79.size
          refine wp_region_held_drew (S := (fun _ => True)) (by kernel_rfl) ?_ (fun hHeld => ?_)
          focus trivial
          have hrs1 : RdPg w9.drew (fun b => b < w3.heap.size) As1 T1 := hrs1.keep PgR.good (M := fun _ => False) (Mod.refl _ _).drew (fun _ _ _ h => h)
          have hrs2 : RdPg w9.drew (fun b => b < w3.heap.size) As2 T2 := hrs2.keep PgR.good (M := fun _ => False) (Mod.refl _ _).drew (fun _ _ _ h => h)
          have ho9 := ho9.drew
          have bw9 := bw9.drew
          have b79 := b79.drew
          have hs39 : w3.heap.size ≤ w9.drew.heap.size := hs39
          generalize w9.drew = wd at *
          have hE := OwnG.empty PgR 5 33 wd wd.heap.size (fun b => b < w3.heap.size) (Nat.le_refl _)
          have bE := below_alloc (Below.refl wd.heap.size wd) (.cells #[] 33)
          have hrE := hrs1.below PgR.good bE
          have hlit : ∀ b, (Value.slice (some ⟨wd.heap.size, 0, none⟩) 0 0).ownBlock = some b → b = wd.heap.size := fun b hb => by
            simp [Value.ownBlock] at hb; omega
          have HLit := Lib.hid hlit
          clear hlit
          refine wpAnyH_take (i := 1) (v := ?_) rfl (by kernel_rfl) (by kernel_rfl) (by kernel_rfl) (fun _ _ _ h => h) (Or.inl ⟨by kernel_rfl, ?_⟩) (by assumption) ?_
          rotate_left
          focus
            intro w9 hSw
            (try dsimp only at hSw)
            go_simp
            (try with_reducible rfl)
          (try simp only [Act.put, List.getElem_toArray, List.getElem_cons_succ, List.getElem_cons_zero, List.setIfInBounds_toArray, List.set_cons_zero, List.set_cons_succ])
          refine wpAnyH_take (i := 2) (v := ?_) rfl (by kernel_rfl) (by kernel_rfl) (by kernel_rfl) (fun _ _ _ h => h) (Or.inl ⟨by kernel_rfl, ?_⟩) (by assumption) ?_
          rotate_left
          focus
            intro w9 hSw
            (try dsimp only at hSw)
            go_simp
            (try with_reducible rfl)
          (try simp only [Act.put, List.getElem_toArray, List.getElem_cons_succ, List.getElem_cons_zero, List.setIfInBounds_toArray, List.set_cons_zero, List.set_cons_succ])
          refine wpAnyH_take (i := 3) (v := ?_) rfl (by kernel_rfl) (by kernel_rfl) (by kernel_rfl) (fun _ _ _ h => h) (Or.inl ⟨by kernel_rfl, ?_⟩) (by assumption) ?_
          rotate_left
          focus
            intro w9 hSw
            (try dsimp only at hSw)
            go_simp
            (try with_reducible rfl)
          (try simp only [Act.put, List.getElem_toArray, List.getElem_cons_succ, List.getElem_cons_zero, List.setIfInBounds_toArray, List.set_cons_zero, List.set_cons_succ])
          refine wpAnyH_take (i := 5) (v := ?_) rfl (by kernel_rfl) (by kernel_rfl) (by kernel_rfl) (fun _ _ _ h => h) (Or.inl ⟨by kernel_rfl, ?_⟩) (by assumption) ?_
          rotate_left
          focus
            intro w9 hSw
            (try dsimp only at hSw)
            go_simp
            (try with_reducible rfl)
          (try simp only [Act.put, List.getElem_toArray, List.getElem_cons_succ, List.getElem_cons_zero, List.setIfInBounds_toArray, List.set_cons_zero, List.set_cons_succ])
          refine wpAnyH_take (i := 6) (v := ?_) rfl (by kernel_rfl) (by kernel_rfl) (by kernel_rfl) (fun _ _ _ h => h) (Or.inl ⟨by kernel_rfl, ?_⟩) (by assumption) ?_
          rotate_left
          focus
            intro w9 hSw
            (try dsimp only at hSw)
            go_simp
            (try with_reducible rfl)
          (try simp only [Act.put, List.getElem_toArray, List.getElem_cons_succ, List.getElem_cons_zero, List.setIfInBounds_toArray, List.set_cons_zero, List.set_cons_succ])
          refine wpAnyH_take (i := 7) (v := ?_) rfl (by kernel_rfl) (by kernel_rfl) (by kernel_rfl) (fun _ _ _ h => h) (Or.inl ⟨by kernel_rfl, ?_⟩) (by assumption) ?_
          rotate_left
          focus
            intro w9 hSw
            (try dsimp only at hSw)
            go_simp
            (try with_reducible rfl)
          (try simp only [Act.put, List.getElem_toArray, List.getElem_cons_succ, List.getElem_cons_zero, List.setIfInBounds_toArray, List.set_cons_zero, List.set_cons_succ])
          refine wpAnyH_take (i := 8) (v := ?_) rfl (by kernel_rfl) (by kernel_rfl) (by kernel_rfl) (fun _ _ _ h => h) (Or.inl ⟨by kernel_rfl, ?_⟩) (by assumption) ?_
          rotate_left
          focus
            intro w9 hSw
            (try dsimp only at hSw)
            go_simp
            (try with_reducible rfl)
          (try simp only [Act.put, List.getElem_toArray, List.getElem_cons_succ, List.getElem_cons_zero, List.setIfInBounds_toArray, List.set_cons_zero, List.set_cons_succ])
          refine wpAnyH_ready (rs := [0]) (by kernel_rfl) (by simp) (AllReadyH.cons rfl (fun K hK => ?_) AllReadyH.nil)
          go_simp
          refine hK.out _ _ ?_ (fun hHeld => ?_)
          focus exact trivial
          clear hK K
          (try simp only [Act.put, List.getElem_toArray, List.getElem_cons_succ, List.getElem_cons_zero, List.setIfInBounds_toArray, List.set_cons_zero, List.set_cons_succ])
          refine wpAnyH_ready (rs := [4]) (by kernel_rfl) (by simp) (AllReadyH.cons rfl (fun K hK => ?_) AllReadyH.nil)
          refine step_append_G (v := .slice (some ⟨wd.heap.size, 0, none⟩) 0 0) (by rfl) (.tmp 81) (.tmp 84) _ (by rfl) PgR.good (wd.alloc (.cells #[] 33)) (.agg #[.int .i64 0, .bool false, .bool false, .bool false, .slice none 0 0]) 40 Try.underlying23 info_pg (by rfl) (by omega) (by rfl) hE (fun b => b < w3.heap.size) As1 c3 k T1 (by rfl) hT1'.out.symm hrE (fun b hb _ => hb) (fun b hb h => by have h8 : b < w3.heap.size := h; have := HLit.out b hb; omega) (fun b hb => by have h8 : b < w3.heap.size := hb; simp; omega) (by have := hT1'.out; simp; omega) (by simp) ?_
          intro v10 w10 ow10 hg10 hv10
          rw [List.nil_append] at ow10
          have b10 := Below.grown bE hg10 (by simp) (fun b hb => by have := HLit.out b hb; omega)
          have hs10 := b10.size
          have hrs10 := hrs2.below PgR.good b10
          obtain ⟨A10, c10, rfl, hc10, _, hob10⟩ := ow10.form PgR.good
          refine hK.out _ _ ?_ (fun hHeld => ?_)
          focus exact trivial
          clear hK K
          (try simp only [Act.put, List.getElem_toArray, List.getElem_cons_succ, List.getElem_cons_zero, List.setIfInBounds_toArray, List.set_cons_zero, List.set_cons_succ])
          refine wpAnyH_ready (rs := [9]) (by kernel_rfl) (by simp) (AllReadyH.cons rfl (fun K hK => ?_) AllReadyH.nil)
          refine step_append_G (v := .slice A10 T1.length c10) (by rfl) (.tmp 85) (.tmp 89) _ (by rfl) PgR.good w10 (.agg #[.int .i64 0, .bool false, .bool false, .bool false, .slice none 0 0]) 40 Try.underlying23 info_pg (by rfl) (by omega) (by rfl) ow10 (fun b => b < w3.heap.size) As2 (c3 - (k + 1)) (g.length - (k + 1)) T2 (by rfl) hT2'.out.symm hrs10 (fun b hb _ => hb) (fun b hb h => by have h8 : b < w3.heap.size := h; have := (hob10 b hb).1; omega) (fun b hb => by have h8 : b < w3.heap.size := hb; omega) (by have := hT1'.out; have := hT2'.out; omega) (by omega) ?_
          intro v11 w11 ow11 hg11 hv11
          have b11 := Below.grown b10 hg11 (by omega) (fun b hb => (hob10 b hb).1)
          have hs11 := b11.size
          have hLl : (T1 ++ T2).length ≤ 14 := by have := hT1'.out; have := hT2'.out; simp; omega
          obtain ⟨A11, c11, rfl, hc11, hr11⟩ := ow11.reads PgR.good (S := fun b => b < w11.heap.size) (fun b _ h => h)
          have hoC := ho9.below b11
          obtain ⟨hmC, hcC, hrC⟩ := hoC.rds
          clear hmC
          have hrC := hrC.top
          have bw11 := below_then bw9 b11
          have b311 := b79.trans (b11.mono hs39)
          clear hE bE hrE HLit ow10 hg10 hv10 ow11 hg11 hv11 hrs1 hrs2 hrs10 hoC ho9 b10 b11 hob10 hr9 HR3 HR2
          generalize T1 ++ T2 = rest at *
          clear hT1' hT2'
          refine hK.out _ _ ?_ (fun hHeld => ?_)
          focus exact trivial
          clear hK K
          (try simp only [Act.put, List.getElem_toArray, List.getElem_cons_succ, List.getElem_cons_zero, List.setIfInBounds_toArray, List.set_cons_zero, List.set_cons_succ])
          refine wpAnyH_take (i := 10) (v := ?_) rfl (by kernel_rfl) (by kernel_rfl) (by kernel_rfl) (fun _ _ _ h => h) (Or.inl ⟨by kernel_rfl, ?_⟩) (by assumption) ?_
          rotate_left
          focus
            intro w9 hSw
            (try dsimp only at hSw)
            go_simp
            (try with_reducible rfl)
          (try simp only [Act.put, List.getElem_toArray, List.getElem_cons_succ, List.getElem_cons_zero, List.setIfInBounds_toArray, List.set_cons_zero, List.set_cons_succ])
          refine wpAnyH_done (by kernel_rfl) ?_ _
          (try simp only [Act.put, List.getElem_toArray, List.getElem_cons_succ, List.getElem_cons_zero, List.setIfInBounds_toArray, List.set_cons_zero, List.set_cons_succ])
          have HCl := clean_any hrC (Nat.le_refl _) HFs.out (by rw [HFl.out]; exact hc7) (by rw [HFl.out]; omega) c11 hr11 (by omega)
          have HSc := fun W (h : Below w11.heap.size w11 W) => mdscan_any (hrC.below h (Nat.le_refl _)) h.size HFs.out (by rw [HFl.out]; exact hc7) (by rw [HFl.out]; omega)
          rw [HFl.out] at HCl HSc
          replace HCl := Lib.hid HCl
          replace HSc := Lib.hid HSc
          have hs3b := b311.size
          clear hr11 hrC hcC
          go_upto_if 94 with (first
            | (go_at_call 20; (with_reducible refine HCl.out.mono ?_); rintro e w12 ⟨l', n', hsE, rfl, b12⟩))
          have bw12 := below_then bw11 b12
          have HSE := Lib.hid hsE
          clear hsE
          by_cases hcl : l' = rest
          · rw [decide_eq_true hcl]
            subst hcl
            have b312 := b311.trans (b12.mono hs3b)
            go_upto_region 22 with (first
              | (go_at_call 21; (with_reducible refine (HSc.out _ b12).mono ?_); rintro e w13 ⟨v13, l13, n13, rfl, hsE, hl13, o13, b13⟩))
            obtain ⟨e13, _⟩ := hsE.unique HSE.out
            subst e13
            obtain ⟨A13, c13, rfl, _, r13⟩ := o13.reads PgR.good (S := fun b => b < w13.heap.size) (fun b _ hl => hl)
            have HMe := Lib.hid (mend_any (c := c13) r13 (by omega))
            have bw13 := below_then bw12 b13
            have b313 := b312.trans (b13.mono b312.size)
            clear hsE hl13 o13 r13
            go_upto_region 23 with (first
              | (go_at_call 12; (with_reducible refine HMe.out.mono ?_); rintro e w14 ⟨v14, v15, ys, rfl, hp14, hs14, ho14, ho15, hb14⟩))
            obtain ⟨rfl, hh14⟩ := HThk.out ys hp14 hs14
            rw [hh14] at ho15
            obtain ⟨A14, c14, rfl, _, r14⟩ := ho14.reads PgR.good (S := fun b => b < w14.heap.size) (fun b _ hl => hl)
            obtain ⟨A15, c15, rfl, _, _⟩ := ho15.form HoR.good
            have HSm := samepgs_any (w := w14) c14 c2 r14 (HR23.out _ (b313.trans (hb14.mono b313.size))) (by omega) (by omega)
            rw [decide_eq_true rfl] at HSm
            replace HSm := Lib.hid HSm
            have bw14 := below_then bw13 hb14
            go_wp2_with (first
              | (go_at_call 13; (with_reducible refine HSm.out.mono ?_); rintro e w15 ⟨rfl, b15⟩)
              | (go_at_call 14; (with_reducible refine (HK.out _).mono ?_); rintro e w16 ⟨rfl, hb16⟩))
            go_ret
            exact ⟨rfl, below_then (below_then bw14 b15) hb16⟩
          · rw [decide_eq_false hcl]
            go_wp2_with (first
              | (go_at_call 14; (with_reducible refine (HK.out _).mono ?_); rintro e w16 ⟨rfl, hb16⟩))
            go_ret
            exact ⟨rfl, below_then bw12 hb16⟩
end Go.Proofs.Ytdnkdjaokmibjaa.mendThrough
