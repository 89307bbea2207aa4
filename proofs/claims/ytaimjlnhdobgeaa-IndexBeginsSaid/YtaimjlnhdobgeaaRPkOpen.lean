/- The reference's big and PageOpen. -/
import Derived.Test.YtaimjlnhdobgeaaPkOpenL
import Derived.Test.YtaimjlnhdobgeaaR2Big
import Derived.Test.YtaimjlnhdobgeaaPkVal
import Derived.Deep.RegionHeld3
import Derived.BigQuiet
import Derived.Deep.QuietTactic
import Derived.Deep.DeepCutAuto
set_option linter.unusedSimpArgs false
set_option linter.unusedVariables false
namespace Go.Proofs.Ytaimjlnhdobgeaa
open Go.RowKit

set_option maxHeartbeats 1000000 in
theorem rbig35_any {o : List Int} {A : Option Addr} {c : Nat} {w : World} {B : Nat} (n : Nat) (hn : o.length = n) (hr : RdI w B .u8 A o) (hb : byteB o) (hl : n ≤ 8) :
    Calls Try.prog 55 #[.slice A n c] w fun e w' => e = .returned (.int .u64 (big o)) ∧ w = w' := by
  subst hn
  have HB := Lib.hid hb
  clear hb
  go_enter Try.func55, Try.ntmps55
  go_wp2
  go_loop [3, 4] (fun m i => ∃ (j : Nat), j ≤ o.length ∧ i = .int .i64 j ∧ m = .int .u64 (big (o.take j))) (fun _ i => o.length - (intOf i).toNat)
  case atStart => exact ⟨0, Nat.zero_le _, rfl, rfl⟩
  case round =>
    obtain ⟨j, hj, rfl, rfl⟩ := hrel
    by_cases hlt : j < o.length
    · obtain ⟨ad, rfl, hadB, hcell⟩ := hr.at_ hlt
      obtain ⟨hx0, hx1⟩ := HB.out (o.getD j 0) (by rw [List.getD_eq_getElem?_getD, List.getElem?_eq_getElem hlt]; exact List.getElem_mem hlt)
      have HS := Lib.hid (show big (o.take (j + 1)) = big (o.take j) * 256 + o.getD j 0 by rw [take_snoc hlt, big_snoc])
      obtain ⟨hb0, hb1⟩ := big_bound (o.take j) (fun x hx => HB.out x (List.mem_of_mem_take hx))
      rw [List.length_take, Nat.min_eq_left hj] at hb1
      have hb2 : big (o.take j) < 72057594037927936 := Int.lt_of_lt_of_le hb1 (pow_256_le (by omega))
      clear hb1
      generalize big (o.take j) = b at *
      generalize o.getD j 0 = x at *
      go_wp2
      go_round
      case rel => exact ⟨j + 1, by omega, by go_num, by rw [HS.out, or_low b x hb0 hb2 hx0 hx1]⟩
      case measure => simp [intOf]; omega
    · have hjl : j = o.length := by omega
      subst hjl
      go_wp2
      go_ret
      exact ⟨by first | rfl | rw [List.take_length], rfl⟩

theorem and1_8 (f : Int) (h0 : 0 ≤ f) (h1 : f ≤ 3) : (bits .and .u8 f 1 == 1) = (f % 2 != 0) := by
  rcases (show f = 0 ∨ f = 1 ∨ f = 2 ∨ f = 3 by omega) with rfl | rfl | rfl | rfl <;> decide
theorem and2_8 (f : Int) (h0 : 0 ≤ f) (h1 : f ≤ 3) : (bits .and .u8 f 2 == 2) = (f / 2 % 2 != 0) := by
  rcases (show f = 0 ∨ f = 1 ∨ f = 2 ∨ f = 3 by omega) with rfl | rfl | rfl | rfl <;> decide

set_option maxHeartbeats 4000000 in
set_option maxRecDepth 100000 in
theorem ropen_any {b : List Int} {A : Option Addr} {c : Nat} {w : World} {B : Nat} (hr : RdI w B .u8 A b) (hB : B ≤ w.heap.size) (hb : byteB b) (hc : b.length ≤ c) (hl : b.length ≤ 1000000000) :
    Calls Try.prog 39 #[.slice A b.length c] w fun e w' => ∃ A' c', e = .returned (.tuple #[(openP b).val A' c', .int .i64 (openE b)]) ∧ OwnI w' w.heap.size 5 .u8 (.slice A' (openP b).data.length c') (openP b).data ∧ Below w.heap.size w w' := by
  have HE := Lib.hid (show openE b = if b.length < 18 then 3 else if 65554 < b.length then 4 else if openOk b = true then 0 else 2 from rfl)
  have HP := Lib.hid (show openP b = if openE b = 0 then ⟨b.getD 0 0, big ((b.drop 2).take 8), big ((b.drop 10).take 8), b.getD 1 0 % 2 != 0, b.getD 1 0 / 2 % 2 != 0, b.drop 18⟩ else Pk.zero from rfl)
  have HO := Lib.hid (show openOk b = decide (b.getD 0 0 < 4 ∧ b.getD 1 0 ≤ 3 ∧ big ((b.drop 2).take 8) ≤ 1125899906842624 ∧ big ((b.drop 10).take 8) ≤ 1125899906842624) from rfl)
  generalize openE b = E at *
  generalize openP b = P at *
  by_cases h18 : b.length < 18
  · have HE2 : E = 3 := by rw [HE.out, if_pos h18]
    subst HE2
    have HP2 : P = Pk.zero := by rw [HP.out, if_neg (by omega)]
    subst HP2
    have h18' : (b.length : Int) < 18 := by omega
    clear HE HP HO h18
    go_enter Try.func39, Try.ntmps39
    go_wp2
    exact bodyPost_ret (v := .tuple #[Pk.zero.val none 0, .int .i64 3]) (by simp [results, Try.results39, go_sem, Pk.zero]) rfl ⟨none, 0, rfl, OwnI.nil_ _ _ _ _, (by repeat (first | exact Below.refl _ _ | assumption | refine Below.drew ?_ | refine below_drewN ?_ _ | refine below_alloc ?_ _))⟩
  · have h18' : decide ((b.length : Int) < 18) = false := by simp; omega
    have h18n : (18 : Int) ≤ (b.length : Int) := by omega
    by_cases h64 : 65554 < b.length
    · have HE2 : E = 4 := by rw [HE.out, if_neg h18, if_pos h64]
      subst HE2
      have HP2 : P = Pk.zero := by rw [HP.out, if_neg (by omega)]
      subst HP2
      have h64' : decide (65536 < (b.length : Int) - 18) = true := by simp; omega
      clear HE HP HO h18 h64
      go_enter Try.func39, Try.ntmps39
      go_wp2
      exact bodyPost_ret (v := .tuple #[Pk.zero.val none 0, .int .i64 4]) (by simp [results, Try.results39, go_sem, Pk.zero]) rfl ⟨none, 0, rfl, OwnI.nil_ _ _ _ _, (by repeat (first | exact Below.refl _ _ | assumption | refine Below.drew ?_ | refine below_drewN ?_ _ | refine below_alloc ?_ _))⟩
    · have h64' : decide (65536 < (b.length : Int) - 18) = false := by simp; omega
      obtain ⟨s0, s1⟩ := hb.getD 0
      obtain ⟨f0, f1⟩ := hb.getD 1
      obtain ⟨a0, a1⟩ := big8_bd hb 2
      obtain ⟨l0, l1⟩ := big8_bd hb 10
      obtain ⟨ad, rfl, hadB, x0⟩ := hr.at_ (j := 0) (by omega)
      obtain ⟨ad', had, _, x1⟩ := hr.at_ (j := 1) (by omega)
      obtain rfl : ad = ad' := by injection had
      have x0 : w.cell? ad = some (.int .u8 (b.getD 0 0)) := x0
      have x1' : w.cell? ⟨ad.block, ad.off + 1, none⟩ = some (.int .u8 (b.getD 1 0)) := x1
      have hadw : ad.block < w.heap.size := by omega
      have hne0 : ad.block ≠ w.heap.size := by omega
      have hp0 : (0 : Int) < (b.length : Int) := by omega
      have hp1 : (1 : Int) < (b.length : Int) := by omega
      clear x1 had
      obtain ⟨A2, hrun2, hr2, _⟩ := hr.slice_lh Try.underlying27 info_u8 (lo := 2) (hh := 10) (by omega) (by omega) hc
      obtain ⟨A3, hrun3, hr3, _⟩ := hr.slice_lh Try.underlying27 info_u8 (lo := 10) (hh := 18) (by omega) (by omega) hc
      obtain ⟨A4, hrun4, hr4, _⟩ := hr.slice_l Try.underlying27 info_u8 (lo := 18) (by omega) hc
      simp only [show ((2 : Nat) : Int) = 2 from rfl, show ((10 : Nat) : Int) = 10 from rfl, show ((18 : Nat) : Int) = 18 from rfl, Nat.reduceSub] at hrun2 hrun3 hrun4 hr2 hr3 hr4
      have hd2 : ((b.drop 2).take 8).length = 8 := by rw [List.length_take, List.length_drop]; omega
      have hd3 : ((b.drop 10).take 8).length = 8 := by rw [List.length_take, List.length_drop]; omega
      have HD := Lib.hid (show (b.drop 18).length = b.length - 18 from List.length_drop)
      have hdb : byteB (b.drop 18) := fun y hy => hb y (List.mem_of_mem_drop hy)
      have hdl : (b.drop 18).length ≤ c - 18 := by rw [HD.out]; omega
      have HR4 := Lib.hid hr4
      have HC1 := Lib.hid (fun (W : World) (hW : Below w.heap.size w W) => rbig35_any (c := c - 2) 8 hd2 (hr2.below hW hB) (hb.part 2 8) (Nat.le_refl _))
      have HC2 := Lib.hid (fun (W : World) (hW : Below w.heap.size w W) => rbig35_any (c := c - 10) 8 hd3 (hr3.below hW hB) (hb.part 10 8) (Nat.le_refl _))
      have k1 := and2_8 (b.getD 1 0) f0
      have k5 := and1_8 (b.getD 1 0) f0
      clear hr hr2 hr3 hr4 hb hd2 hd3
      generalize b.drop 18 = d at *
      generalize b.getD 0 0 = s at *
      generalize b.getD 1 0 = f at *
      generalize big ((b.drop 2).take 8) = a at *
      generalize big ((b.drop 10).take 8) = l at *
      by_cases hok : s < 4 ∧ f ≤ 3 ∧ a ≤ 1125899906842624 ∧ l ≤ 1125899906842624
      · have HE2 : E = 0 := by rw [HE.out, if_neg h18, if_neg h64, HO.out, if_pos (decide_eq_true hok)]
        subst HE2
        have HP2 : P = ⟨s, a, l, f % 2 != 0, f / 2 % 2 != 0, d⟩ := by rw [HP.out, if_pos rfl]
        subst HP2
        have k2 := k1 hok.2.1
        have k6 := k5 hok.2.1
        obtain ⟨o1, o2, o3, o4⟩ := hok
        have q1 : decide (4 ≤ s) = false := by simp; omega
        have q2 : decide (3 < f) = false := by simp; omega
        have q3 : decide (1125899906842624 < a) = false := by simp; omega
        have q4 : decide (1125899906842624 < l) = false := by simp; omega
        clear HE HP HO h18 h64 k1 k5
        go_enter Try.func39, Try.ntmps39
        go_wp2_with fail
        have kb := Blk.new w 47 #[.int .i64 0, .int .i64 0, .int .i64 0, .bool false, .bool false, .slice none 0 0]
        have hbw : Below w.heap.size w (w.alloc (.cells #[.int .i64 0, .int .i64 0, .int .i64 0, .bool false, .bool false, .slice none 0 0] 47)) := below_alloc (Below.refl _ _) _
        have hsz : (w.alloc (.cells #[.int .i64 0, .int .i64 0, .int .i64 0, .bool false, .bool false, .slice none 0 0] 47)).heap.size = w.heap.size + 1 := by simp
        generalize w.alloc (.cells #[.int .i64 0, .int .i64 0, .int .i64 0, .bool false, .bool false, .slice none 0 0] 47) = wb at *
        have HSZ := Lib.hid hsz
        clear hsz
        have hgl := kb.lt
        go_quiet ((go_at_call 55; (first | (with_reducible exact quiet_left (HC1.out _ (below_drewN hbw _))) | (with_reducible exact quiet_left (HC2.out _ (below_drewN hbw _))))))
        have hbd := below_drewN hbw nq
        have kbd := kb.drewN nq
        have hszd : (wb.drewN nq).heap.size = wb.heap.size := rfl
        have x0b := (hbd.cell hadw).trans x0
        have x1b := (hbd.cell (p := ⟨ad.block, ad.off + 1, none⟩) hadw).trans x1'
        generalize wb.drewN nq = wd at *
        have HSD := Lib.hid (hszd.trans HSZ.out)
        clear hszd kb
        have hgd := kbd.lt
        go_upto_region 8 with fail
        clear x0b x1b
        have hR4 := HR4.out.below hbd hB
        have hpn0 : 0 < b.length := by omega
        have hpn1 : 1 < b.length := by omega
        have hDl := HD.out
        have hs0 : IntKind.i64.wrap s = s := by rw [IntKind.wrap_i64]; omega
        have hs1 : IntKind.i64.wrap a = a := by rw [IntKind.wrap_i64]; omega
        have hs2 : IntKind.i64.wrap l = l := by rw [IntKind.wrap_i64]; omega
        have ow0 := OwnI.empty wd.drew wd.heap.size 5 .u8 (Nat.le_refl _)
        have bw0 : Below wd.heap.size wd (wd.drew.alloc (.cells #[] 5)) := below_alloc (Below.refl _ _).drew _
        have bz0 := below_then hbd bw0
        generalize hwE : wd.drew.alloc (.cells #[] 5) = we at ow0 bw0 bz0
        refine wp_region_held_drew (S := (fun w' => Below w.heap.size w w')) (by kernel_rfl) ?_ (fun hHeld => ?_)
        focus exact hbd.drew
        refine wpAnyH_take (i := 0) (v := ?_) rfl (by kernel_rfl) (by kernel_rfl) (by kernel_rfl) (fun _ _ _ h => h) (Or.inl ⟨by kernel_rfl, ?_⟩) (by assumption) ?_
        rotate_left
        focus
          intro w9 hSw
          (try dsimp only at hSw)
          have zK : ∀ {a9 : Addr} {u9 : Value}, w.cell? a9 = some u9 → w9.cell? a9 = some u9 := fun {a9} {u9} h9 => (hSw.cell (World.block_lt_of_cell? w a9 h9)).trans h9
          have z0 := zK x0
          have z1 := zK x1'
          clear zK hSw
          go_simp
          (try with_reducible rfl)
        (try simp only [Act.put, List.getElem_toArray, List.getElem_cons_succ, List.getElem_cons_zero, List.setIfInBounds_toArray, List.set_cons_zero, List.set_cons_succ])
        refine wpAnyH_take (i := 1) (v := ?_) rfl (by kernel_rfl) (by kernel_rfl) (by kernel_rfl) (fun _ _ _ h => h) (Or.inl ⟨by kernel_rfl, ?_⟩) (by assumption) ?_
        rotate_left
        focus
          intro w9 hSw
          (try dsimp only at hSw)
          have zK : ∀ {a9 : Addr} {u9 : Value}, w.cell? a9 = some u9 → w9.cell? a9 = some u9 := fun {a9} {u9} h9 => (hSw.cell (World.block_lt_of_cell? w a9 h9)).trans h9
          have z0 := zK x0
          have z1 := zK x1'
          clear zK hSw
          go_simp
          (try with_reducible rfl)
        (try simp only [Act.put, List.getElem_toArray, List.getElem_cons_succ, List.getElem_cons_zero, List.setIfInBounds_toArray, List.set_cons_zero, List.set_cons_succ])
        refine wpAnyH_take (i := 2) (v := ?_) rfl (by kernel_rfl) (by kernel_rfl) (by kernel_rfl) (fun _ _ _ h => h) (Or.inl ⟨by kernel_rfl, ?_⟩) (by assumption) ?_
        rotate_left
        focus
          intro w9 hSw
          (try dsimp only at hSw)
          have zK : ∀ {a9 : Addr} {u9 : Value}, w.cell? a9 = some u9 → w9.cell? a9 = some u9 := fun {a9} {u9} h9 => (hSw.cell (World.block_lt_of_cell? w a9 h9)).trans h9
          have z0 := zK x0
          have z1 := zK x1'
          clear zK hSw
          go_simp
          (try with_reducible rfl)
        (try simp only [Act.put, List.getElem_toArray, List.getElem_cons_succ, List.getElem_cons_zero, List.setIfInBounds_toArray, List.set_cons_zero, List.set_cons_succ])
        refine wpAnyH_take (i := 3) (v := ?_) rfl (by kernel_rfl) (by kernel_rfl) (by kernel_rfl) (fun _ _ _ h => h) (Or.inl ⟨by kernel_rfl, ?_⟩) (by assumption) ?_
        rotate_left
        focus
          intro w9 hSw
          (try dsimp only at hSw)
          have zK : ∀ {a9 : Addr} {u9 : Value}, w.cell? a9 = some u9 → w9.cell? a9 = some u9 := fun {a9} {u9} h9 => (hSw.cell (World.block_lt_of_cell? w a9 h9)).trans h9
          have z0 := zK x0
          have z1 := zK x1'
          clear zK hSw
          go_simp
          (try with_reducible rfl)
        (try simp only [Act.put, List.getElem_toArray, List.getElem_cons_succ, List.getElem_cons_zero, List.setIfInBounds_toArray, List.set_cons_zero, List.set_cons_succ])
        refine wpAnyH_take (i := 4) (v := ?_) rfl (by kernel_rfl) (by kernel_rfl) (by kernel_rfl) (fun _ _ _ h => h) (Or.inl ⟨by kernel_rfl, ?_⟩) (by assumption) ?_
        rotate_left
        focus
          intro w9 hSw
          (try dsimp only at hSw)
          have zK : ∀ {a9 : Addr} {u9 : Value}, w.cell? a9 = some u9 → w9.cell? a9 = some u9 := fun {a9} {u9} h9 => (hSw.cell (World.block_lt_of_cell? w a9 h9)).trans h9
          have z0 := zK x0
          have z1 := zK x1'
          clear zK hSw
          go_simp
          (try with_reducible rfl)
        (try simp only [Act.put, List.getElem_toArray, List.getElem_cons_succ, List.getElem_cons_zero, List.setIfInBounds_toArray, List.set_cons_zero, List.set_cons_succ])
        refine wpAnyH_take (i := 5) (v := ?_) rfl (by kernel_rfl) (by kernel_rfl) (by kernel_rfl) (fun _ _ _ h => h) (Or.inl ⟨by kernel_rfl, ?_⟩) (by assumption) ?_
        rotate_left
        focus
          intro w9 hSw
          (try dsimp only at hSw)
          have zK : ∀ {a9 : Addr} {u9 : Value}, w.cell? a9 = some u9 → w9.cell? a9 = some u9 := fun {a9} {u9} h9 => (hSw.cell (World.block_lt_of_cell? w a9 h9)).trans h9
          have z0 := zK x0
          have z1 := zK x1'
          clear zK hSw
          go_simp
          (try with_reducible rfl)
        (try simp only [Act.put, List.getElem_toArray, List.getElem_cons_succ, List.getElem_cons_zero, List.setIfInBounds_toArray, List.set_cons_zero, List.set_cons_succ])
        refine wpAnyH_take (i := 6) (v := ?_) rfl (by kernel_rfl) (by kernel_rfl) (by kernel_rfl) (fun _ _ _ h => h) (Or.inl ⟨by kernel_rfl, ?_⟩) (by assumption) ?_
        rotate_left
        focus
          intro w9 hSw
          (try dsimp only at hSw)
          have zK : ∀ {a9 : Addr} {u9 : Value}, w.cell? a9 = some u9 → w9.cell? a9 = some u9 := fun {a9} {u9} h9 => (hSw.cell (World.block_lt_of_cell? w a9 h9)).trans h9
          have z0 := zK x0
          have z1 := zK x1'
          clear zK hSw
          go_simp
          (try with_reducible rfl)
        (try simp only [Act.put, List.getElem_toArray, List.getElem_cons_succ, List.getElem_cons_zero, List.setIfInBounds_toArray, List.set_cons_zero, List.set_cons_succ])
        refine wpAnyH_take (i := 7) (v := ?_) rfl (by kernel_rfl) (by kernel_rfl) (by kernel_rfl) (fun _ _ _ h => h) (Or.inl ⟨by kernel_rfl, ?_⟩) (by assumption) ?_
        rotate_left
        focus
          intro w9 hSw
          (try dsimp only at hSw)
          have zK : ∀ {a9 : Addr} {u9 : Value}, w.cell? a9 = some u9 → w9.cell? a9 = some u9 := fun {a9} {u9} h9 => (hSw.cell (World.block_lt_of_cell? w a9 h9)).trans h9
          have z0 := zK x0
          have z1 := zK x1'
          clear zK hSw
          go_simp
          (try with_reducible rfl)
        (try simp only [Act.put, List.getElem_toArray, List.getElem_cons_succ, List.getElem_cons_zero, List.setIfInBounds_toArray, List.set_cons_zero, List.set_cons_succ])
        refine wpAnyH_take (i := 8) (v := ?_) rfl (by kernel_rfl) (by kernel_rfl) (by kernel_rfl) (fun _ _ _ h => h) (Or.inl ⟨by kernel_rfl, ?_⟩) (by assumption) ?_
        rotate_left
        focus
          intro w9 hSw
          (try dsimp only at hSw)
          have zK : ∀ {a9 : Addr} {u9 : Value}, w.cell? a9 = some u9 → w9.cell? a9 = some u9 := fun {a9} {u9} h9 => (hSw.cell (World.block_lt_of_cell? w a9 h9)).trans h9
          have z0 := zK x0
          have z1 := zK x1'
          clear zK hSw
          go_simp
          (try with_reducible rfl)
        (try simp only [Act.put, List.getElem_toArray, List.getElem_cons_succ, List.getElem_cons_zero, List.setIfInBounds_toArray, List.set_cons_zero, List.set_cons_succ])
        refine wpAnyH_take (i := 9) (v := ?_) rfl (by kernel_rfl) (by kernel_rfl) (by kernel_rfl) (fun _ _ _ h => h) (Or.inl ⟨by kernel_rfl, ?_⟩) (by assumption) ?_
        rotate_left
        focus
          intro w9 hSw
          (try dsimp only at hSw)
          have zK : ∀ {a9 : Addr} {u9 : Value}, w.cell? a9 = some u9 → w9.cell? a9 = some u9 := fun {a9} {u9} h9 => (hSw.cell (World.block_lt_of_cell? w a9 h9)).trans h9
          have z0 := zK x0
          have z1 := zK x1'
          clear zK hSw
          go_simp
          (try with_reducible rfl)
        (try simp only [Act.put, List.getElem_toArray, List.getElem_cons_succ, List.getElem_cons_zero, List.setIfInBounds_toArray, List.set_cons_zero, List.set_cons_succ])
        refine wpAnyH_take (i := 10) (v := ?_) rfl (by kernel_rfl) (by kernel_rfl) (by kernel_rfl) (fun _ _ _ h => h) (Or.inl ⟨by kernel_rfl, ?_⟩) (by assumption) ?_
        rotate_left
        focus
          intro w9 hSw
          (try dsimp only at hSw)
          have zK : ∀ {a9 : Addr} {u9 : Value}, w.cell? a9 = some u9 → w9.cell? a9 = some u9 := fun {a9} {u9} h9 => (hSw.cell (World.block_lt_of_cell? w a9 h9)).trans h9
          have z0 := zK x0
          have z1 := zK x1'
          clear zK hSw
          go_simp
          (try with_reducible rfl)
        (try simp only [Act.put, List.getElem_toArray, List.getElem_cons_succ, List.getElem_cons_zero, List.setIfInBounds_toArray, List.set_cons_zero, List.set_cons_succ])
        refine wpAnyH_take (i := 11) (v := ?_) rfl (by kernel_rfl) (by kernel_rfl) (by kernel_rfl) (fun _ _ _ h => h) (Or.inl ⟨by kernel_rfl, ?_⟩) (by assumption) ?_
        rotate_left
        focus
          intro w9 hSw
          (try dsimp only at hSw)
          have zK : ∀ {a9 : Addr} {u9 : Value}, w.cell? a9 = some u9 → w9.cell? a9 = some u9 := fun {a9} {u9} h9 => (hSw.cell (World.block_lt_of_cell? w a9 h9)).trans h9
          have z0 := zK x0
          have z1 := zK x1'
          clear zK hSw
          go_simp
          (try with_reducible rfl)
        (try simp only [Act.put, List.getElem_toArray, List.getElem_cons_succ, List.getElem_cons_zero, List.setIfInBounds_toArray, List.set_cons_zero, List.set_cons_succ])
        refine wpAnyH_take (i := 12) (v := ?_) rfl (by kernel_rfl) (by kernel_rfl) (by kernel_rfl) (fun _ _ _ h => h) (Or.inl ⟨by kernel_rfl, ?_⟩) (by assumption) ?_
        rotate_left
        focus
          intro w9 hSw
          (try dsimp only at hSw)
          have zK : ∀ {a9 : Addr} {u9 : Value}, w.cell? a9 = some u9 → w9.cell? a9 = some u9 := fun {a9} {u9} h9 => (hSw.cell (World.block_lt_of_cell? w a9 h9)).trans h9
          have z0 := zK x0
          have z1 := zK x1'
          clear zK hSw
          go_simp
          (try with_reducible rfl)
        (try simp only [Act.put, List.getElem_toArray, List.getElem_cons_succ, List.getElem_cons_zero, List.setIfInBounds_toArray, List.set_cons_zero, List.set_cons_succ])
        refine wpAnyH_take (i := 13) (v := ?_) rfl (by kernel_rfl) (by kernel_rfl) (by kernel_rfl) (fun _ _ _ h => h) (Or.inl ⟨by kernel_rfl, ?_⟩) (by assumption) ?_
        rotate_left
        focus
          intro w9 hSw
          (try dsimp only at hSw)
          have zK : ∀ {a9 : Addr} {u9 : Value}, w.cell? a9 = some u9 → w9.cell? a9 = some u9 := fun {a9} {u9} h9 => (hSw.cell (World.block_lt_of_cell? w a9 h9)).trans h9
          have z0 := zK x0
          have z1 := zK x1'
          clear zK hSw
          go_simp
          (try with_reducible rfl)
        (try simp only [Act.put, List.getElem_toArray, List.getElem_cons_succ, List.getElem_cons_zero, List.setIfInBounds_toArray, List.set_cons_zero, List.set_cons_succ])
        refine wpAnyH_take (i := 14) (v := ?_) rfl (by kernel_rfl) (by kernel_rfl) (by kernel_rfl) (fun _ _ _ h => h) (Or.inl ⟨by kernel_rfl, ?_⟩) (by assumption) ?_
        rotate_left
        focus
          intro w9 hSw
          (try dsimp only at hSw)
          have zK : ∀ {a9 : Addr} {u9 : Value}, w.cell? a9 = some u9 → w9.cell? a9 = some u9 := fun {a9} {u9} h9 => (hSw.cell (World.block_lt_of_cell? w a9 h9)).trans h9
          have z0 := zK x0
          have z1 := zK x1'
          clear zK hSw
          go_simp
          (try with_reducible rfl)
        (try simp only [Act.put, List.getElem_toArray, List.getElem_cons_succ, List.getElem_cons_zero, List.setIfInBounds_toArray, List.set_cons_zero, List.set_cons_succ])
        refine wpAnyH_take (i := 15) (v := ?_) rfl (by kernel_rfl) (by kernel_rfl) (by kernel_rfl) (fun _ _ _ h => h) (Or.inl ⟨by kernel_rfl, ?_⟩) (by assumption) ?_
        rotate_left
        focus
          intro w9 hSw
          (try dsimp only at hSw)
          have zK : ∀ {a9 : Addr} {u9 : Value}, w.cell? a9 = some u9 → w9.cell? a9 = some u9 := fun {a9} {u9} h9 => (hSw.cell (World.block_lt_of_cell? w a9 h9)).trans h9
          have z0 := zK x0
          have z1 := zK x1'
          clear zK hSw
          go_simp
          (try with_reducible rfl)
        (try simp only [Act.put, List.getElem_toArray, List.getElem_cons_succ, List.getElem_cons_zero, List.setIfInBounds_toArray, List.set_cons_zero, List.set_cons_succ])
        refine wpAnyH_take (i := 16) (v := ?_) rfl (by kernel_rfl) (by kernel_rfl) (by kernel_rfl) (fun _ _ _ h => h) (Or.inl ⟨by kernel_rfl, ?_⟩) (by assumption) ?_
        rotate_left
        focus
          intro w9 hSw
          (try dsimp only at hSw)
          have zK : ∀ {a9 : Addr} {u9 : Value}, w.cell? a9 = some u9 → w9.cell? a9 = some u9 := fun {a9} {u9} h9 => (hSw.cell (World.block_lt_of_cell? w a9 h9)).trans h9
          have z0 := zK x0
          have z1 := zK x1'
          clear zK hSw
          go_simp
          (try with_reducible rfl)
        (try simp only [Act.put, List.getElem_toArray, List.getElem_cons_succ, List.getElem_cons_zero, List.setIfInBounds_toArray, List.set_cons_zero, List.set_cons_succ])
        refine wpAnyH_take (i := 17) (v := ?_) rfl (by kernel_rfl) (by kernel_rfl) (by kernel_rfl) (fun _ _ _ h => h) (Or.inl ⟨by kernel_rfl, ?_⟩) (by assumption) ?_
        rotate_left
        focus
          intro w9 hSw
          (try dsimp only at hSw)
          have zK : ∀ {a9 : Addr} {u9 : Value}, w.cell? a9 = some u9 → w9.cell? a9 = some u9 := fun {a9} {u9} h9 => (hSw.cell (World.block_lt_of_cell? w a9 h9)).trans h9
          have z0 := zK x0
          have z1 := zK x1'
          clear zK hSw
          go_simp
          (try with_reducible rfl)
        (try simp only [Act.put, List.getElem_toArray, List.getElem_cons_succ, List.getElem_cons_zero, List.setIfInBounds_toArray, List.set_cons_zero, List.set_cons_succ])
        refine wpAnyH_take (i := 19) (v := ?_) rfl (by kernel_rfl) (by kernel_rfl) (by kernel_rfl) (fun _ _ _ h => h) (Or.inl ⟨by kernel_rfl, ?_⟩) (by assumption) ?_
        rotate_left
        focus
          intro w9 hSw
          (try dsimp only at hSw)
          have zK : ∀ {a9 : Addr} {u9 : Value}, w.cell? a9 = some u9 → w9.cell? a9 = some u9 := fun {a9} {u9} h9 => (hSw.cell (World.block_lt_of_cell? w a9 h9)).trans h9
          have z0 := zK x0
          have z1 := zK x1'
          clear zK hSw
          go_simp
          (try with_reducible rfl)
        (try simp only [Act.put, List.getElem_toArray, List.getElem_cons_succ, List.getElem_cons_zero, List.setIfInBounds_toArray, List.set_cons_zero, List.set_cons_succ])
        refine wpAnyH_take (i := 20) (v := ?_) rfl (by kernel_rfl) (by kernel_rfl) (by kernel_rfl) (fun _ _ _ h => h) (Or.inl ⟨by kernel_rfl, ?_⟩) (by assumption) ?_
        rotate_left
        focus
          intro w9 hSw
          (try dsimp only at hSw)
          have zK : ∀ {a9 : Addr} {u9 : Value}, w.cell? a9 = some u9 → w9.cell? a9 = some u9 := fun {a9} {u9} h9 => (hSw.cell (World.block_lt_of_cell? w a9 h9)).trans h9
          have z0 := zK x0
          have z1 := zK x1'
          clear zK hSw
          go_simp
          (try with_reducible rfl)
        (try simp only [Act.put, List.getElem_toArray, List.getElem_cons_succ, List.getElem_cons_zero, List.setIfInBounds_toArray, List.set_cons_zero, List.set_cons_succ])
        refine wpAnyH_ready (rs := [18]) (by kernel_rfl) (by simp) (AllReadyH.cons rfl (fun K hK => ?_) AllReadyH.nil)
        go_simp
        refine hK.out _ _ ?_ (fun hHeld => ?_)
        focus exact bz0
        clear hK K
        (try simp only [Act.put, List.getElem_toArray, List.getElem_cons_succ, List.getElem_cons_zero, List.setIfInBounds_toArray, List.set_cons_zero, List.set_cons_succ])
        refine wpAnyH_ready (rs := [21]) (by kernel_rfl) (by simp) (AllReadyH.cons rfl (fun K hK => ?_) AllReadyH.nil)
        refine step_append_int _ (by rfl) (.tmp 58) (.tmp 60) _ (by rfl) wd wd.heap.size wd.heap.size 5 .u8 1 Try.underlying27 info_u8 _ [] (by rfl) (by exact ow0) _ A4 _ (c - 18) d (by rfl) (by omega) (by exact hR4.below bw0 (by omega)) (by simp; omega) (by omega) (by exact bw0) (Nat.le_refl _) (by exact bw0.size) ?_
        intro v2 w2 ow2 bw2 _ _
        rw [List.nil_append] at ow2
        obtain ⟨Av, cv, rfl, hcv, hrv, _⟩ := ow2.form
        have bz2 := below_then hbd bw2
        refine hK.out _ _ ?_ (fun hHeld => ?_)
        focus exact bz2
        clear hK K
        (try simp only [Act.put, List.getElem_toArray, List.getElem_cons_succ, List.getElem_cons_zero, List.setIfInBounds_toArray, List.set_cons_zero, List.set_cons_succ])
        have kb2 := kbd.below bw2 hgd
        have z0 := kb2.cell 0
        have z1 := kb2.cell 1
        have z2 := kb2.cell 2
        have z3 := kb2.cell 3
        have z4 := kb2.cell 4
        have z5 := kb2.cell 5
        have y0 := kb2.frozen 0
        have y1 := kb2.frozen 1
        have y2 := kb2.frozen 2
        have y3 := kb2.frozen 3
        have y4 := kb2.frozen 4
        have y5 := kb2.frozen 5
        refine wpAnyH_take (i := 22) (v := ?_) rfl (by kernel_rfl) (by kernel_rfl) (by kernel_rfl) (fun _ _ _ h => h) (Or.inl ⟨by kernel_rfl, ?_⟩) (by assumption) ?_
        rotate_left
        focus
          intro w9 hSw
          (try dsimp only at hSw)
          go_simp
          (try with_reducible rfl)
        (try simp only [Act.put, List.getElem_toArray, List.getElem_cons_succ, List.getElem_cons_zero, List.setIfInBounds_toArray, List.set_cons_zero, List.set_cons_succ])
        refine wpAnyH_ready (rs := [23]) (by kernel_rfl) (by simp) (AllReadyH.cons rfl (fun K hK => ?_) AllReadyH.nil)
        go_simp
        refine hK.out _ _ ?_ (fun hHeld => ?_)
        focus exact (by repeat (first | with_reducible exact bz2 | refine below_put ?_ (Nat.le_refl _)))
        clear hK K
        (try simp only [Act.put, List.getElem_toArray, List.getElem_cons_succ, List.getElem_cons_zero, List.setIfInBounds_toArray, List.set_cons_zero, List.set_cons_succ])
        refine wpAnyH_take (i := 24) (v := ?_) rfl (by kernel_rfl) (by kernel_rfl) (by kernel_rfl) (fun _ _ _ h => h) (Or.inl ⟨by kernel_rfl, ?_⟩) (by assumption) ?_
        rotate_left
        focus
          intro w9 hSw
          (try dsimp only at hSw)
          go_simp
          (try with_reducible rfl)
        (try simp only [Act.put, List.getElem_toArray, List.getElem_cons_succ, List.getElem_cons_zero, List.setIfInBounds_toArray, List.set_cons_zero, List.set_cons_succ])
        refine wpAnyH_done (by kernel_rfl) ?_ _
        (try simp only [Act.put, List.getElem_toArray, List.getElem_cons_succ, List.getElem_cons_zero, List.setIfInBounds_toArray, List.set_cons_zero, List.set_cons_succ])
        go_wp2
        have hlt : w.heap.size < wd.heap.size := by omega
        exact bodyPost_ret (v := .tuple #[Pk.val ⟨s, a, l, f % 2 != 0, f / 2 % 2 != 0, d⟩ Av cv, .int .i64 0]) (by simp [results, Try.results39, go_sem, z0, z1, z2, z3, z4, z5, *]) rfl ⟨Av, cv, rfl, OwnI.base_ (base := wd.heap.size) (by repeat (first | with_reducible exact ow2 | refine own_put ?_ hlt)) (by omega), by repeat (first | with_reducible exact bz2 | refine below_put ?_ (Nat.le_refl _))⟩
      · have HE2 : E = 2 := by rw [HE.out, if_neg h18, if_neg h64, HO.out, decide_eq_false hok, if_neg (by simp)]
        subst HE2
        have HP2 : P = Pk.zero := by rw [HP.out, if_neg (by omega)]
        subst HP2
        have hcase : 4 ≤ s ∨ (s < 4 ∧ 3 < f) ∨ (s < 4 ∧ f ≤ 3 ∧ 1125899906842624 < a) ∨ (s < 4 ∧ f ≤ 3 ∧ a ≤ 1125899906842624 ∧ 1125899906842624 < l) := by omega
        clear HE HP HO h18 h64 k1 k5 hok
        rcases hcase with h | h | h | h
        all_goals
          go_enter Try.func39, Try.ntmps39
          go_wp2_with fail
          have kb := Blk.new w 47 #[.int .i64 0, .int .i64 0, .int .i64 0, .bool false, .bool false, .slice none 0 0]
          have hbw : Below w.heap.size w (w.alloc (.cells #[.int .i64 0, .int .i64 0, .int .i64 0, .bool false, .bool false, .slice none 0 0] 47)) := below_alloc (Below.refl _ _) _
          generalize w.alloc (.cells #[.int .i64 0, .int .i64 0, .int .i64 0, .bool false, .bool false, .slice none 0 0] 47) = wb at *
          have hgl := kb.lt
          go_quiet ((go_at_call 55; (first | (with_reducible exact quiet_left (HC1.out _ (below_drewN hbw _))) | (with_reducible exact quiet_left (HC2.out _ (below_drewN hbw _))))))
          have hbd := below_drewN hbw nq
          have kbd := kb.drewN nq
          have x0b := (hbd.cell hadw).trans x0
          have x1b := (hbd.cell (p := ⟨ad.block, ad.off + 1, none⟩) hadw).trans x1'
          generalize wb.drewN nq = wd at *
          have z0 := kbd.cell 0
          have z1 := kbd.cell 1
          have z2 := kbd.cell 2
          have z3 := kbd.cell 3
          have z4 := kbd.cell 4
          have z5 := kbd.cell 5
          have y0 := kbd.frozen 0
          have y1 := kbd.frozen 1
          have y2 := kbd.frozen 2
          have y3 := kbd.frozen 3
          have y4 := kbd.frozen 4
          have y5 := kbd.frozen 5
          go_wp2
          exact bodyPost_ret (v := .tuple #[Pk.zero.val none 0, .int .i64 2]) (by simp [results, Try.results39, go_sem, Pk.zero, z0, z1, z2, z3, z4, z5]) rfl ⟨none, 0, rfl, OwnI.nil_ _ _ _ _, by repeat (first | with_reducible exact hbd | refine below_put ?_ (Nat.le_refl _))⟩
end Go.Proofs.Ytaimjlnhdobgeaa
