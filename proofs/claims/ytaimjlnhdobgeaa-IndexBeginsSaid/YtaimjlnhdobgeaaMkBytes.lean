/- index.mayPlace, index.Bytes. -/
import Derived.Test.YtaimjlnhdobgeaaMkL
import Derived.Test.YtaimjlnhdobgeaaOctPut
import Derived.Test.YtaimjlnhdobgeaaBigW
import Derived.Test.YtaimjlnhdobgeaaSum32
import Derived.Test.YtaimjlnhdobgeaaOwnLit
import Derived.Test.YtaimjlnhdobgeaaPgBytes
import Derived.Deep.DeepCutAuto
import Derived.Deep.RegionHeld3
set_option linter.unusedSimpArgs false
set_option linter.unusedVariables false
namespace Go.Proofs.Ytaimjlnhdobgeaa
open Go.RowKit

def placeB (a p : Int) : Bool := decide (0 ≤ a ∧ a ≤ 1125899906842624 ∧ 0 ≤ p ∧ p ≤ 2147483647)
theorem mayplace_any (a p : Int) (w : World) : Calls Try.prog 21 #[.int .i64 a, .int .i64 p] w fun e w' => e = .returned (.bool (placeB a p)) ∧ w = w' := by
  by_cases h0 : 0 ≤ a
  · by_cases h1 : a ≤ 1125899906842624
    · by_cases h2 : 0 ≤ p
      · by_cases h3 : p ≤ 2147483647
        · have HF := Lib.hid (show placeB a p = true by simp [placeB, h0, h1, h2, h3])
          go_enter Try.func21, Try.ntmps21
          go_wp2
          go_ret
          exact ⟨by rw [HF.out]; rfl, rfl⟩
        · have HF := Lib.hid (show placeB a p = false by simp [placeB]; omega)
          go_enter Try.func21, Try.ntmps21
          go_wp2
          go_ret
          exact ⟨by rw [HF.out]; rfl, rfl⟩
      · have HF := Lib.hid (show placeB a p = false by simp [placeB]; omega)
        go_enter Try.func21, Try.ntmps21
        go_wp2
        go_ret
        exact ⟨by rw [HF.out]; rfl, rfl⟩
    · have HF := Lib.hid (show placeB a p = false by simp [placeB]; omega)
      go_enter Try.func21, Try.ntmps21
      go_wp2
      go_ret
      exact ⟨by rw [HF.out]; rfl, rfl⟩
  · have HF := Lib.hid (show placeB a p = false by simp [placeB]; omega)
    go_enter Try.func21, Try.ntmps21
    go_wp2
    go_ret
    exact ⟨by rw [HF.out]; rfl, rfl⟩

theorem mkAll_take {l : List Mk} {k : Nat} (hk : k < l.length) : mkAll (l.take (k + 1)) = (mkAll (l.take k) && markOk l[k]) := by
  rw [mkAll, List.take_succ_eq_append_getElem hk, List.all_append]; simp [mkAll]
theorem mkAll_false {l : List Mk} {k : Nat} (hk : k < l.length) (h : markOk l[k] = false) : mkAll l = false := by
  rw [mkAll, List.all_eq_false]
  exact ⟨l[k], List.getElem_mem hk, by simp [h]⟩

set_option maxHeartbeats 8000000 in
set_option maxRecDepth 100000 in
theorem mkbytes_any {l : List Mk} {A : Option Addr} {c : Nat} {S : Nat → Prop} {w : World} (hr : RdMk w S A l) (hl : l.length ≤ 1000000) :
    Calls Try.prog 8 #[.slice A l.length c] w fun e w' => ∃ v, e = .returned (.tuple #[v, .int .i64 (mkE l)]) ∧ OwnI w' w.heap.size 5 .u8 v (mkB l) ∧ Below w.heap.size w w' := by
  have HR := Lib.hid (fun W (h : Below w.heap.size w W) => hr.below MkR.good h)
  have HP := Lib.hid (fun a p W => mayplace_any a p W)
  clear hr
  go_enter Try.func8, Try.ntmps8
  go_wp2
  go_loopw [14] (fun i wr => ∃ k : Nat, k ≤ l.length ∧ i = .int .i64 k ∧ mkAll (l.take k) = true ∧ Below w.heap.size w wr) (fun i _ => l.length - (intOf i).toNat)
  case atStart => exact ⟨0, Nat.zero_le _, rfl, rfl, Below.refl _ _⟩
  case round =>
    obtain ⟨k, hk, rfl, hall, hb⟩ := hrel
    have HAll := Lib.hid hall
    clear hall
    by_cases hlt : k < l.length
    · obtain ⟨ad, p, rfl, _, hp, e0, e1, e2, hw⟩ := RdMk.at_ (HR.out _ hb) hlt
      have HT := Lib.hid (mkAll_take hlt)
      have HF := Lib.hid (fun h => mkAll_false hlt h)
      have HO := Lib.hid (show markOk l[k] = (decide (0 ≤ l[k].st) && (decide (l[k].st < 4) && placeB l[k].at_ l[k].pg)) by rw [Bool.eq_iff_iff]; simp [markOk, placeB])
      generalize l[k] = m at *
      obtain ⟨m1, m2, m3⟩ := m
      simp only at e0 e1 e2 HO
      clear hw
      go_upto_region 4 with fail
      have km := Blk.new wr 49 #[.int .i64 m1, .int .i64 m2, .int .i64 m3]
      have bm := below_alloc hb (.cells #[.int .i64 m1, .int .i64 m2, .int .i64 m3] 49)
      generalize wr.alloc (.cells #[.int .i64 m1, .int .i64 m2, .int .i64 m3] 49) = wm at *
      have x0 := km.cell 0
      have x1 := km.cell 1
      have x2 := km.cell 2
      clear e0 e1 e2
      by_cases h1 : m1 < 0
      · have HE := Lib.hid (HF.out (by rw [HO.out, decide_eq_false (by omega)]; rfl))
        go_wp2
        go_ret2
        exact ⟨_, by (rw [mkE, HE.out]) <;> rfl, by rw [mkB, HE.out]; exact OwnI.nil_ _ _ _ _, bm⟩
      · by_cases h2 : 4 ≤ m1
        · have HE := Lib.hid (HF.out (by rw [HO.out, decide_eq_false (show ¬ m1 < 4 by omega)]; simp))
          have h1' : decide (m1 < 0) = false := decide_eq_false h1
          go_wp2
          go_ret2
          exact ⟨_, by (rw [mkE, HE.out]) <;> rfl, by rw [mkB, HE.out]; exact OwnI.nil_ _ _ _ _, bm⟩
        · have h1' : decide (m1 < 0) = false := decide_eq_false h1
          have h2' : decide (4 ≤ m1) = false := decide_eq_false h2
          have HOk := Lib.hid (HO.out.trans (by rw [decide_eq_true (show 0 ≤ m1 by omega), decide_eq_true (show m1 < 4 by omega), Bool.true_and, Bool.true_and]))
          cases hpl : placeB m2 m3 with
          | false =>
            have HE := Lib.hid (HF.out (by rw [HOk.out, hpl]))
            have HPl := Lib.hid hpl
            clear hpl
            go_wp2_with (go_at_call 21; (with_reducible refine (HP.out _ _ _).mono ?_); rintro e w2 ⟨rfl, rfl⟩; rw [HPl.out])
            go_ret2
            exact ⟨_, by (rw [mkE, HE.out]) <;> rfl, by rw [mkB, HE.out]; exact OwnI.nil_ _ _ _ _, bm⟩
          | true =>
            have HE := Lib.hid (HT.out.trans (by (rw [HAll.out, HOk.out, hpl]) <;> rfl))
            have HPl := Lib.hid hpl
            clear hpl
            go_wp2_with (go_at_call 21; (with_reducible refine (HP.out _ _ _).mono ?_); rintro e w2 ⟨rfl, rfl⟩; rw [HPl.out])
            go_roundw
            case rel => exact ⟨k + 1, by omega, by go_num, HE.out, bm⟩
            case measure => simp [intOf]; omega
    · have hkl : k = l.length := by omega
      subst hkl
      have hAll := HAll.out
      rw [List.take_length] at hAll
      have HA := Lib.hid hAll
      have HE := Lib.hid (show mkE l = 0 by rw [mkE, if_pos hAll])
      have HB := Lib.hid (show mkB l = mkBytes l by rw [mkB, if_pos hAll])
      clear hAll HAll
      have hw1 := IntWalk.i64_in (l.length : Int) (by omega)
      have hw2 : IntKind.u64.wrap (l.length : Int) = (l.length : Int) := by rw [IntKind.wrap_u64]; omega
      have HPut := Lib.hid (fun (W : World) (A : Option Addr) (c n : Nat) (xs : List Int) (hn : xs.length = n) (hn9 : n ≤ 1000) (hx : ∀ x ∈ xs, 0 ≤ x ∧ x ≤ 18446744073709551615) (hr : RdI W W.heap.size .u64 A xs) => by
        have h := put_any A c xs hx (by have := hn; omega) W hr
        rw [hn] at h
        exact h)
      go_upto_region 9 with (first
        | (go_at_call 22; (with_reducible refine (HPut.out _ _ _ 1 [(l.length : Int)] rfl (by omega) (fun x hx => by rw [List.mem_singleton] at hx; omega) ((RdI.one wr .u64 (l.length : Int) 67).more (by simp))).mono ?_); rintro e w2 ⟨v2, rfl, ho2, hb2⟩))
      have bb2 := below_then (below_alloc hb (.cells #[.int .u64 (l.length : Int)] 67)) hb2
      rw [put_one] at ho2
      have hs2 : wr.heap.size + 1 ≤ w2.heap.size := by have := hb2.size; simpa using this
      have hsr := hb.size
      have HO2 := Lib.hid ho2
      have hbs := ho2.form
      clear ho2 hbs
      obtain ⟨w1, rfl⟩ : ∃ w1 : World, w1 = wr := ⟨_, rfl⟩
      go_wp2
      go_loopw [6, 7, 8, 42] (fun o a q i wx => ∃ k : Nat, k ≤ l.length ∧ i = .int .i64 k ∧ a = .int .i64 (endAt 0 (l.take k)) ∧ q = .int .i64 (endPg 0 (l.take k)) ∧ OwnI wx w.heap.size 5 .u8 o (putOne l.length ++ mkTail 0 0 (l.take k)) ∧ Below w.heap.size w wx) (fun _ _ _ i _ => l.length - (intOf i).toNat)
      case atStart => exact ⟨0, Nat.zero_le _, rfl, rfl, rfl, by simpa [mkTail] using HO2.out.base_ (base' := w.heap.size) (by simp; omega), bb2⟩
      case round =>
        obtain ⟨k, hk, rfl, rfl, rfl, hown, hb3⟩ := hrel
        by_cases hlt : k < l.length
        · obtain ⟨ad, p, rfl, _, hp, e0, e1, e2, hw⟩ := RdMk.at_ (HR.out _ hb3) hlt
          have hok : markOk l[k] = true := List.all_eq_true.1 HA.out _ (List.getElem_mem hlt)
          have hbd := markOk_bd hok
          have hen := end_bd (l := l.take k) (List.all_eq_true.2 fun x hx => List.all_eq_true.1 HA.out x (List.mem_of_mem_take hx))
          have HT := Lib.hid (show mkTail 0 0 (l.take (k + 1)) = mkTail 0 0 (l.take k) ++ put [l[k].st, zig (l[k].at_ - endAt 0 (l.take k)), zig (l[k].pg - endPg 0 (l.take k))] by rw [List.take_succ_eq_append_getElem hlt, mkTail_snoc])
          have HEa := Lib.hid (show endAt 0 (l.take (k + 1)) = l[k].at_ by rw [List.take_succ_eq_append_getElem hlt, endAt_snoc])
          have HEp := Lib.hid (show endPg 0 (l.take (k + 1)) = l[k].pg by rw [List.take_succ_eq_append_getElem hlt, endPg_snoc])
          have hlen : (mkTail 0 0 (l.take k)).length ≤ 30000000 := by have := mkTail_len (l.take k) 0 0; rw [List.length_take] at this; omega
          have hpl := putOne_length (l.length : Int)
          generalize mkTail 0 0 (l.take k) = tl at *
          generalize endAt 0 (l.take k) = ea at *
          generalize endPg 0 (l.take k) = ep at *
          generalize l[k] = m at *
          obtain ⟨m1, m2, m3⟩ := m
          simp only at e0 e1 e2 hbd HT HEa HEp
          clear hw hok
          go_upto_region 12 with fail
          have km := Blk.new wr 49 #[.int .i64 m1, .int .i64 m2, .int .i64 m3]
          have bm : Below wr.heap.size wr (wr.alloc (.cells #[.int .i64 m1, .int .i64 m2, .int .i64 m3] 49)) := below_alloc (Below.refl _ _) _
          generalize wr.alloc (.cells #[.int .i64 m1, .int .i64 m2, .int .i64 m3] 49) = wm at *
          have x0 := km.cell 0
          have x1 := km.cell 1
          have x2 := km.cell 2
          clear e0 e1 e2
          have z1 := zig_bd (a := m2 - ea) (by omega)
          have z2 := zig_bd (a := m3 - ep) (by omega)
          have HZ := Lib.hid (fun a h1 h2 W => zig_any a h1 h2 W)
          have hm1 : IntKind.u64.wrap m1 = m1 := by rw [IntKind.wrap_u64]; omega
          have hd1 : IntKind.i64.wrap (m2 - ea) = m2 - ea := IntWalk.i64_in _ (by omega)
          have hd2 : IntKind.i64.wrap (m3 - ep) = m3 - ep := IntWalk.i64_in _ (by omega)
          go_upto_region 13 with fail
          obtain ⟨za, hza⟩ : ∃ za, za = zig (m2 - ea) := ⟨_, rfl⟩
          obtain ⟨zp, hzp⟩ : ∃ zp, zp = zig (m3 - ep) := ⟨_, rfl⟩
          rw [← hza] at z1 HT
          rw [← hzp] at z2 HT
          have HZa := Lib.hid hza
          have HZp := Lib.hid hzp
          clear hza hzp
          have rl := RdI.lit wm.drew .u64 [m1, za, zp] 67 #[.int .u64 m1, .int .u64 za, .int .u64 zp] rfl
          have bw : Below wm.heap.size wm (wm.drew.alloc (.cells #[.int .u64 m1, .int .u64 za, .int .u64 zp] 67)) := below_alloc (Below.refl _ _).drew _
          have hsz : (wm.drew.alloc (.cells #[.int .u64 m1, .int .u64 za, .int .u64 zp] 67)).heap.size = wm.heap.size + 1 := by simp
          generalize hwE : wm.drew.alloc (.cells #[.int .u64 m1, .int .u64 za, .int .u64 zp] 67) = we at rl bw hsz
          have HSz := Lib.hid hsz
          clear hsz
          have hkm := km.lt
          refine wp_region_held_drew (S := (fun w' => w'.cell? ⟨wr.heap.size, 0, none⟩ = some (.int .i64 m1) ∧ w'.cell? ⟨wr.heap.size, 1, none⟩ = some (.int .i64 m2))) (by kernel_rfl) ?_ (fun hHeld => ?_)
          focus exact ⟨x0, x1⟩
          refine wpAnyH_take (i := 0) (v := ?_) rfl (by kernel_rfl) (by kernel_rfl) (by kernel_rfl) (fun _ _ _ h => h) (Or.inl ⟨by kernel_rfl, ?_⟩) (by assumption) ?_
          rotate_left
          focus
            intro w9 hSw
            (try dsimp only at hSw)
            go_simp
            (try with_reducible rfl)
          (try simp only [Act.put, List.getElem_toArray, List.getElem_cons_succ, List.getElem_cons_zero, List.setIfInBounds_toArray, List.set_cons_zero, List.set_cons_succ])
          refine wpAnyH_take (i := 1) (v := ?_) rfl (by kernel_rfl) (by kernel_rfl) (by kernel_rfl) (fun _ _ _ h => h) (Or.inl ⟨by kernel_rfl, ?_⟩) (by assumption) ?_
          rotate_left
          focus
            intro w9 hSw
            (try dsimp only at hSw)
            go_simp
            (try with_reducible rfl)
          (try simp only [Act.put, List.getElem_toArray, List.getElem_cons_succ, List.getElem_cons_zero, List.setIfInBounds_toArray, List.set_cons_zero, List.set_cons_succ])
          refine wpAnyH_take (i := 2) (v := ?_) rfl (by kernel_rfl) (by kernel_rfl) (by kernel_rfl) (fun _ _ _ h => h) (Or.inl ⟨by kernel_rfl, ?_⟩) (by assumption) ?_
          rotate_left
          focus
            intro w9 hSw
            (try dsimp only at hSw)
            go_simp
            (try with_reducible rfl)
          (try simp only [Act.put, List.getElem_toArray, List.getElem_cons_succ, List.getElem_cons_zero, List.setIfInBounds_toArray, List.set_cons_zero, List.set_cons_succ])
          refine wpAnyH_take (i := 3) (v := ?_) rfl (by kernel_rfl) (by kernel_rfl) (by kernel_rfl) (fun _ _ _ h => h) (Or.inl ⟨by kernel_rfl, ?_⟩) (by assumption) ?_
          rotate_left
          focus
            intro w9 hSw
            (try dsimp only at hSw)
            go_simp
            (try with_reducible rfl)
          (try simp only [Act.put, List.getElem_toArray, List.getElem_cons_succ, List.getElem_cons_zero, List.setIfInBounds_toArray, List.set_cons_zero, List.set_cons_succ])
          refine wpAnyH_take (i := 4) (v := ?_) rfl (by kernel_rfl) (by kernel_rfl) (by kernel_rfl) (fun _ _ _ h => h) (Or.inl ⟨by kernel_rfl, ?_⟩) (by assumption) ?_
          rotate_left
          focus
            intro w9 hSw
            (try dsimp only at hSw)
            go_simp
            (try with_reducible rfl)
          (try simp only [Act.put, List.getElem_toArray, List.getElem_cons_succ, List.getElem_cons_zero, List.setIfInBounds_toArray, List.set_cons_zero, List.set_cons_succ])
          refine wpAnyH_take (i := 5) (v := ?_) rfl (by kernel_rfl) (by kernel_rfl) (by kernel_rfl) (fun _ _ _ h => h) (Or.inl ⟨by kernel_rfl, ?_⟩) (by assumption) ?_
          rotate_left
          focus
            intro w9 hSw
            (try dsimp only at hSw)
            go_simp
            (try with_reducible rfl)
          (try simp only [Act.put, List.getElem_toArray, List.getElem_cons_succ, List.getElem_cons_zero, List.setIfInBounds_toArray, List.set_cons_zero, List.set_cons_succ])
          refine wpAnyH_take (i := 6) (v := ?_) rfl (by kernel_rfl) (by kernel_rfl) (by kernel_rfl) (fun _ _ _ h => h) (Or.inl ⟨by kernel_rfl, ?_⟩) (by assumption) ?_
          rotate_left
          focus
            intro w9 hSw
            (try dsimp only at hSw)
            go_simp
            (try with_reducible rfl)
          (try simp only [Act.put, List.getElem_toArray, List.getElem_cons_succ, List.getElem_cons_zero, List.setIfInBounds_toArray, List.set_cons_zero, List.set_cons_succ])
          refine wpAnyH_take (i := 7) (v := ?_) rfl (by kernel_rfl) (by kernel_rfl) (by kernel_rfl) (fun _ _ _ h => h) (Or.inl ⟨by kernel_rfl, ?_⟩) (by assumption) ?_
          rotate_left
          focus
            intro w9 hSw
            (try dsimp only at hSw)
            go_simp
            (try with_reducible rfl)
          (try simp only [Act.put, List.getElem_toArray, List.getElem_cons_succ, List.getElem_cons_zero, List.setIfInBounds_toArray, List.set_cons_zero, List.set_cons_succ])
          refine wpAnyH_take (i := 9) (v := ?_) rfl (by kernel_rfl) (by kernel_rfl) (by kernel_rfl) (fun _ _ _ h => h) (Or.inl ⟨by kernel_rfl, ?_⟩) (by assumption) ?_
          rotate_left
          focus
            intro w9 hSw
            (try dsimp only at hSw)
            go_simp
            (try with_reducible rfl)
          (try simp only [Act.put, List.getElem_toArray, List.getElem_cons_succ, List.getElem_cons_zero, List.setIfInBounds_toArray, List.set_cons_zero, List.set_cons_succ])
          refine wpAnyH_take (i := 10) (v := ?_) rfl (by kernel_rfl) (by kernel_rfl) (by kernel_rfl) (fun _ _ _ h => h) (Or.inl ⟨by kernel_rfl, ?_⟩) (by assumption) ?_
          rotate_left
          focus
            intro w9 hSw
            (try dsimp only at hSw)
            go_simp
            (try with_reducible rfl)
          (try simp only [Act.put, List.getElem_toArray, List.getElem_cons_succ, List.getElem_cons_zero, List.setIfInBounds_toArray, List.set_cons_zero, List.set_cons_succ])
          refine wpAnyH_take (i := 11) (v := ?_) rfl (by kernel_rfl) (by kernel_rfl) (by kernel_rfl) (fun _ _ _ h => h) (Or.inl ⟨by kernel_rfl, ?_⟩) (by assumption) ?_
          rotate_left
          focus
            intro w9 hSw
            (try dsimp only at hSw)
            go_simp
            (try with_reducible rfl)
          (try simp only [Act.put, List.getElem_toArray, List.getElem_cons_succ, List.getElem_cons_zero, List.setIfInBounds_toArray, List.set_cons_zero, List.set_cons_succ])
          refine wpAnyH_ready (rs := [8]) (by kernel_rfl) (by simp) (AllReadyH.cons rfl (fun K hK => ?_) AllReadyH.nil)
          go_simp
          go_at_call 23
          refine (HZ.out _ (by omega) (by omega) _).mono ?_
          rintro e w3 ⟨rfl, rfl⟩
          rw [← HZa.out]
          refine hK.out _ _ ?_ (fun hHeld => ?_)
          focus exact ⟨x0, x1⟩
          clear hK K
          (try simp only [Act.put, List.getElem_toArray, List.getElem_cons_succ, List.getElem_cons_zero, List.setIfInBounds_toArray, List.set_cons_zero, List.set_cons_succ])
          refine wpAnyH_ready (rs := [12]) (by kernel_rfl) (by simp) (AllReadyH.cons rfl (fun K hK => ?_) AllReadyH.nil)
          go_simp
          go_at_call 23
          refine (HZ.out _ (by omega) (by omega) _).mono ?_
          rintro e w3 ⟨rfl, rfl⟩
          rw [← HZp.out]
          refine hK.out _ _ ?_ (fun hHeld => ?_)
          focus exact ⟨x0, x1⟩
          clear hK K
          (try simp only [Act.put, List.getElem_toArray, List.getElem_cons_succ, List.getElem_cons_zero, List.setIfInBounds_toArray, List.set_cons_zero, List.set_cons_succ])
          refine wpAnyH_ready (rs := [13]) (by kernel_rfl) (by simp) (AllReadyH.cons rfl (fun K hK => ?_) AllReadyH.nil)
          go_simp
          refine hK.out _ _ ?_ (fun hHeld => ?_)
          focus exact ⟨(km.below bw hkm).cell 0, (km.below bw hkm).cell 1⟩
          clear hK K
          (try simp only [Act.put, List.getElem_toArray, List.getElem_cons_succ, List.getElem_cons_zero, List.setIfInBounds_toArray, List.set_cons_zero, List.set_cons_succ])
          refine wpAnyH_ready (rs := [14]) (by kernel_rfl) (by simp) (AllReadyH.cons rfl (fun K hK => ?_) AllReadyH.nil)
          go_simp
          go_at_call 22
          refine (HPut.out we (some ⟨wm.heap.size, 0, none⟩) 3 3 [m1, za, zp] rfl (by omega) (fun x hx => by simp at hx; omega) (rl.more (by have := HSz.out; simp; omega))).mono ?_
          rintro e w4 ⟨v4, rfl, ho4, hb4⟩
          have bw4 := below_then bw hb4
          have hs4 := bw4.size
          obtain ⟨A4, c4, rfl, hc4, hr4, _⟩ := ho4.form
          have hsm := bm.size
          have hsr3 := hb3.size
          have own4 := (hown.below bm).below bw4
          refine hK.out _ _ ?_ (fun hHeld => ?_)
          focus exact ⟨(km.below bw4 hkm).cell 0, (km.below bw4 hkm).cell 1⟩
          clear hK K
          (try simp only [Act.put, List.getElem_toArray, List.getElem_cons_succ, List.getElem_cons_zero, List.setIfInBounds_toArray, List.set_cons_zero, List.set_cons_succ])
          refine wpAnyH_ready (rs := [15]) (by kernel_rfl) (by simp) (AllReadyH.cons rfl (fun K hK => ?_) AllReadyH.nil)
          refine step_append_int _ (by rfl) (.tmp 48) (.tmp 62) _ (by rfl) w4 w.heap.size w.heap.size 5 .u8 1 Try.underlying27 info_u8 _ (putOne l.length ++ tl) (by rfl) (by exact own4) _ A4 _ c4 (put [m1, za, zp]) (by rfl) (by rfl) (by exact hr4) (by have := put_length [m1, za, zp]; simp at this ⊢; omega) (by omega) (by exact Below.refl _ _) (Nat.le_refl _) (by omega) ?_
          intro v5 w5 ow5 bw5 hg5 _
          have bz5 : Below w.heap.size w w5 := (below_then hb3 (below_then bm bw4)).trans bw5
          have km5 := (km.below bw4 hkm).grown hg5 (fun e => by have := (World.ownsRow.lt hown _ e.symm).2; omega)
          have y1 := km5.cell 1
          refine hK.out _ _ ?_ (fun hHeld => ?_)
          focus exact ⟨km5.cell 0, km5.cell 1⟩
          clear hK K
          (try simp only [Act.put, List.getElem_toArray, List.getElem_cons_succ, List.getElem_cons_zero, List.setIfInBounds_toArray, List.set_cons_zero, List.set_cons_succ])
          refine wpAnyH_take (i := 16) (v := ?_) rfl (by kernel_rfl) (by kernel_rfl) (by kernel_rfl) (fun _ _ _ h => h) (Or.inl ⟨by kernel_rfl, ?_⟩) (by assumption) ?_
          rotate_left
          focus
            intro w9 hSw
            (try dsimp only at hSw)
            go_simp
            (try with_reducible rfl)
          (try simp only [Act.put, List.getElem_toArray, List.getElem_cons_succ, List.getElem_cons_zero, List.setIfInBounds_toArray, List.set_cons_zero, List.set_cons_succ])
          refine wpAnyH_done (by kernel_rfl) ?_ _
          (try simp only [Act.put, List.getElem_toArray, List.getElem_cons_succ, List.getElem_cons_zero, List.setIfInBounds_toArray, List.set_cons_zero, List.set_cons_succ])
          clear x0 x1 x2
          go_wp2
          go_roundw
          case rel => exact ⟨k + 1, by omega, by go_num, by rw [HEa.out], by rw [HEp.out], by rw [HT.out, ← List.append_assoc]; exact ow5, bz5⟩
          case measure => simp [intOf]; omega
        · have hkl : k = l.length := by omega
          subst hkl
          rw [List.take_length] at hown
          have hhb := mkHead_bytes HA.out hl
          have hhl := (mkHead_len l).2
          have HH := Lib.hid (show mkBytes l = (putOne l.length ++ mkTail 0 0 l) ++ bg (crc (putOne l.length ++ mkTail 0 0 l)) 4 from rfl)
          have hh2 : mkHead l = putOne l.length ++ mkTail 0 0 l := rfl
          rw [hh2] at hhb hhl
          generalize putOne (l.length : Int) ++ mkTail 0 0 l = h at *
          clear hh2
          obtain ⟨A6, c6, rfl, hc6, hr6, _⟩ := hown.form
          have HC := Lib.hid (thirtytwo_any (c := c6) hhb hr6 (by omega))
          have hcb := crc_bd h
          have HBig := Lib.hid (fun W => big4_any (crc h) hcb.1 (by omega) W)
          have hcw : IntKind.u64.wrap (crc h) = crc h := by rw [IntKind.wrap_u64]; omega
          have hbl := bg_len (crc h) 4
          have hbl4 : (bg (crc h) 4).length ≤ 4 := by omega
          generalize bg (crc h) 4 = s4 at *
          generalize crc h = ch at *
          clear hbl hhb
          have hsz := hb3.size
          go_wp2_with (first
            | (go_at_call 25; (with_reducible refine HC.out.mono ?_); rintro e w5 ⟨rfl, rfl⟩)
            | (go_at_call 24; (with_reducible refine (HBig.out _).mono ?_); rintro e w6 ⟨v6, rfl, ho6, hb6⟩; obtain ⟨A7, c7, rfl, hc7, hr7, _⟩ := ho6.form)
            | (at_builtin; (refine wpList_append_int _ rfl (.tmp 68) (.tmp 72) _ rfl w6 w.heap.size w.heap.size 5 .u8 1 Try.underlying27 info_u8 _ h rfl (hown.below hb6) _ A7 _ c7 s4 rfl rfl hr7 (by omega) (by omega) (Below.refl _ _) (Nat.le_refl _) (by have := hb6.size; omega) ?_); intro v7 w7 ow7 bw7))
          go_ret2
          rw [HE.out, HB.out, HH.out]
          exact ⟨_, rfl, ow7, (below_then hb3 hb6).trans bw7⟩
end Go.Proofs.Ytaimjlnhdobgeaa
