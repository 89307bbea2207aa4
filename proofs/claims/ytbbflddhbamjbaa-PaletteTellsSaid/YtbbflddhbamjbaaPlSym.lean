/- slices.symMergeCmpFunc at numbers below N + 1 (printed by gensrtint2.py). -/
import Derived.Test.YtbbflddhbamjbaaPlSrt
import Derived.Deep.CutBlock
set_option linter.unusedSimpArgs false
set_option linter.unusedVariables false
namespace Go.Proofs.Ytbbflddhbamjbaa
open Go.RowKit
variable {N : Nat}

/-- What merging leaves. -/
def SymPost (ct : List Int) (w : World) (gb : Nat) (P l1 l2 R : List (SI N)) (tl : List Value) (e : Ending) (w' : World) : Prop :=
  e = .returned (.tuple #[]) ∧ ∃ l', SRow w' gb (P ++ (l' ++ R)) tl ∧ l'.length = l1.length + l2.length ∧ Srt (ltC ct) (l1 ++ l2) l' ∧ Srd (ltC ct) l' ∧ Mod (· = gb) w w'

set_option maxHeartbeats 16000000 in
set_option maxRecDepth 100000 in
/-- .. where the first row is one element. -/
theorem symA_any {w : World} {gb bx gc : Nat} {ct : List Int} {P l2 R : List (SI N)} {x : SI N} {tl : List Value} {L : Nat} (hct : CtR N w bx gc ct) (hne : gb ≠ bx ∧ gb ≠ gc) (hNN : N ≤ 1000000) (h2 : Srd (ltC ct) l2) (hR0 : SRow w gb (P ++ ([x] ++ (l2 ++ R))) tl) (hL : (P ++ ([x] ++ (l2 ++ R))).length = L) (c : Nat) (hl : L ≤ 4000000000) (hc : L ≤ c) {a m b : Nat} (ha : a = P.length) (hm : m = a + 1) (hb : b = m + l2.length) :
    Calls Try.prog 80 #[.slice (some ⟨gb, 0, none⟩) L c, .int .i64 a, .int .i64 m, .int .i64 b, .func (.func 51) #[] #[.pointer (some ⟨bx, 0, none⟩)]] w (SymPost ct w gb P [x] l2 R tl) := by
  have HC := Lib.hid (fun (x y : SI N) W (hW : Mod (· = gb) w W) => less3_any (hct.mod hW (fun e => hne.1 e.symm) (fun e => hne.2 e.symm)) x y hNN)
  have HCw := Lib.hid (fun W (hW : Mod (· = gb) w W) => hct.mod hW (fun e => hne.1 e.symm) (fun e => hne.2 e.symm))
  clear hct
  have hLL := hL
  simp only [List.length_append, List.length_cons, List.length_nil] at hLL
  have hbL : b ≤ L := by omega
  have e1 : IntKind.i64.wrap ((m : Int) - (a : Int)) = 1 := by rw [IntWalk.i64_in _ (by omega)]; omega
  have hmb : m ≤ b := by omega
  have hma : 1 ≤ m ∧ a < m := by omega
  have haL : a < L := by omega
  have HH := Lib.hid hR0
  have HA := Lib.hid (⟨ha, hm, hb, hL⟩ : a = P.length ∧ m = a + 1 ∧ b = m + l2.length ∧ (P ++ ([x] ++ (l2 ++ R))).length = L)
  have HX0 := Lib.hid (show (P ++ ([x] ++ (l2 ++ R))).getD a spz = x by rw [ha]; exact getD_mid P x (l2 ++ R))
  have HS2 := Lib.hid h2
  clear hLL ha hm hb hL hR0 h2
  go_enter Try.func80, Try.ntmps80
  go_wp2_with (fail)
  go_loopw [10, 11] (fun iv jv wr => ∃ (i j : Nat), iv = .int .i64 (i : Int) ∧ jv = .int .i64 (j : Int) ∧ m ≤ i ∧ i ≤ j ∧ j ≤ b ∧ (i = m ∨ (ltC ct) (l2.getD (i - m - 1) spz) x = true) ∧ (j = b ∨ (ltC ct) (l2.getD (j - m) spz) x = false) ∧ SRow wr gb (P ++ ([x] ++ (l2 ++ R))) tl ∧ Mod (· = gb) w wr) (fun iv jv _ => (intOf jv - intOf iv).toNat)
  case atStart => exact ⟨m, b, rfl, rfl, by omega, by omega, by omega, .inl rfl, .inl rfl, HH.out, Mod.refl _ _⟩
  case round =>
    obtain ⟨i, j, rfl, rfl, hmi, hij, hjb, hlo, hhi, hR, hM⟩ := hrel
    have HLo := Lib.hid hlo
    have HHi := Lib.hid hhi
    clear hlo hhi
    by_cases hlt : i < j
    · have hltz : (i : Int) < (j : Int) := by omega
      obtain ⟨k, hk⟩ : ∃ k, (i + j) / 2 = k := ⟨_, rfl⟩
      have hkz : ((i : Int) + (j : Int)) / 2 = (k : Int) := by omega
      have hki : i ≤ k ∧ k < j := by omega
      have hkL : k < L := by omega
      obtain ⟨y, hy⟩ : ∃ y, l2.getD (k - m) spz = y := ⟨_, rfl⟩
      have hya : (P ++ ([x] ++ (l2 ++ R))).getD k spz = y := by
        rw [← hy]
        obtain ⟨h1, h2, h3, h4⟩ := HA.out
        exact gd_l2 P [x] l2 R (by omega) (by simp; omega)
      have x0 := hR.at_ (by rw [HA.out.2.2.2]; exact haL) HX0.out
      have y0 := hR.at_ (by rw [HA.out.2.2.2]; exact hkL) hya
      have HY := Lib.hid hy
      have HR := Lib.hid hR
      have HM := Lib.hid hM
      have HC1 := Lib.hid (fun W h => HC.out y x W h)
      have HLt := Lib.hid (show (ltC ct) y x = decide (cfC ct y x < 0) from rfl)
      clear hR hM hya hy hk
      generalize cfC ct y x = cf at *
      go_wp2_with (fail)
      refine wp_region_held_drew (S := (fun w' => Below wr.heap.size wr w')) (by kernel_rfl) ?_ (fun hHeld => ?_)
      focus exact (Below.refl _ _).drew
      refine wpAnyH_take (i := 0) (v := ?_) rfl (by kernel_rfl) (by kernel_rfl) (by kernel_rfl) (fun _ _ _ h => h) (Or.inl ⟨by kernel_rfl, ?_⟩) (by assumption) ?_
      rotate_left
      focus
        intro w9 hSw
        (try dsimp only at hSw)
        have zK : ∀ {a9 : Addr} {u9 : Value}, wr.cell? a9 = some u9 → w9.cell? a9 = some u9 := fun {a9} {u9} h9 => (hSw.cell (World.block_lt_of_cell? wr a9 h9)).trans h9
        have z0 := zK x0
        have z1 := zK y0
        clear zK hSw
        go_simp
        (try with_reducible rfl)
      (try simp only [Act.put, List.getElem_toArray, List.getElem_cons_succ, List.getElem_cons_zero, List.setIfInBounds_toArray, List.set_cons_zero, List.set_cons_succ])
      refine wpAnyH_take (i := 1) (v := ?_) rfl (by kernel_rfl) (by kernel_rfl) (by kernel_rfl) (fun _ _ _ h => h) (Or.inl ⟨by kernel_rfl, ?_⟩) (by assumption) ?_
      rotate_left
      focus
        intro w9 hSw
        (try dsimp only at hSw)
        have zK : ∀ {a9 : Addr} {u9 : Value}, wr.cell? a9 = some u9 → w9.cell? a9 = some u9 := fun {a9} {u9} h9 => (hSw.cell (World.block_lt_of_cell? wr a9 h9)).trans h9
        have z0 := zK x0
        have z1 := zK y0
        clear zK hSw
        go_simp
        (try with_reducible rfl)
      (try simp only [Act.put, List.getElem_toArray, List.getElem_cons_succ, List.getElem_cons_zero, List.setIfInBounds_toArray, List.set_cons_zero, List.set_cons_succ])
      refine wpAnyH_take (i := 2) (v := ?_) rfl (by kernel_rfl) (by kernel_rfl) (by kernel_rfl) (fun _ _ _ h => h) (Or.inl ⟨by kernel_rfl, ?_⟩) (by assumption) ?_
      rotate_left
      focus
        intro w9 hSw
        (try dsimp only at hSw)
        have zK : ∀ {a9 : Addr} {u9 : Value}, wr.cell? a9 = some u9 → w9.cell? a9 = some u9 := fun {a9} {u9} h9 => (hSw.cell (World.block_lt_of_cell? wr a9 h9)).trans h9
        have z0 := zK x0
        have z1 := zK y0
        clear zK hSw
        go_simp
        (try with_reducible rfl)
      (try simp only [Act.put, List.getElem_toArray, List.getElem_cons_succ, List.getElem_cons_zero, List.setIfInBounds_toArray, List.set_cons_zero, List.set_cons_succ])
      refine wpAnyH_take (i := 3) (v := ?_) rfl (by kernel_rfl) (by kernel_rfl) (by kernel_rfl) (fun _ _ _ h => h) (Or.inl ⟨by kernel_rfl, ?_⟩) (by assumption) ?_
      rotate_left
      focus
        intro w9 hSw
        (try dsimp only at hSw)
        have zK : ∀ {a9 : Addr} {u9 : Value}, wr.cell? a9 = some u9 → w9.cell? a9 = some u9 := fun {a9} {u9} h9 => (hSw.cell (World.block_lt_of_cell? wr a9 h9)).trans h9
        have z0 := zK x0
        have z1 := zK y0
        clear zK hSw
        go_simp
        (try with_reducible rfl)
      (try simp only [Act.put, List.getElem_toArray, List.getElem_cons_succ, List.getElem_cons_zero, List.setIfInBounds_toArray, List.set_cons_zero, List.set_cons_succ])
      refine wpAnyH_take (i := 4) (v := ?_) rfl (by kernel_rfl) (by kernel_rfl) (by kernel_rfl) (fun _ _ _ h => h) (Or.inl ⟨by kernel_rfl, ?_⟩) (by assumption) ?_
      rotate_left
      focus
        intro w9 hSw
        (try dsimp only at hSw)
        have zK : ∀ {a9 : Addr} {u9 : Value}, wr.cell? a9 = some u9 → w9.cell? a9 = some u9 := fun {a9} {u9} h9 => (hSw.cell (World.block_lt_of_cell? wr a9 h9)).trans h9
        have z0 := zK x0
        have z1 := zK y0
        clear zK hSw
        go_simp
        (try with_reducible rfl)
      (try simp only [Act.put, List.getElem_toArray, List.getElem_cons_succ, List.getElem_cons_zero, List.setIfInBounds_toArray, List.set_cons_zero, List.set_cons_succ])
      refine wpAnyH_take (i := 5) (v := ?_) rfl (by kernel_rfl) (by kernel_rfl) (by kernel_rfl) (fun _ _ _ h => h) (Or.inl ⟨by kernel_rfl, ?_⟩) (by assumption) ?_
      rotate_left
      focus
        intro w9 hSw
        (try dsimp only at hSw)
        have zK : ∀ {a9 : Addr} {u9 : Value}, wr.cell? a9 = some u9 → w9.cell? a9 = some u9 := fun {a9} {u9} h9 => (hSw.cell (World.block_lt_of_cell? wr a9 h9)).trans h9
        have z0 := zK x0
        have z1 := zK y0
        clear zK hSw
        go_simp
        (try with_reducible rfl)
      (try simp only [Act.put, List.getElem_toArray, List.getElem_cons_succ, List.getElem_cons_zero, List.setIfInBounds_toArray, List.set_cons_zero, List.set_cons_succ])
      refine wpAnyH_take (i := 6) (v := ?_) rfl (by kernel_rfl) (by kernel_rfl) (by kernel_rfl) (fun _ _ _ h => h) (Or.inl ⟨by kernel_rfl, ?_⟩) (by assumption) ?_
      rotate_left
      focus
        intro w9 hSw
        (try dsimp only at hSw)
        have zK : ∀ {a9 : Addr} {u9 : Value}, wr.cell? a9 = some u9 → w9.cell? a9 = some u9 := fun {a9} {u9} h9 => (hSw.cell (World.block_lt_of_cell? wr a9 h9)).trans h9
        have z0 := zK x0
        have z1 := zK y0
        clear zK hSw
        go_simp
        (try with_reducible rfl)
      (try simp only [Act.put, List.getElem_toArray, List.getElem_cons_succ, List.getElem_cons_zero, List.setIfInBounds_toArray, List.set_cons_zero, List.set_cons_succ])
      refine wpAnyH_take (i := 7) (v := ?_) rfl (by kernel_rfl) (by kernel_rfl) (by kernel_rfl) (fun _ _ _ h => h) (Or.inl ⟨by kernel_rfl, ?_⟩) (by assumption) ?_
      rotate_left
      focus
        intro w9 hSw
        (try dsimp only at hSw)
        have zK : ∀ {a9 : Addr} {u9 : Value}, wr.cell? a9 = some u9 → w9.cell? a9 = some u9 := fun {a9} {u9} h9 => (hSw.cell (World.block_lt_of_cell? wr a9 h9)).trans h9
        have z0 := zK x0
        have z1 := zK y0
        clear zK hSw
        go_simp
        (try with_reducible rfl)
      (try simp only [Act.put, List.getElem_toArray, List.getElem_cons_succ, List.getElem_cons_zero, List.setIfInBounds_toArray, List.set_cons_zero, List.set_cons_succ])
      refine wpAnyH_take (i := 8) (v := ?_) rfl (by kernel_rfl) (by kernel_rfl) (by kernel_rfl) (fun _ _ _ h => h) (Or.inl ⟨by kernel_rfl, ?_⟩) (by assumption) ?_
      rotate_left
      focus
        intro w9 hSw
        (try dsimp only at hSw)
        have zK : ∀ {a9 : Addr} {u9 : Value}, wr.cell? a9 = some u9 → w9.cell? a9 = some u9 := fun {a9} {u9} h9 => (hSw.cell (World.block_lt_of_cell? wr a9 h9)).trans h9
        have z0 := zK x0
        have z1 := zK y0
        clear zK hSw
        go_simp
        (try with_reducible rfl)
      (try simp only [Act.put, List.getElem_toArray, List.getElem_cons_succ, List.getElem_cons_zero, List.setIfInBounds_toArray, List.set_cons_zero, List.set_cons_succ])
      refine wpAnyH_ready (rs := [9]) (by kernel_rfl) (by simp) (AllReadyH.cons rfl (fun K hK => ?_) AllReadyH.nil)
      go_simp
      go_at_call 51
      refine (HC1.out _ HM.out.drew).mono ?_
      rintro e wc ⟨rfl, hbc'⟩
      have hbc := below_undr hbc'
      refine hK.out _ _ ?_ (fun hHeld => ?_)
      focus exact hbc
      clear hK K
      (try simp only [Act.put, List.getElem_toArray, List.getElem_cons_succ, List.getElem_cons_zero, List.setIfInBounds_toArray, List.set_cons_zero, List.set_cons_succ])
      refine wpAnyH_take (i := 10) (v := ?_) rfl (by kernel_rfl) (by kernel_rfl) (by kernel_rfl) (fun _ _ _ h => h) (Or.inl ⟨by kernel_rfl, ?_⟩) (by assumption) ?_
      rotate_left
      focus
        intro w9 hSw
        (try dsimp only at hSw)
        go_simp
        (try with_reducible rfl)
      (try simp only [Act.put, List.getElem_toArray, List.getElem_cons_succ, List.getElem_cons_zero, List.setIfInBounds_toArray, List.set_cons_zero, List.set_cons_succ])
      refine wpAnyH_done (by kernel_rfl) ?_ _
      (try simp only [Act.put, List.getElem_toArray, List.getElem_cons_succ, List.getElem_cons_zero, List.setIfInBounds_toArray, List.set_cons_zero, List.set_cons_succ])
      have hRc := HR.out.below hbc
      have hMc := HM.out.then_ (Mod.of_fresh (M := (· = gb)) hbc)
      have HRc := Lib.hid hRc
      have HMc := Lib.hid hMc
      clear hRc hMc x0 y0 hHeld hbc' hbc HC1
      by_cases hcf : cf < 0
      · have hq9 : decide (cf < 0) = true := decide_eq_true hcf
        go_wp2_with (fail)
        go_roundw
        case rel =>
          refine ⟨k + 1, j, by go_num, rfl, by omega, by omega, hjb, .inr ?_, HHi.out, HRc.out, HMc.out⟩
          rw [show k + 1 - m - 1 = k - m by omega, HY.out, HLt.out]; exact decide_eq_true hcf
        case measure => simp [intOf]; omega
      · have hq9 : decide (cf < 0) = false := decide_eq_false hcf
        go_wp2_with (fail)
        go_roundw
        case rel =>
          refine ⟨i, k, rfl, rfl, hmi, by omega, by omega, HLo.out, .inr ?_, HRc.out, HMc.out⟩
          rw [HY.out, HLt.out]; exact decide_eq_false hcf
        case measure => simp [intOf]; omega
    · have hije : i = j := by omega
      subst hije
      have hltz : ¬ (i : Int) < (i : Int) := by omega
      obtain ⟨t, ht⟩ : ∃ t, t = l2.take (i - m) := ⟨_, rfl⟩
      obtain ⟨u, hu⟩ : ∃ u, u = l2.drop (i - m) := ⟨_, rfl⟩
      have htu : l2 = t ++ u := by rw [ht, hu, List.take_append_drop]
      have htl : t.length = i - m := by
        obtain ⟨h1, h2, h3, h4⟩ := HA.out
        rw [ht, List.length_take]; omega
      have HE := Lib.hid (⟨htu, htl⟩ : l2 = t ++ u ∧ t.length = i - m)
      have HF := Lib.hid (show Srt (ltC ct) ([x] ++ l2) (t ++ (x :: u)) ∧ Srd (ltC ct) (t ++ (x :: u)) by
        obtain ⟨h1, h2, h3, h4⟩ := HA.out
        have k1 := bs_lt (ltC_leO ct) HS2.out (k := i - m) (by omega) (HLo.out.imp (fun h => by omega) id)
        have k2 := bs_nlt (ltC_leO ct) HS2.out (k := i - m) (by omega) (HHi.out.imp (fun h => by omega) id)
        rw [← ht] at k1
        rw [← hu] at k2
        have k3 := HS2.out
        rw [htu] at k3 ⊢
        exact ins_ok2 (ltC_leO ct) k3 k1 k2)
      have HR := Lib.hid hR
      have HM := Lib.hid hM
      have hi9 : i ≤ 4000000000 ∧ 1 ≤ i := by omega
      clear ht hu htu htl hR hM HLo HHi hij
      go_wp2_with (fail)
      go_loopw [13] (fun kv wr => ∃ (k : Nat) (t1 t2 : List (SI N)), kv = .int .i64 (k : Int) ∧ k = a + t1.length ∧ t = t1 ++ t2 ∧ SRow wr gb (P ++ (t1 ++ (x :: (t2 ++ (u ++ R))))) tl ∧ Mod (· = gb) w wr) (fun kv _ => ((i : Int) - intOf kv).toNat)
      case atStart =>
        refine ⟨a, [], t, rfl, rfl, rfl, ?_, HM.out⟩
        have h9 := HR.out
        rw [HE.out.1] at h9
        simpa using h9
      case round =>
        obtain ⟨k, t1, t2, rfl, hk, ht, hR, hM⟩ := hrel
        have hlt2 := congrArg List.length ht
        rw [HE.out.2, List.length_append] at hlt2
        have hm1 := HA.out.2.1
        cases t2 with
        | nil =>
          have hki : ¬ (k : Int) < (i : Int) - 1 := by simp at hlt2; omega
          have HT := Lib.hid ht
          clear hk ht hlt2 hm1
          go_wp2_with (fail)
          go_end0
          refine ⟨rfl, t ++ (x :: u), ?_, ?_, HF.out.1, HF.out.2, hM⟩
          · have e := HT.out
            rw [List.append_nil] at e
            rw [e]
            simpa using hR
          · rw [HE.out.1]; simp; omega
        | cons y t2 =>
          simp only [List.length_cons] at hlt2
          have hki : (k : Int) < (i : Int) - 1 := by omega
          obtain ⟨q, hq⟩ : ∃ q, k + 1 = q := ⟨_, rfl⟩
          have hkq : (k : Int) + 1 = (q : Int) := by omega
          have hqL : q < L := by omega
          have hkL : k < L := by omega
          have hne : k ≠ q := by omega
          have hkP : k = (P ++ t1).length := by rw [hk, HA.out.1]; simp
          have HXi := Lib.hid (show (P ++ (t1 ++ (x :: (y :: t2 ++ (u ++ R))))).getD k spz = x by rw [← List.append_assoc, hkP]; exact getD_mid _ _ _)
          have HXj := Lib.hid (show (P ++ (t1 ++ (x :: (y :: t2 ++ (u ++ R))))).getD q spz = y by
            rw [show P ++ (t1 ++ (x :: (y :: t2 ++ (u ++ R)))) = (P ++ t1 ++ [x]) ++ (y :: (t2 ++ (u ++ R))) by simp, show q = (P ++ t1 ++ [x]).length by rw [← hq, hkP]; simp; omega]
            exact getD_mid _ _ _)
          have HLn : (P ++ (t1 ++ (x :: (y :: t2 ++ (u ++ R))))).length = L := by
            rw [← HA.out.2.2.2, HE.out.1, ht]; simp; omega
          have HPl := Lib.hid (show k < (P ++ (t1 ++ (x :: (y :: t2 ++ (u ++ R))))).length ∧ q < (P ++ (t1 ++ (x :: (y :: t2 ++ (u ++ R))))).length by rw [HLn]; exact ⟨hkL, hqL⟩)
          have HSW := Lib.hid (show swp (P ++ (t1 ++ (x :: (y :: t2 ++ (u ++ R))))) k q = P ++ ((t1 ++ [y]) ++ (x :: (t2 ++ (u ++ R)))) by
            rw [show P ++ (t1 ++ (x :: (y :: t2 ++ (u ++ R)))) = (P ++ t1) ++ (x :: ([] ++ (y :: (t2 ++ (u ++ R))))) by simp, swp_mid (P ++ t1) [] (t2 ++ (u ++ R)) x y hkP (by rw [← hq, hkP]; simp)]
            simp)
          have HT := Lib.hid ht
          have HK := Lib.hid (⟨hk, hq⟩ : k = a + t1.length ∧ k + 1 = q)
          clear ht hk hq hlt2 hm1 hkP HLn
          have x0 := hR.at_ HPl.out.1 HXi.out
          have y0 := hR.at_ HPl.out.2 HXj.out
          have f0 := hR.fz k
          have g0 := hR.fz q
          have HR := Lib.hid hR
          have HM := Lib.hid hM
          clear hR hM
          go_wp2_with (fail)
          have hmx : Try.prog.follows .mixedOrders = true := by kernel_rfl
          go_big_region_o
          go_wp2
          go_roundw
          case rel =>
            have h2 := (HR.out.put HPl.out.1 y).put (j := q) (by rw [List.length_set]; exact HPl.out.2) x
            have h3 := HSW.out
            rw [swp, HXi.out, HXj.out] at h3
            rw [h3] at h2
            have h4 := HM.out.then_ ((SRow.putM wr gb k y).then_ (SRow.putM _ gb q x))
            exact ⟨q, t1 ++ [y], t2, by go_num, by have := HK.out; simp; omega, by rw [HT.out]; simp, SRow.drew h2, h4.drew⟩
          case measure => have := HK.out; simp [intOf]; omega

set_option maxHeartbeats 16000000 in
set_option maxRecDepth 100000 in
/-- .. where the second row is one element. -/
theorem symB_any {w : World} {gb bx gc : Nat} {ct : List Int} {P l1 R : List (SI N)} {x : SI N} {tl : List Value} {L : Nat} (hct : CtR N w bx gc ct) (hne : gb ≠ bx ∧ gb ≠ gc) (hNN : N ≤ 1000000) (h1 : Srd (ltC ct) l1) (h11 : l1.length ≠ 1) (hR0 : SRow w gb (P ++ (l1 ++ ([x] ++ R))) tl) (hL : (P ++ (l1 ++ ([x] ++ R))).length = L) (c : Nat) (hl : L ≤ 4000000000) (hc : L ≤ c) {a m b : Nat} (ha : a = P.length) (hm : m = a + l1.length) (hb : b = m + 1) :
    Calls Try.prog 80 #[.slice (some ⟨gb, 0, none⟩) L c, .int .i64 a, .int .i64 m, .int .i64 b, .func (.func 51) #[] #[.pointer (some ⟨bx, 0, none⟩)]] w (SymPost ct w gb P l1 [x] R tl) := by
  have HC := Lib.hid (fun (x y : SI N) W (hW : Mod (· = gb) w W) => less3_any (hct.mod hW (fun e => hne.1 e.symm) (fun e => hne.2 e.symm)) x y hNN)
  have HCw := Lib.hid (fun W (hW : Mod (· = gb) w W) => hct.mod hW (fun e => hne.1 e.symm) (fun e => hne.2 e.symm))
  clear hct
  have hLL := hL
  simp only [List.length_append, List.length_cons, List.length_nil] at hLL
  have hmL : m < L := by omega
  have e1 : (IntKind.i64.wrap ((m : Int) - (a : Int)) == 1) = false := by rw [IntWalk.i64_in _ (by omega)]; exact beq_false_of_ne (by omega)
  have e1' : ((m : Int) - (a : Int) == 1) = false := beq_false_of_ne (by omega)
  have e2 : IntKind.i64.wrap ((b : Int) - (m : Int)) = 1 := by rw [IntWalk.i64_in _ (by omega)]; omega
  have ham : a ≤ m := by omega
  have HH := Lib.hid hR0
  have HA := Lib.hid (⟨ha, hm, hb, hL⟩ : a = P.length ∧ m = a + l1.length ∧ b = m + 1 ∧ (P ++ (l1 ++ ([x] ++ R))).length = L)
  have HX0 := Lib.hid (show (P ++ (l1 ++ ([x] ++ R))).getD m spz = x by rw [← List.append_assoc, show m = (P ++ l1).length by rw [hm, ha]; simp]; exact getD_mid (P ++ l1) x R)
  have HS2 := Lib.hid h1
  have hb9 : b ≤ 4000000000 := by omega
  clear hLL ha hm hb hL hR0 h1 h11
  go_enter Try.func80, Try.ntmps80
  go_wp2_with (fail)
  go_loopw [14, 15] (fun iv jv wr => ∃ (i j : Nat), iv = .int .i64 (i : Int) ∧ jv = .int .i64 (j : Int) ∧ a ≤ i ∧ i ≤ j ∧ j ≤ m ∧ (i = a ∨ (ltC ct) x (l1.getD (i - a - 1) spz) = false) ∧ (j = m ∨ (ltC ct) x (l1.getD (j - a) spz) = true) ∧ SRow wr gb (P ++ (l1 ++ ([x] ++ R))) tl ∧ Mod (· = gb) w wr) (fun iv jv _ => (intOf jv - intOf iv).toNat)
  case atStart => exact ⟨a, m, rfl, rfl, by omega, by omega, by omega, .inl rfl, .inl rfl, HH.out, Mod.refl _ _⟩
  case round =>
    obtain ⟨i, j, rfl, rfl, hmi, hij, hjb, hlo, hhi, hR, hM⟩ := hrel
    have HLo := Lib.hid hlo
    have HHi := Lib.hid hhi
    clear hlo hhi
    by_cases hlt : i < j
    · have hltz : (i : Int) < (j : Int) := by omega
      obtain ⟨k, hk⟩ : ∃ k, (i + j) / 2 = k := ⟨_, rfl⟩
      have hkz : ((i : Int) + (j : Int)) / 2 = (k : Int) := by omega
      have hki : i ≤ k ∧ k < j := by omega
      have hkL : k < L := by omega
      obtain ⟨y, hy⟩ : ∃ y, l1.getD (k - a) spz = y := ⟨_, rfl⟩
      have hya : (P ++ (l1 ++ ([x] ++ R))).getD k spz = y := by
        rw [← hy]
        obtain ⟨h1, h2, h3, h4⟩ := HA.out
        exact gd_l1 P l1 ([x] ++ R) (by omega) (by omega)
      have x0 := hR.at_ (by rw [HA.out.2.2.2]; exact hmL) HX0.out
      have y0 := hR.at_ (by rw [HA.out.2.2.2]; exact hkL) hya
      have HY := Lib.hid hy
      have HR := Lib.hid hR
      have HM := Lib.hid hM
      have HC1 := Lib.hid (fun W h => HC.out x y W h)
      have HLt := Lib.hid (show (ltC ct) x y = decide (cfC ct x y < 0) from rfl)
      clear hR hM hya hy hk
      generalize cfC ct x y = cf at *
      by_cases hcf : cf < 0
      · have hq9 : decide (cf < 0) = true := decide_eq_true hcf
        go_wp2_with (fail)
        refine wp_region_held_drew (S := (fun w' => Below wr.heap.size wr w')) (by kernel_rfl) ?_ (fun hHeld => ?_)
        focus exact (Below.refl _ _).drew
        refine wpAnyH_take (i := 0) (v := ?_) rfl (by kernel_rfl) (by kernel_rfl) (by kernel_rfl) (fun _ _ _ h => h) (Or.inl ⟨by kernel_rfl, ?_⟩) (by assumption) ?_
        rotate_left
        focus
          intro w9 hSw
          (try dsimp only at hSw)
          have zK : ∀ {a9 : Addr} {u9 : Value}, wr.cell? a9 = some u9 → w9.cell? a9 = some u9 := fun {a9} {u9} h9 => (hSw.cell (World.block_lt_of_cell? wr a9 h9)).trans h9
          have z0 := zK x0
          have z1 := zK y0
          clear zK hSw
          go_simp
          (try with_reducible rfl)
        (try simp only [Act.put, List.getElem_toArray, List.getElem_cons_succ, List.getElem_cons_zero, List.setIfInBounds_toArray, List.set_cons_zero, List.set_cons_succ])
        refine wpAnyH_take (i := 1) (v := ?_) rfl (by kernel_rfl) (by kernel_rfl) (by kernel_rfl) (fun _ _ _ h => h) (Or.inl ⟨by kernel_rfl, ?_⟩) (by assumption) ?_
        rotate_left
        focus
          intro w9 hSw
          (try dsimp only at hSw)
          have zK : ∀ {a9 : Addr} {u9 : Value}, wr.cell? a9 = some u9 → w9.cell? a9 = some u9 := fun {a9} {u9} h9 => (hSw.cell (World.block_lt_of_cell? wr a9 h9)).trans h9
          have z0 := zK x0
          have z1 := zK y0
          clear zK hSw
          go_simp
          (try with_reducible rfl)
        (try simp only [Act.put, List.getElem_toArray, List.getElem_cons_succ, List.getElem_cons_zero, List.setIfInBounds_toArray, List.set_cons_zero, List.set_cons_succ])
        refine wpAnyH_take (i := 2) (v := ?_) rfl (by kernel_rfl) (by kernel_rfl) (by kernel_rfl) (fun _ _ _ h => h) (Or.inl ⟨by kernel_rfl, ?_⟩) (by assumption) ?_
        rotate_left
        focus
          intro w9 hSw
          (try dsimp only at hSw)
          have zK : ∀ {a9 : Addr} {u9 : Value}, wr.cell? a9 = some u9 → w9.cell? a9 = some u9 := fun {a9} {u9} h9 => (hSw.cell (World.block_lt_of_cell? wr a9 h9)).trans h9
          have z0 := zK x0
          have z1 := zK y0
          clear zK hSw
          go_simp
          (try with_reducible rfl)
        (try simp only [Act.put, List.getElem_toArray, List.getElem_cons_succ, List.getElem_cons_zero, List.setIfInBounds_toArray, List.set_cons_zero, List.set_cons_succ])
        refine wpAnyH_take (i := 3) (v := ?_) rfl (by kernel_rfl) (by kernel_rfl) (by kernel_rfl) (fun _ _ _ h => h) (Or.inl ⟨by kernel_rfl, ?_⟩) (by assumption) ?_
        rotate_left
        focus
          intro w9 hSw
          (try dsimp only at hSw)
          have zK : ∀ {a9 : Addr} {u9 : Value}, wr.cell? a9 = some u9 → w9.cell? a9 = some u9 := fun {a9} {u9} h9 => (hSw.cell (World.block_lt_of_cell? wr a9 h9)).trans h9
          have z0 := zK x0
          have z1 := zK y0
          clear zK hSw
          go_simp
          (try with_reducible rfl)
        (try simp only [Act.put, List.getElem_toArray, List.getElem_cons_succ, List.getElem_cons_zero, List.setIfInBounds_toArray, List.set_cons_zero, List.set_cons_succ])
        refine wpAnyH_take (i := 4) (v := ?_) rfl (by kernel_rfl) (by kernel_rfl) (by kernel_rfl) (fun _ _ _ h => h) (Or.inl ⟨by kernel_rfl, ?_⟩) (by assumption) ?_
        rotate_left
        focus
          intro w9 hSw
          (try dsimp only at hSw)
          have zK : ∀ {a9 : Addr} {u9 : Value}, wr.cell? a9 = some u9 → w9.cell? a9 = some u9 := fun {a9} {u9} h9 => (hSw.cell (World.block_lt_of_cell? wr a9 h9)).trans h9
          have z0 := zK x0
          have z1 := zK y0
          clear zK hSw
          go_simp
          (try with_reducible rfl)
        (try simp only [Act.put, List.getElem_toArray, List.getElem_cons_succ, List.getElem_cons_zero, List.setIfInBounds_toArray, List.set_cons_zero, List.set_cons_succ])
        refine wpAnyH_take (i := 5) (v := ?_) rfl (by kernel_rfl) (by kernel_rfl) (by kernel_rfl) (fun _ _ _ h => h) (Or.inl ⟨by kernel_rfl, ?_⟩) (by assumption) ?_
        rotate_left
        focus
          intro w9 hSw
          (try dsimp only at hSw)
          have zK : ∀ {a9 : Addr} {u9 : Value}, wr.cell? a9 = some u9 → w9.cell? a9 = some u9 := fun {a9} {u9} h9 => (hSw.cell (World.block_lt_of_cell? wr a9 h9)).trans h9
          have z0 := zK x0
          have z1 := zK y0
          clear zK hSw
          go_simp
          (try with_reducible rfl)
        (try simp only [Act.put, List.getElem_toArray, List.getElem_cons_succ, List.getElem_cons_zero, List.setIfInBounds_toArray, List.set_cons_zero, List.set_cons_succ])
        refine wpAnyH_take (i := 6) (v := ?_) rfl (by kernel_rfl) (by kernel_rfl) (by kernel_rfl) (fun _ _ _ h => h) (Or.inl ⟨by kernel_rfl, ?_⟩) (by assumption) ?_
        rotate_left
        focus
          intro w9 hSw
          (try dsimp only at hSw)
          have zK : ∀ {a9 : Addr} {u9 : Value}, wr.cell? a9 = some u9 → w9.cell? a9 = some u9 := fun {a9} {u9} h9 => (hSw.cell (World.block_lt_of_cell? wr a9 h9)).trans h9
          have z0 := zK x0
          have z1 := zK y0
          clear zK hSw
          go_simp
          (try with_reducible rfl)
        (try simp only [Act.put, List.getElem_toArray, List.getElem_cons_succ, List.getElem_cons_zero, List.setIfInBounds_toArray, List.set_cons_zero, List.set_cons_succ])
        refine wpAnyH_take (i := 7) (v := ?_) rfl (by kernel_rfl) (by kernel_rfl) (by kernel_rfl) (fun _ _ _ h => h) (Or.inl ⟨by kernel_rfl, ?_⟩) (by assumption) ?_
        rotate_left
        focus
          intro w9 hSw
          (try dsimp only at hSw)
          have zK : ∀ {a9 : Addr} {u9 : Value}, wr.cell? a9 = some u9 → w9.cell? a9 = some u9 := fun {a9} {u9} h9 => (hSw.cell (World.block_lt_of_cell? wr a9 h9)).trans h9
          have z0 := zK x0
          have z1 := zK y0
          clear zK hSw
          go_simp
          (try with_reducible rfl)
        (try simp only [Act.put, List.getElem_toArray, List.getElem_cons_succ, List.getElem_cons_zero, List.setIfInBounds_toArray, List.set_cons_zero, List.set_cons_succ])
        refine wpAnyH_take (i := 8) (v := ?_) rfl (by kernel_rfl) (by kernel_rfl) (by kernel_rfl) (fun _ _ _ h => h) (Or.inl ⟨by kernel_rfl, ?_⟩) (by assumption) ?_
        rotate_left
        focus
          intro w9 hSw
          (try dsimp only at hSw)
          have zK : ∀ {a9 : Addr} {u9 : Value}, wr.cell? a9 = some u9 → w9.cell? a9 = some u9 := fun {a9} {u9} h9 => (hSw.cell (World.block_lt_of_cell? wr a9 h9)).trans h9
          have z0 := zK x0
          have z1 := zK y0
          clear zK hSw
          go_simp
          (try with_reducible rfl)
        (try simp only [Act.put, List.getElem_toArray, List.getElem_cons_succ, List.getElem_cons_zero, List.setIfInBounds_toArray, List.set_cons_zero, List.set_cons_succ])
        refine wpAnyH_ready (rs := [9]) (by kernel_rfl) (by simp) (AllReadyH.cons rfl (fun K hK => ?_) AllReadyH.nil)
        go_simp
        go_at_call 51
        refine (HC1.out _ HM.out.drew).mono ?_
        rintro e wc ⟨rfl, hbc'⟩
        have hbc := below_undr hbc'
        refine hK.out _ _ ?_ (fun hHeld => ?_)
        focus exact hbc
        clear hK K
        (try simp only [Act.put, List.getElem_toArray, List.getElem_cons_succ, List.getElem_cons_zero, List.setIfInBounds_toArray, List.set_cons_zero, List.set_cons_succ])
        refine wpAnyH_take (i := 10) (v := ?_) rfl (by kernel_rfl) (by kernel_rfl) (by kernel_rfl) (fun _ _ _ h => h) (Or.inl ⟨by kernel_rfl, ?_⟩) (by assumption) ?_
        rotate_left
        focus
          intro w9 hSw
          (try dsimp only at hSw)
          go_simp
          (try with_reducible rfl)
        (try simp only [Act.put, List.getElem_toArray, List.getElem_cons_succ, List.getElem_cons_zero, List.setIfInBounds_toArray, List.set_cons_zero, List.set_cons_succ])
        refine wpAnyH_take (i := 11) (v := ?_) rfl (by kernel_rfl) (by kernel_rfl) (by kernel_rfl) (fun _ _ _ h => h) (Or.inl ⟨by kernel_rfl, ?_⟩) (by assumption) ?_
        rotate_left
        focus
          intro w9 hSw
          (try dsimp only at hSw)
          go_simp
          (try with_reducible rfl)
        (try simp only [Act.put, List.getElem_toArray, List.getElem_cons_succ, List.getElem_cons_zero, List.setIfInBounds_toArray, List.set_cons_zero, List.set_cons_succ])
        refine wpAnyH_done (by kernel_rfl) ?_ _
        (try simp only [Act.put, List.getElem_toArray, List.getElem_cons_succ, List.getElem_cons_zero, List.setIfInBounds_toArray, List.set_cons_zero, List.set_cons_succ])
        have hRc := HR.out.below hbc
        have hMc := HM.out.then_ (Mod.of_fresh (M := (· = gb)) hbc)
        have HRc := Lib.hid hRc
        have HMc := Lib.hid hMc
        clear hRc hMc x0 y0 hHeld hbc' hbc HC1
        go_wp2_with (fail)
        go_roundw
        case rel =>
          refine ⟨i, k, rfl, rfl, hmi, by omega, by omega, HLo.out, .inr ?_, HRc.out, HMc.out⟩
          rw [HY.out, HLt.out]; exact decide_eq_true hcf
        case measure => simp [intOf]; omega
      · have hq9 : decide (cf < 0) = false := decide_eq_false hcf
        go_wp2_with (fail)
        refine wp_region_held_drew (S := (fun w' => Below wr.heap.size wr w')) (by kernel_rfl) ?_ (fun hHeld => ?_)
        focus exact (Below.refl _ _).drew
        refine wpAnyH_take (i := 0) (v := ?_) rfl (by kernel_rfl) (by kernel_rfl) (by kernel_rfl) (fun _ _ _ h => h) (Or.inl ⟨by kernel_rfl, ?_⟩) (by assumption) ?_
        rotate_left
        focus
          intro w9 hSw
          (try dsimp only at hSw)
          have zK : ∀ {a9 : Addr} {u9 : Value}, wr.cell? a9 = some u9 → w9.cell? a9 = some u9 := fun {a9} {u9} h9 => (hSw.cell (World.block_lt_of_cell? wr a9 h9)).trans h9
          have z0 := zK x0
          have z1 := zK y0
          clear zK hSw
          go_simp
          (try with_reducible rfl)
        (try simp only [Act.put, List.getElem_toArray, List.getElem_cons_succ, List.getElem_cons_zero, List.setIfInBounds_toArray, List.set_cons_zero, List.set_cons_succ])
        refine wpAnyH_take (i := 1) (v := ?_) rfl (by kernel_rfl) (by kernel_rfl) (by kernel_rfl) (fun _ _ _ h => h) (Or.inl ⟨by kernel_rfl, ?_⟩) (by assumption) ?_
        rotate_left
        focus
          intro w9 hSw
          (try dsimp only at hSw)
          have zK : ∀ {a9 : Addr} {u9 : Value}, wr.cell? a9 = some u9 → w9.cell? a9 = some u9 := fun {a9} {u9} h9 => (hSw.cell (World.block_lt_of_cell? wr a9 h9)).trans h9
          have z0 := zK x0
          have z1 := zK y0
          clear zK hSw
          go_simp
          (try with_reducible rfl)
        (try simp only [Act.put, List.getElem_toArray, List.getElem_cons_succ, List.getElem_cons_zero, List.setIfInBounds_toArray, List.set_cons_zero, List.set_cons_succ])
        refine wpAnyH_take (i := 2) (v := ?_) rfl (by kernel_rfl) (by kernel_rfl) (by kernel_rfl) (fun _ _ _ h => h) (Or.inl ⟨by kernel_rfl, ?_⟩) (by assumption) ?_
        rotate_left
        focus
          intro w9 hSw
          (try dsimp only at hSw)
          have zK : ∀ {a9 : Addr} {u9 : Value}, wr.cell? a9 = some u9 → w9.cell? a9 = some u9 := fun {a9} {u9} h9 => (hSw.cell (World.block_lt_of_cell? wr a9 h9)).trans h9
          have z0 := zK x0
          have z1 := zK y0
          clear zK hSw
          go_simp
          (try with_reducible rfl)
        (try simp only [Act.put, List.getElem_toArray, List.getElem_cons_succ, List.getElem_cons_zero, List.setIfInBounds_toArray, List.set_cons_zero, List.set_cons_succ])
        refine wpAnyH_take (i := 3) (v := ?_) rfl (by kernel_rfl) (by kernel_rfl) (by kernel_rfl) (fun _ _ _ h => h) (Or.inl ⟨by kernel_rfl, ?_⟩) (by assumption) ?_
        rotate_left
        focus
          intro w9 hSw
          (try dsimp only at hSw)
          have zK : ∀ {a9 : Addr} {u9 : Value}, wr.cell? a9 = some u9 → w9.cell? a9 = some u9 := fun {a9} {u9} h9 => (hSw.cell (World.block_lt_of_cell? wr a9 h9)).trans h9
          have z0 := zK x0
          have z1 := zK y0
          clear zK hSw
          go_simp
          (try with_reducible rfl)
        (try simp only [Act.put, List.getElem_toArray, List.getElem_cons_succ, List.getElem_cons_zero, List.setIfInBounds_toArray, List.set_cons_zero, List.set_cons_succ])
        refine wpAnyH_take (i := 4) (v := ?_) rfl (by kernel_rfl) (by kernel_rfl) (by kernel_rfl) (fun _ _ _ h => h) (Or.inl ⟨by kernel_rfl, ?_⟩) (by assumption) ?_
        rotate_left
        focus
          intro w9 hSw
          (try dsimp only at hSw)
          have zK : ∀ {a9 : Addr} {u9 : Value}, wr.cell? a9 = some u9 → w9.cell? a9 = some u9 := fun {a9} {u9} h9 => (hSw.cell (World.block_lt_of_cell? wr a9 h9)).trans h9
          have z0 := zK x0
          have z1 := zK y0
          clear zK hSw
          go_simp
          (try with_reducible rfl)
        (try simp only [Act.put, List.getElem_toArray, List.getElem_cons_succ, List.getElem_cons_zero, List.setIfInBounds_toArray, List.set_cons_zero, List.set_cons_succ])
        refine wpAnyH_take (i := 5) (v := ?_) rfl (by kernel_rfl) (by kernel_rfl) (by kernel_rfl) (fun _ _ _ h => h) (Or.inl ⟨by kernel_rfl, ?_⟩) (by assumption) ?_
        rotate_left
        focus
          intro w9 hSw
          (try dsimp only at hSw)
          have zK : ∀ {a9 : Addr} {u9 : Value}, wr.cell? a9 = some u9 → w9.cell? a9 = some u9 := fun {a9} {u9} h9 => (hSw.cell (World.block_lt_of_cell? wr a9 h9)).trans h9
          have z0 := zK x0
          have z1 := zK y0
          clear zK hSw
          go_simp
          (try with_reducible rfl)
        (try simp only [Act.put, List.getElem_toArray, List.getElem_cons_succ, List.getElem_cons_zero, List.setIfInBounds_toArray, List.set_cons_zero, List.set_cons_succ])
        refine wpAnyH_take (i := 6) (v := ?_) rfl (by kernel_rfl) (by kernel_rfl) (by kernel_rfl) (fun _ _ _ h => h) (Or.inl ⟨by kernel_rfl, ?_⟩) (by assumption) ?_
        rotate_left
        focus
          intro w9 hSw
          (try dsimp only at hSw)
          have zK : ∀ {a9 : Addr} {u9 : Value}, wr.cell? a9 = some u9 → w9.cell? a9 = some u9 := fun {a9} {u9} h9 => (hSw.cell (World.block_lt_of_cell? wr a9 h9)).trans h9
          have z0 := zK x0
          have z1 := zK y0
          clear zK hSw
          go_simp
          (try with_reducible rfl)
        (try simp only [Act.put, List.getElem_toArray, List.getElem_cons_succ, List.getElem_cons_zero, List.setIfInBounds_toArray, List.set_cons_zero, List.set_cons_succ])
        refine wpAnyH_take (i := 7) (v := ?_) rfl (by kernel_rfl) (by kernel_rfl) (by kernel_rfl) (fun _ _ _ h => h) (Or.inl ⟨by kernel_rfl, ?_⟩) (by assumption) ?_
        rotate_left
        focus
          intro w9 hSw
          (try dsimp only at hSw)
          have zK : ∀ {a9 : Addr} {u9 : Value}, wr.cell? a9 = some u9 → w9.cell? a9 = some u9 := fun {a9} {u9} h9 => (hSw.cell (World.block_lt_of_cell? wr a9 h9)).trans h9
          have z0 := zK x0
          have z1 := zK y0
          clear zK hSw
          go_simp
          (try with_reducible rfl)
        (try simp only [Act.put, List.getElem_toArray, List.getElem_cons_succ, List.getElem_cons_zero, List.setIfInBounds_toArray, List.set_cons_zero, List.set_cons_succ])
        refine wpAnyH_take (i := 8) (v := ?_) rfl (by kernel_rfl) (by kernel_rfl) (by kernel_rfl) (fun _ _ _ h => h) (Or.inl ⟨by kernel_rfl, ?_⟩) (by assumption) ?_
        rotate_left
        focus
          intro w9 hSw
          (try dsimp only at hSw)
          have zK : ∀ {a9 : Addr} {u9 : Value}, wr.cell? a9 = some u9 → w9.cell? a9 = some u9 := fun {a9} {u9} h9 => (hSw.cell (World.block_lt_of_cell? wr a9 h9)).trans h9
          have z0 := zK x0
          have z1 := zK y0
          clear zK hSw
          go_simp
          (try with_reducible rfl)
        (try simp only [Act.put, List.getElem_toArray, List.getElem_cons_succ, List.getElem_cons_zero, List.setIfInBounds_toArray, List.set_cons_zero, List.set_cons_succ])
        refine wpAnyH_ready (rs := [9]) (by kernel_rfl) (by simp) (AllReadyH.cons rfl (fun K hK => ?_) AllReadyH.nil)
        go_simp
        go_at_call 51
        refine (HC1.out _ HM.out.drew).mono ?_
        rintro e wc ⟨rfl, hbc'⟩
        have hbc := below_undr hbc'
        refine hK.out _ _ ?_ (fun hHeld => ?_)
        focus exact hbc
        clear hK K
        (try simp only [Act.put, List.getElem_toArray, List.getElem_cons_succ, List.getElem_cons_zero, List.setIfInBounds_toArray, List.set_cons_zero, List.set_cons_succ])
        refine wpAnyH_take (i := 10) (v := ?_) rfl (by kernel_rfl) (by kernel_rfl) (by kernel_rfl) (fun _ _ _ h => h) (Or.inl ⟨by kernel_rfl, ?_⟩) (by assumption) ?_
        rotate_left
        focus
          intro w9 hSw
          (try dsimp only at hSw)
          go_simp
          (try with_reducible rfl)
        (try simp only [Act.put, List.getElem_toArray, List.getElem_cons_succ, List.getElem_cons_zero, List.setIfInBounds_toArray, List.set_cons_zero, List.set_cons_succ])
        refine wpAnyH_take (i := 11) (v := ?_) rfl (by kernel_rfl) (by kernel_rfl) (by kernel_rfl) (fun _ _ _ h => h) (Or.inl ⟨by kernel_rfl, ?_⟩) (by assumption) ?_
        rotate_left
        focus
          intro w9 hSw
          (try dsimp only at hSw)
          go_simp
          (try with_reducible rfl)
        (try simp only [Act.put, List.getElem_toArray, List.getElem_cons_succ, List.getElem_cons_zero, List.setIfInBounds_toArray, List.set_cons_zero, List.set_cons_succ])
        refine wpAnyH_done (by kernel_rfl) ?_ _
        (try simp only [Act.put, List.getElem_toArray, List.getElem_cons_succ, List.getElem_cons_zero, List.setIfInBounds_toArray, List.set_cons_zero, List.set_cons_succ])
        have hRc := HR.out.below hbc
        have hMc := HM.out.then_ (Mod.of_fresh (M := (· = gb)) hbc)
        have HRc := Lib.hid hRc
        have HMc := Lib.hid hMc
        clear hRc hMc x0 y0 hHeld hbc' hbc HC1
        go_wp2_with (fail)
        go_roundw
        case rel =>
          refine ⟨k + 1, j, by go_num, rfl, by omega, by omega, hjb, .inr ?_, HHi.out, HRc.out, HMc.out⟩
          rw [show k + 1 - a - 1 = k - a by omega, HY.out, HLt.out]; exact decide_eq_false (by omega)
        case measure => simp [intOf]; omega
    · have hije : i = j := by omega
      subst hije
      have hltz : ¬ (i : Int) < (i : Int) := by omega
      obtain ⟨t, ht⟩ : ∃ t, t = l1.take (i - a) := ⟨_, rfl⟩
      obtain ⟨u, hu⟩ : ∃ u, u = l1.drop (i - a) := ⟨_, rfl⟩
      have htu : l1 = t ++ u := by rw [ht, hu, List.take_append_drop]
      have hll : t.length = i - a ∧ u.length = m - i := by
        obtain ⟨h1, h2, h3, h4⟩ := HA.out
        rw [ht, hu, List.length_take, List.length_drop]; omega
      have HE := Lib.hid (⟨htu, hll⟩ : l1 = t ++ u ∧ t.length = i - a ∧ u.length = m - i)
      have HF := Lib.hid (show Srt (ltC ct) (l1 ++ [x]) (t ++ (x :: u)) ∧ Srd (ltC ct) (t ++ (x :: u)) by
        obtain ⟨h1, h2, h3, h4⟩ := HA.out
        have k1 := bs_nlt2 (ltC_leO ct) HS2.out (k := i - a) (by omega) (HLo.out.imp (fun h => by omega) id)
        have k2 := bs_lt2 (ltC_leO ct) HS2.out (k := i - a) (by omega) (HHi.out.imp (fun h => by omega) id)
        rw [← ht] at k1
        rw [← hu] at k2
        have k3 := HS2.out
        rw [htu] at k3 ⊢
        exact ins_ok (ltC_leO ct) k3 k1 k2)
      have HR := Lib.hid hR
      have HM := Lib.hid hM
      have hi9 : i ≤ 4000000000 := by omega
      clear ht hu htu hll hR hM HLo HHi hij
      go_wp2_with (fail)
      go_loopw [17] (fun kv wr => ∃ (k : Nat) (u1 u2 : List (SI N)), kv = .int .i64 (k : Int) ∧ k = i + u1.length ∧ u = u1 ++ u2 ∧ SRow wr gb (P ++ (t ++ (u1 ++ (x :: (u2 ++ R))))) tl ∧ Mod (· = gb) w wr) (fun kv _ => (intOf kv).toNat)
      case atStart =>
        refine ⟨m, u, [], rfl, by have := HE.out; omega, by simp, ?_, HM.out⟩
        have h9 := HR.out
        rw [HE.out.1] at h9
        simpa using h9
      case round =>
        obtain ⟨k, u1, u2, rfl, hk, hu, hR, hM⟩ := hrel
        have hlu := congrArg List.length hu
        rw [HE.out.2.2, List.length_append] at hlu
        rcases List.eq_nil_or_concat u1 with he | ⟨u1', y, he⟩
        · subst he
          have hki : ¬ (i : Int) < (k : Int) := by simp at hk; omega
          have HT := Lib.hid hu
          clear hk hu hlu
          go_wp2_with (fail)
          go_end0
          refine ⟨rfl, t ++ (x :: u), ?_, ?_, HF.out.1, HF.out.2, hM⟩
          · have e := HT.out
            rw [List.nil_append] at e
            rw [e]
            simpa using hR
          · rw [HE.out.1]; simp; omega
        · rw [List.concat_eq_append] at he
          subst he
          simp only [List.length_append, List.length_cons, List.length_nil] at hk hlu
          have hki : (i : Int) < (k : Int) := by omega
          obtain ⟨q, hq⟩ : ∃ q, i + u1'.length = q := ⟨_, rfl⟩
          have hkq : IntKind.i64.wrap ((k : Int) - 1) = (q : Int) := by rw [IntWalk.i64_in _ (by omega)]; omega
          have hkq1 : k = q + 1 := by omega
          have hkL : k < L := by omega
          have hqL : q < L := by omega
          have hne : k ≠ q := by omega
          have hqP : q = (P ++ (t ++ u1')).length := by rw [← hq]; have := HE.out.2.1; have := HA.out.1; simp; omega
          have HXi := Lib.hid (show (P ++ (t ++ ((u1' ++ [y]) ++ (x :: (u2 ++ R))))).getD k spz = x by
            rw [show P ++ (t ++ ((u1' ++ [y]) ++ (x :: (u2 ++ R)))) = (P ++ (t ++ u1') ++ [y]) ++ (x :: (u2 ++ R)) by simp, show k = (P ++ (t ++ u1') ++ [y]).length by rw [hkq1, hqP]; simp; omega]
            exact getD_mid _ _ _)
          have HXj := Lib.hid (show (P ++ (t ++ ((u1' ++ [y]) ++ (x :: (u2 ++ R))))).getD q spz = y by
            rw [show P ++ (t ++ ((u1' ++ [y]) ++ (x :: (u2 ++ R)))) = (P ++ (t ++ u1')) ++ (y :: (x :: (u2 ++ R))) by simp, hqP]
            exact getD_mid _ _ _)
          have HLn : (P ++ (t ++ ((u1' ++ [y]) ++ (x :: (u2 ++ R))))).length = L := by
            rw [← HA.out.2.2.2, HE.out.1, hu]; simp; omega
          have HPl := Lib.hid (show k < (P ++ (t ++ ((u1' ++ [y]) ++ (x :: (u2 ++ R))))).length ∧ q < (P ++ (t ++ ((u1' ++ [y]) ++ (x :: (u2 ++ R))))).length by rw [HLn]; exact ⟨hkL, hqL⟩)
          have HSW := Lib.hid (show swp (P ++ (t ++ ((u1' ++ [y]) ++ (x :: (u2 ++ R))))) k q = P ++ (t ++ (u1' ++ (x :: ((y :: u2) ++ R)))) by
            rw [show P ++ (t ++ ((u1' ++ [y]) ++ (x :: (u2 ++ R)))) = (P ++ (t ++ u1')) ++ (y :: ([] ++ (x :: (u2 ++ R)))) by simp, swp_mid' (P ++ (t ++ u1')) [] (u2 ++ R) y x hqP (by rw [hkq1, hqP]; simp)]
            simp)
          have HT := Lib.hid hu
          have HK := Lib.hid (⟨hq, hkq1⟩ : i + u1'.length = q ∧ k = q + 1)
          clear hu hk hq hlu hqP HLn hkq1
          have x0 := hR.at_ HPl.out.1 HXi.out
          have y0 := hR.at_ HPl.out.2 HXj.out
          have f0 := hR.fz k
          have g0 := hR.fz q
          have HR := Lib.hid hR
          have HM := Lib.hid hM
          clear hR hM
          go_wp2_with (fail)
          have hmx : Try.prog.follows .mixedOrders = true := by kernel_rfl
          go_big_region_o
          go_wp2
          go_roundw
          case rel =>
            have h2 := (HR.out.put HPl.out.1 y).put (j := q) (by rw [List.length_set]; exact HPl.out.2) x
            have h3 := HSW.out
            rw [swp, HXi.out, HXj.out] at h3
            rw [h3] at h2
            have h4 := HM.out.then_ ((SRow.putM wr gb k y).then_ (SRow.putM _ gb q x))
            exact ⟨q, u1', y :: u2, by go_num, HK.out.1.symm, by rw [HT.out]; simp, SRow.drew h2, h4.drew⟩
          case measure => have := HK.out; simp [intOf]; omega

set_option maxHeartbeats 16000000 in
set_option maxRecDepth 100000 in
/-- .. in general, where the merges of the halves do what they should. -/
theorem symC_any {w : World} {gb bx gc : Nat} {ct : List Int} {P l1 l2 R : List (SI N)} {tl : List Value} {L : Nat} (hct : CtR N w bx gc ct) (hne : gb ≠ bx ∧ gb ≠ gc) (hNN : N ≤ 1000000) (h1 : Srd (ltC ct) l1) (h2 : Srd (ltC ct) l2) (h11 : 1 < l1.length) (h21 : 1 < l2.length) (hR0 : SRow w gb (P ++ (l1 ++ (l2 ++ R))) tl) (hL : (P ++ (l1 ++ (l2 ++ R))).length = L) (c : Nat) (hl : L ≤ 4000000000) (hc : L ≤ c) {a m b : Nat} (ha : a = P.length) (hm : m = a + l1.length) (hb : b = m + l2.length)
    (IH : ∀ (w' : World) (P' k1 k2 R' : List (SI N)) (a' m' b' : Nat), CtR N w' bx gc ct → k1.length + k2.length < l1.length + l2.length → Srd (ltC ct) k1 → Srd (ltC ct) k2 → 0 < k1.length → 0 < k2.length → SRow w' gb (P' ++ (k1 ++ (k2 ++ R'))) tl → (P' ++ (k1 ++ (k2 ++ R'))).length = L → a' = P'.length → m' = a' + k1.length → b' = m' + k2.length →
      Calls Try.prog 80 #[.slice (some ⟨gb, 0, none⟩) L c, .int .i64 a', .int .i64 m', .int .i64 b', .func (.func 51) #[] #[.pointer (some ⟨bx, 0, none⟩)]] w' (SymPost ct w' gb P' k1 k2 R' tl)) :
    Calls Try.prog 80 #[.slice (some ⟨gb, 0, none⟩) L c, .int .i64 a, .int .i64 m, .int .i64 b, .func (.func 51) #[] #[.pointer (some ⟨bx, 0, none⟩)]] w (SymPost ct w gb P l1 l2 R tl) := by
  have HC := Lib.hid (fun (x y : SI N) W (hW : Mod (· = gb) w W) => less3_any (hct.mod hW (fun e => hne.1 e.symm) (fun e => hne.2 e.symm)) x y hNN)
  have HCw := Lib.hid (fun W (hW : Mod (· = gb) w W) => hct.mod hW (fun e => hne.1 e.symm) (fun e => hne.2 e.symm))
  clear hct
  have hLL := hL
  simp only [List.length_append] at hLL
  have hbL : b ≤ L := by omega
  have e1 : (IntKind.i64.wrap ((m : Int) - (a : Int)) == 1) = false := by rw [IntWalk.i64_in _ (by omega)]; exact beq_false_of_ne (by omega)
  have e1' : ((m : Int) - (a : Int) == 1) = false := beq_false_of_ne (by omega)
  have e2 : (IntKind.i64.wrap ((b : Int) - (m : Int)) == 1) = false := by rw [IntWalk.i64_in _ (by omega)]; exact beq_false_of_ne (by omega)
  have e2' : ((b : Int) - (m : Int) == 1) = false := beq_false_of_ne (by omega)
  have hamb : a + 1 < m ∧ m + 1 < b := by omega
  have HA := Lib.hid (⟨ha, hm, hb, hL⟩ : a = P.length ∧ m = a + l1.length ∧ b = m + l2.length ∧ (P ++ (l1 ++ (l2 ++ R))).length = L)
  have HH := Lib.hid hR0
  have HS := Lib.hid (⟨h1, h2⟩ : Srd (ltC ct) l1 ∧ Srd (ltC ct) l2)
  have HI := Lib.hid IH
  obtain ⟨mid, hmid⟩ : ∃ k, (a + b) / 2 = k := ⟨_, rfl⟩
  have hmz : ((a : Int) + (b : Int)) / 2 = (mid : Int) := by omega
  obtain ⟨n, hn⟩ : ∃ k, mid + m = k := ⟨_, rfl⟩
  have hnz : (mid : Int) + (m : Int) = (n : Int) := by omega
  have hmd : a < mid ∧ mid < b ∧ 2 * mid ≤ a + b ∧ a + b ≤ 2 * mid + 1 := by omega
  have hn9 : n ≤ 8000000000 ∧ 2 ≤ n := by omega
  have hb9 : b ≤ 4000000000 := by omega
  have HN := Lib.hid hn
  have HMd := Lib.hid (⟨hmd, hamb⟩ : (a < mid ∧ mid < b ∧ 2 * mid ≤ a + b ∧ a + b ≤ 2 * mid + 1) ∧ a + 1 < m ∧ m + 1 < b)
  clear hLL ha hm hb hL hR0 h1 h2 h11 h21 IH hn hmid
  go_enter Try.func80, Try.ntmps80
  go_upto_if 140 with (fail)
  go_cut [20, 21] from 138 to 146 (fun sv rv wc => ∃ s0 r0 : Nat, sv = .int .i64 (s0 : Int) ∧ rv = .int .i64 (r0 : Int) ∧ ((mid < m ∧ s0 + b = n ∧ r0 = mid) ∨ (m ≤ mid ∧ s0 = a ∧ r0 = m)) ∧ w = wc)
  case first =>
    by_cases hmm : mid < m
    · have hmm' : (mid : Int) < (m : Int) := by omega
      obtain ⟨s0, hs0⟩ : ∃ s0, n - b = s0 := ⟨_, rfl⟩
      have hn2 := HN.out
      have hsz : (n : Int) - (b : Int) = (s0 : Int) := by omega
      have hs0' : s0 + b = n := by omega
      clear hs0 hn2
      go_wp2_with (fail)
      go_meet
      exact ⟨s0, mid, rfl, rfl, .inl ⟨hmm, hs0', rfl⟩, rfl⟩
    · have hmm' : ¬ (mid : Int) < (m : Int) := by omega
      go_wp2_with (fail)
      go_meet
      exact ⟨a, m, rfl, rfl, .inr ⟨by omega, rfl, rfl⟩, rfl⟩
  case rest =>
    obtain ⟨s0, r0, rfl, rfl, hsr, rfl⟩ := hcut
    have hsr0 : a ≤ s0 ∧ s0 ≤ r0 ∧ r0 ≤ m ∧ n ≤ s0 + b ∧ n ≤ r0 + m + (mid - r0) ∧ mid ≤ n - r0 ∧ m ≤ n - r0 ∧ r0 ≤ mid := by
      have := HN.out; have := HMd.out; omega
    have HSR := Lib.hid hsr
    have hp : (n : Int) - 1 = ((n - 1 : Nat) : Int) := by omega
    obtain ⟨p, hpn⟩ : ∃ p, n - 1 = p := ⟨_, rfl⟩
    rw [hpn] at hp
    have HPn := Lib.hid hpn
    clear hsr hpn
    go_wp2_with (fail)
    go_loopw [20, 21] (fun iv jv wr => ∃ (i j : Nat), iv = .int .i64 (i : Int) ∧ jv = .int .i64 (j : Int) ∧ s0 ≤ i ∧ i ≤ j ∧ j ≤ r0 ∧ (i = s0 ∨ (ltC ct) (l2.getD (n - i - m) spz) (l1.getD (i - a - 1) spz) = false) ∧ (j = r0 ∨ (ltC ct) (l2.getD (n - j - m - 1) spz) (l1.getD (j - a) spz) = true) ∧ SRow wr gb (P ++ (l1 ++ (l2 ++ R))) tl ∧ Mod (· = gb) w wr) (fun iv jv _ => (intOf jv - intOf iv).toNat)
    case atStart => exact ⟨s0, r0, rfl, rfl, by omega, by omega, by omega, .inl rfl, .inl rfl, HH.out, Mod.refl _ _⟩
    case round =>
      obtain ⟨i, j, rfl, rfl, hmi, hij, hjb, hlo, hhi, hR, hM⟩ := hrel
      have HLo := Lib.hid hlo
      have HHi := Lib.hid hhi
      clear hlo hhi
      by_cases hlt : i < j
      · have hltz : (i : Int) < (j : Int) := by omega
        obtain ⟨k, hk⟩ : ∃ k, (i + j) / 2 = k := ⟨_, rfl⟩
        have hkz : ((i : Int) + (j : Int)) / 2 = (k : Int) := by omega
        have hki : i ≤ k ∧ k < j := by omega
        obtain ⟨q, hq⟩ : ∃ q, p - k = q := ⟨_, rfl⟩
        have hq2 : q + k + 1 = n ∧ m ≤ q ∧ q < b := by have := HPn.out; have := HN.out; have := HMd.out; omega
        have hqz : IntKind.i64.wrap ((p : Int) - (k : Int)) = (q : Int) := by have := HPn.out; rw [IntWalk.i64_in _ (by omega)]; omega
        have hkL : k < L := by omega
        have hqL : q < L := by omega
        obtain ⟨x, hx⟩ : ∃ x, l2.getD (q - m) spz = x := ⟨_, rfl⟩
        obtain ⟨y, hy⟩ : ∃ y, l1.getD (k - a) spz = y := ⟨_, rfl⟩
        have hxa : (P ++ (l1 ++ (l2 ++ R))).getD q spz = x := by
          rw [← hx]
          obtain ⟨h1, h2, h3, h4⟩ := HA.out
          exact gd_l2 P l1 l2 R (by omega) (by omega)
        have hya : (P ++ (l1 ++ (l2 ++ R))).getD k spz = y := by
          rw [← hy]
          obtain ⟨h1, h2, h3, h4⟩ := HA.out
          exact gd_l1 P l1 (l2 ++ R) (by omega) (by omega)
        have x0 := hR.at_ (by rw [HA.out.2.2.2]; exact hqL) hxa
        have y0 := hR.at_ (by rw [HA.out.2.2.2]; exact hkL) hya
        have HX := Lib.hid hx
        have HY := Lib.hid hy
        have HQ := Lib.hid hq2
        have HR := Lib.hid hR
        have HM := Lib.hid hM
        have HC1 := Lib.hid (fun W h => HC.out x y W h)
        have HLt := Lib.hid (show (ltC ct) x y = decide (cfC ct x y < 0) from rfl)
        clear hR hM hxa hya hx hy hk hq hq2
        generalize cfC ct x y = cf at *
        by_cases hcf : cf < 0
        · have hq9 : decide (cf < 0) = true := decide_eq_true hcf
          go_wp2_with (fail)
          refine wp_region_held_drew (S := (fun w' => Below wr.heap.size wr w')) (by kernel_rfl) ?_ (fun hHeld => ?_)
          focus exact (Below.refl _ _).drew
          refine wpAnyH_take (i := 0) (v := ?_) rfl (by kernel_rfl) (by kernel_rfl) (by kernel_rfl) (fun _ _ _ h => h) (Or.inl ⟨by kernel_rfl, ?_⟩) (by assumption) ?_
          rotate_left
          focus
            intro w9 hSw
            (try dsimp only at hSw)
            have zK : ∀ {a9 : Addr} {u9 : Value}, wr.cell? a9 = some u9 → w9.cell? a9 = some u9 := fun {a9} {u9} h9 => (hSw.cell (World.block_lt_of_cell? wr a9 h9)).trans h9
            have z0 := zK x0
            have z1 := zK y0
            clear zK hSw
            go_simp
            (try with_reducible rfl)
          (try simp only [Act.put, List.getElem_toArray, List.getElem_cons_succ, List.getElem_cons_zero, List.setIfInBounds_toArray, List.set_cons_zero, List.set_cons_succ])
          refine wpAnyH_take (i := 1) (v := ?_) rfl (by kernel_rfl) (by kernel_rfl) (by kernel_rfl) (fun _ _ _ h => h) (Or.inl ⟨by kernel_rfl, ?_⟩) (by assumption) ?_
          rotate_left
          focus
            intro w9 hSw
            (try dsimp only at hSw)
            have zK : ∀ {a9 : Addr} {u9 : Value}, wr.cell? a9 = some u9 → w9.cell? a9 = some u9 := fun {a9} {u9} h9 => (hSw.cell (World.block_lt_of_cell? wr a9 h9)).trans h9
            have z0 := zK x0
            have z1 := zK y0
            clear zK hSw
            go_simp
            (try with_reducible rfl)
          (try simp only [Act.put, List.getElem_toArray, List.getElem_cons_succ, List.getElem_cons_zero, List.setIfInBounds_toArray, List.set_cons_zero, List.set_cons_succ])
          refine wpAnyH_take (i := 2) (v := ?_) rfl (by kernel_rfl) (by kernel_rfl) (by kernel_rfl) (fun _ _ _ h => h) (Or.inl ⟨by kernel_rfl, ?_⟩) (by assumption) ?_
          rotate_left
          focus
            intro w9 hSw
            (try dsimp only at hSw)
            have zK : ∀ {a9 : Addr} {u9 : Value}, wr.cell? a9 = some u9 → w9.cell? a9 = some u9 := fun {a9} {u9} h9 => (hSw.cell (World.block_lt_of_cell? wr a9 h9)).trans h9
            have z0 := zK x0
            have z1 := zK y0
            clear zK hSw
            go_simp
            (try with_reducible rfl)
          (try simp only [Act.put, List.getElem_toArray, List.getElem_cons_succ, List.getElem_cons_zero, List.setIfInBounds_toArray, List.set_cons_zero, List.set_cons_succ])
          refine wpAnyH_take (i := 3) (v := ?_) rfl (by kernel_rfl) (by kernel_rfl) (by kernel_rfl) (fun _ _ _ h => h) (Or.inl ⟨by kernel_rfl, ?_⟩) (by assumption) ?_
          rotate_left
          focus
            intro w9 hSw
            (try dsimp only at hSw)
            have zK : ∀ {a9 : Addr} {u9 : Value}, wr.cell? a9 = some u9 → w9.cell? a9 = some u9 := fun {a9} {u9} h9 => (hSw.cell (World.block_lt_of_cell? wr a9 h9)).trans h9
            have z0 := zK x0
            have z1 := zK y0
            clear zK hSw
            go_simp
            (try with_reducible rfl)
          (try simp only [Act.put, List.getElem_toArray, List.getElem_cons_succ, List.getElem_cons_zero, List.setIfInBounds_toArray, List.set_cons_zero, List.set_cons_succ])
          refine wpAnyH_take (i := 4) (v := ?_) rfl (by kernel_rfl) (by kernel_rfl) (by kernel_rfl) (fun _ _ _ h => h) (Or.inl ⟨by kernel_rfl, ?_⟩) (by assumption) ?_
          rotate_left
          focus
            intro w9 hSw
            (try dsimp only at hSw)
            have zK : ∀ {a9 : Addr} {u9 : Value}, wr.cell? a9 = some u9 → w9.cell? a9 = some u9 := fun {a9} {u9} h9 => (hSw.cell (World.block_lt_of_cell? wr a9 h9)).trans h9
            have z0 := zK x0
            have z1 := zK y0
            clear zK hSw
            go_simp
            (try with_reducible rfl)
          (try simp only [Act.put, List.getElem_toArray, List.getElem_cons_succ, List.getElem_cons_zero, List.setIfInBounds_toArray, List.set_cons_zero, List.set_cons_succ])
          refine wpAnyH_take (i := 5) (v := ?_) rfl (by kernel_rfl) (by kernel_rfl) (by kernel_rfl) (fun _ _ _ h => h) (Or.inl ⟨by kernel_rfl, ?_⟩) (by assumption) ?_
          rotate_left
          focus
            intro w9 hSw
            (try dsimp only at hSw)
            have zK : ∀ {a9 : Addr} {u9 : Value}, wr.cell? a9 = some u9 → w9.cell? a9 = some u9 := fun {a9} {u9} h9 => (hSw.cell (World.block_lt_of_cell? wr a9 h9)).trans h9
            have z0 := zK x0
            have z1 := zK y0
            clear zK hSw
            go_simp
            (try with_reducible rfl)
          (try simp only [Act.put, List.getElem_toArray, List.getElem_cons_succ, List.getElem_cons_zero, List.setIfInBounds_toArray, List.set_cons_zero, List.set_cons_succ])
          refine wpAnyH_take (i := 6) (v := ?_) rfl (by kernel_rfl) (by kernel_rfl) (by kernel_rfl) (fun _ _ _ h => h) (Or.inl ⟨by kernel_rfl, ?_⟩) (by assumption) ?_
          rotate_left
          focus
            intro w9 hSw
            (try dsimp only at hSw)
            have zK : ∀ {a9 : Addr} {u9 : Value}, wr.cell? a9 = some u9 → w9.cell? a9 = some u9 := fun {a9} {u9} h9 => (hSw.cell (World.block_lt_of_cell? wr a9 h9)).trans h9
            have z0 := zK x0
            have z1 := zK y0
            clear zK hSw
            go_simp
            (try with_reducible rfl)
          (try simp only [Act.put, List.getElem_toArray, List.getElem_cons_succ, List.getElem_cons_zero, List.setIfInBounds_toArray, List.set_cons_zero, List.set_cons_succ])
          refine wpAnyH_take (i := 7) (v := ?_) rfl (by kernel_rfl) (by kernel_rfl) (by kernel_rfl) (fun _ _ _ h => h) (Or.inl ⟨by kernel_rfl, ?_⟩) (by assumption) ?_
          rotate_left
          focus
            intro w9 hSw
            (try dsimp only at hSw)
            have zK : ∀ {a9 : Addr} {u9 : Value}, wr.cell? a9 = some u9 → w9.cell? a9 = some u9 := fun {a9} {u9} h9 => (hSw.cell (World.block_lt_of_cell? wr a9 h9)).trans h9
            have z0 := zK x0
            have z1 := zK y0
            clear zK hSw
            go_simp
            (try with_reducible rfl)
          (try simp only [Act.put, List.getElem_toArray, List.getElem_cons_succ, List.getElem_cons_zero, List.setIfInBounds_toArray, List.set_cons_zero, List.set_cons_succ])
          refine wpAnyH_take (i := 8) (v := ?_) rfl (by kernel_rfl) (by kernel_rfl) (by kernel_rfl) (fun _ _ _ h => h) (Or.inl ⟨by kernel_rfl, ?_⟩) (by assumption) ?_
          rotate_left
          focus
            intro w9 hSw
            (try dsimp only at hSw)
            have zK : ∀ {a9 : Addr} {u9 : Value}, wr.cell? a9 = some u9 → w9.cell? a9 = some u9 := fun {a9} {u9} h9 => (hSw.cell (World.block_lt_of_cell? wr a9 h9)).trans h9
            have z0 := zK x0
            have z1 := zK y0
            clear zK hSw
            go_simp
            (try with_reducible rfl)
          (try simp only [Act.put, List.getElem_toArray, List.getElem_cons_succ, List.getElem_cons_zero, List.setIfInBounds_toArray, List.set_cons_zero, List.set_cons_succ])
          refine wpAnyH_take (i := 9) (v := ?_) rfl (by kernel_rfl) (by kernel_rfl) (by kernel_rfl) (fun _ _ _ h => h) (Or.inl ⟨by kernel_rfl, ?_⟩) (by assumption) ?_
          rotate_left
          focus
            intro w9 hSw
            (try dsimp only at hSw)
            have zK : ∀ {a9 : Addr} {u9 : Value}, wr.cell? a9 = some u9 → w9.cell? a9 = some u9 := fun {a9} {u9} h9 => (hSw.cell (World.block_lt_of_cell? wr a9 h9)).trans h9
            have z0 := zK x0
            have z1 := zK y0
            clear zK hSw
            go_simp
            (try with_reducible rfl)
          (try simp only [Act.put, List.getElem_toArray, List.getElem_cons_succ, List.getElem_cons_zero, List.setIfInBounds_toArray, List.set_cons_zero, List.set_cons_succ])
          refine wpAnyH_take (i := 10) (v := ?_) rfl (by kernel_rfl) (by kernel_rfl) (by kernel_rfl) (fun _ _ _ h => h) (Or.inl ⟨by kernel_rfl, ?_⟩) (by assumption) ?_
          rotate_left
          focus
            intro w9 hSw
            (try dsimp only at hSw)
            have zK : ∀ {a9 : Addr} {u9 : Value}, wr.cell? a9 = some u9 → w9.cell? a9 = some u9 := fun {a9} {u9} h9 => (hSw.cell (World.block_lt_of_cell? wr a9 h9)).trans h9
            have z0 := zK x0
            have z1 := zK y0
            clear zK hSw
            go_simp
            (try with_reducible rfl)
          (try simp only [Act.put, List.getElem_toArray, List.getElem_cons_succ, List.getElem_cons_zero, List.setIfInBounds_toArray, List.set_cons_zero, List.set_cons_succ])
          refine wpAnyH_ready (rs := [11]) (by kernel_rfl) (by simp) (AllReadyH.cons rfl (fun K hK => ?_) AllReadyH.nil)
          go_simp
          go_at_call 51
          refine (HC1.out _ HM.out.drew).mono ?_
          rintro e wc ⟨rfl, hbc'⟩
          have hbc := below_undr hbc'
          refine hK.out _ _ ?_ (fun hHeld => ?_)
          focus exact hbc
          clear hK K
          (try simp only [Act.put, List.getElem_toArray, List.getElem_cons_succ, List.getElem_cons_zero, List.setIfInBounds_toArray, List.set_cons_zero, List.set_cons_succ])
          refine wpAnyH_take (i := 12) (v := ?_) rfl (by kernel_rfl) (by kernel_rfl) (by kernel_rfl) (fun _ _ _ h => h) (Or.inl ⟨by kernel_rfl, ?_⟩) (by assumption) ?_
          rotate_left
          focus
            intro w9 hSw
            (try dsimp only at hSw)
            go_simp
            (try with_reducible rfl)
          (try simp only [Act.put, List.getElem_toArray, List.getElem_cons_succ, List.getElem_cons_zero, List.setIfInBounds_toArray, List.set_cons_zero, List.set_cons_succ])
          refine wpAnyH_take (i := 13) (v := ?_) rfl (by kernel_rfl) (by kernel_rfl) (by kernel_rfl) (fun _ _ _ h => h) (Or.inl ⟨by kernel_rfl, ?_⟩) (by assumption) ?_
          rotate_left
          focus
            intro w9 hSw
            (try dsimp only at hSw)
            go_simp
            (try with_reducible rfl)
          (try simp only [Act.put, List.getElem_toArray, List.getElem_cons_succ, List.getElem_cons_zero, List.setIfInBounds_toArray, List.set_cons_zero, List.set_cons_succ])
          refine wpAnyH_done (by kernel_rfl) ?_ _
          (try simp only [Act.put, List.getElem_toArray, List.getElem_cons_succ, List.getElem_cons_zero, List.setIfInBounds_toArray, List.set_cons_zero, List.set_cons_succ])
          have HRc := Lib.hid (HR.out.below hbc)
          have HMc := Lib.hid (HM.out.then_ (Mod.of_fresh (M := (· = gb)) hbc))
          clear x0 y0 hHeld hbc' hbc HC1
          have hq8 : decide (0 ≤ cf) = false := decide_eq_false (by omega)
          have hq7 : ¬ 0 ≤ cf := by omega
          go_wp2_with (fail)
          go_roundw
          case rel =>
            refine ⟨i, k, rfl, rfl, hmi, by omega, by omega, HLo.out, .inr ?_, HRc.out, HMc.out⟩
            rw [show n - k - m - 1 = q - m by have := HQ.out; omega, HX.out, HY.out, HLt.out]; exact decide_eq_true (by omega)
          case measure => simp [intOf]; omega
        · have hq9 : decide (cf < 0) = false := decide_eq_false hcf
          go_wp2_with (fail)
          refine wp_region_held_drew (S := (fun w' => Below wr.heap.size wr w')) (by kernel_rfl) ?_ (fun hHeld => ?_)
          focus exact (Below.refl _ _).drew
          refine wpAnyH_take (i := 0) (v := ?_) rfl (by kernel_rfl) (by kernel_rfl) (by kernel_rfl) (fun _ _ _ h => h) (Or.inl ⟨by kernel_rfl, ?_⟩) (by assumption) ?_
          rotate_left
          focus
            intro w9 hSw
            (try dsimp only at hSw)
            have zK : ∀ {a9 : Addr} {u9 : Value}, wr.cell? a9 = some u9 → w9.cell? a9 = some u9 := fun {a9} {u9} h9 => (hSw.cell (World.block_lt_of_cell? wr a9 h9)).trans h9
            have z0 := zK x0
            have z1 := zK y0
            clear zK hSw
            go_simp
            (try with_reducible rfl)
          (try simp only [Act.put, List.getElem_toArray, List.getElem_cons_succ, List.getElem_cons_zero, List.setIfInBounds_toArray, List.set_cons_zero, List.set_cons_succ])
          refine wpAnyH_take (i := 1) (v := ?_) rfl (by kernel_rfl) (by kernel_rfl) (by kernel_rfl) (fun _ _ _ h => h) (Or.inl ⟨by kernel_rfl, ?_⟩) (by assumption) ?_
          rotate_left
          focus
            intro w9 hSw
            (try dsimp only at hSw)
            have zK : ∀ {a9 : Addr} {u9 : Value}, wr.cell? a9 = some u9 → w9.cell? a9 = some u9 := fun {a9} {u9} h9 => (hSw.cell (World.block_lt_of_cell? wr a9 h9)).trans h9
            have z0 := zK x0
            have z1 := zK y0
            clear zK hSw
            go_simp
            (try with_reducible rfl)
          (try simp only [Act.put, List.getElem_toArray, List.getElem_cons_succ, List.getElem_cons_zero, List.setIfInBounds_toArray, List.set_cons_zero, List.set_cons_succ])
          refine wpAnyH_take (i := 2) (v := ?_) rfl (by kernel_rfl) (by kernel_rfl) (by kernel_rfl) (fun _ _ _ h => h) (Or.inl ⟨by kernel_rfl, ?_⟩) (by assumption) ?_
          rotate_left
          focus
            intro w9 hSw
            (try dsimp only at hSw)
            have zK : ∀ {a9 : Addr} {u9 : Value}, wr.cell? a9 = some u9 → w9.cell? a9 = some u9 := fun {a9} {u9} h9 => (hSw.cell (World.block_lt_of_cell? wr a9 h9)).trans h9
            have z0 := zK x0
            have z1 := zK y0
            clear zK hSw
            go_simp
            (try with_reducible rfl)
          (try simp only [Act.put, List.getElem_toArray, List.getElem_cons_succ, List.getElem_cons_zero, List.setIfInBounds_toArray, List.set_cons_zero, List.set_cons_succ])
          refine wpAnyH_take (i := 3) (v := ?_) rfl (by kernel_rfl) (by kernel_rfl) (by kernel_rfl) (fun _ _ _ h => h) (Or.inl ⟨by kernel_rfl, ?_⟩) (by assumption) ?_
          rotate_left
          focus
            intro w9 hSw
            (try dsimp only at hSw)
            have zK : ∀ {a9 : Addr} {u9 : Value}, wr.cell? a9 = some u9 → w9.cell? a9 = some u9 := fun {a9} {u9} h9 => (hSw.cell (World.block_lt_of_cell? wr a9 h9)).trans h9
            have z0 := zK x0
            have z1 := zK y0
            clear zK hSw
            go_simp
            (try with_reducible rfl)
          (try simp only [Act.put, List.getElem_toArray, List.getElem_cons_succ, List.getElem_cons_zero, List.setIfInBounds_toArray, List.set_cons_zero, List.set_cons_succ])
          refine wpAnyH_take (i := 4) (v := ?_) rfl (by kernel_rfl) (by kernel_rfl) (by kernel_rfl) (fun _ _ _ h => h) (Or.inl ⟨by kernel_rfl, ?_⟩) (by assumption) ?_
          rotate_left
          focus
            intro w9 hSw
            (try dsimp only at hSw)
            have zK : ∀ {a9 : Addr} {u9 : Value}, wr.cell? a9 = some u9 → w9.cell? a9 = some u9 := fun {a9} {u9} h9 => (hSw.cell (World.block_lt_of_cell? wr a9 h9)).trans h9
            have z0 := zK x0
            have z1 := zK y0
            clear zK hSw
            go_simp
            (try with_reducible rfl)
          (try simp only [Act.put, List.getElem_toArray, List.getElem_cons_succ, List.getElem_cons_zero, List.setIfInBounds_toArray, List.set_cons_zero, List.set_cons_succ])
          refine wpAnyH_take (i := 5) (v := ?_) rfl (by kernel_rfl) (by kernel_rfl) (by kernel_rfl) (fun _ _ _ h => h) (Or.inl ⟨by kernel_rfl, ?_⟩) (by assumption) ?_
          rotate_left
          focus
            intro w9 hSw
            (try dsimp only at hSw)
            have zK : ∀ {a9 : Addr} {u9 : Value}, wr.cell? a9 = some u9 → w9.cell? a9 = some u9 := fun {a9} {u9} h9 => (hSw.cell (World.block_lt_of_cell? wr a9 h9)).trans h9
            have z0 := zK x0
            have z1 := zK y0
            clear zK hSw
            go_simp
            (try with_reducible rfl)
          (try simp only [Act.put, List.getElem_toArray, List.getElem_cons_succ, List.getElem_cons_zero, List.setIfInBounds_toArray, List.set_cons_zero, List.set_cons_succ])
          refine wpAnyH_take (i := 6) (v := ?_) rfl (by kernel_rfl) (by kernel_rfl) (by kernel_rfl) (fun _ _ _ h => h) (Or.inl ⟨by kernel_rfl, ?_⟩) (by assumption) ?_
          rotate_left
          focus
            intro w9 hSw
            (try dsimp only at hSw)
            have zK : ∀ {a9 : Addr} {u9 : Value}, wr.cell? a9 = some u9 → w9.cell? a9 = some u9 := fun {a9} {u9} h9 => (hSw.cell (World.block_lt_of_cell? wr a9 h9)).trans h9
            have z0 := zK x0
            have z1 := zK y0
            clear zK hSw
            go_simp
            (try with_reducible rfl)
          (try simp only [Act.put, List.getElem_toArray, List.getElem_cons_succ, List.getElem_cons_zero, List.setIfInBounds_toArray, List.set_cons_zero, List.set_cons_succ])
          refine wpAnyH_take (i := 7) (v := ?_) rfl (by kernel_rfl) (by kernel_rfl) (by kernel_rfl) (fun _ _ _ h => h) (Or.inl ⟨by kernel_rfl, ?_⟩) (by assumption) ?_
          rotate_left
          focus
            intro w9 hSw
            (try dsimp only at hSw)
            have zK : ∀ {a9 : Addr} {u9 : Value}, wr.cell? a9 = some u9 → w9.cell? a9 = some u9 := fun {a9} {u9} h9 => (hSw.cell (World.block_lt_of_cell? wr a9 h9)).trans h9
            have z0 := zK x0
            have z1 := zK y0
            clear zK hSw
            go_simp
            (try with_reducible rfl)
          (try simp only [Act.put, List.getElem_toArray, List.getElem_cons_succ, List.getElem_cons_zero, List.setIfInBounds_toArray, List.set_cons_zero, List.set_cons_succ])
          refine wpAnyH_take (i := 8) (v := ?_) rfl (by kernel_rfl) (by kernel_rfl) (by kernel_rfl) (fun _ _ _ h => h) (Or.inl ⟨by kernel_rfl, ?_⟩) (by assumption) ?_
          rotate_left
          focus
            intro w9 hSw
            (try dsimp only at hSw)
            have zK : ∀ {a9 : Addr} {u9 : Value}, wr.cell? a9 = some u9 → w9.cell? a9 = some u9 := fun {a9} {u9} h9 => (hSw.cell (World.block_lt_of_cell? wr a9 h9)).trans h9
            have z0 := zK x0
            have z1 := zK y0
            clear zK hSw
            go_simp
            (try with_reducible rfl)
          (try simp only [Act.put, List.getElem_toArray, List.getElem_cons_succ, List.getElem_cons_zero, List.setIfInBounds_toArray, List.set_cons_zero, List.set_cons_succ])
          refine wpAnyH_take (i := 9) (v := ?_) rfl (by kernel_rfl) (by kernel_rfl) (by kernel_rfl) (fun _ _ _ h => h) (Or.inl ⟨by kernel_rfl, ?_⟩) (by assumption) ?_
          rotate_left
          focus
            intro w9 hSw
            (try dsimp only at hSw)
            have zK : ∀ {a9 : Addr} {u9 : Value}, wr.cell? a9 = some u9 → w9.cell? a9 = some u9 := fun {a9} {u9} h9 => (hSw.cell (World.block_lt_of_cell? wr a9 h9)).trans h9
            have z0 := zK x0
            have z1 := zK y0
            clear zK hSw
            go_simp
            (try with_reducible rfl)
          (try simp only [Act.put, List.getElem_toArray, List.getElem_cons_succ, List.getElem_cons_zero, List.setIfInBounds_toArray, List.set_cons_zero, List.set_cons_succ])
          refine wpAnyH_take (i := 10) (v := ?_) rfl (by kernel_rfl) (by kernel_rfl) (by kernel_rfl) (fun _ _ _ h => h) (Or.inl ⟨by kernel_rfl, ?_⟩) (by assumption) ?_
          rotate_left
          focus
            intro w9 hSw
            (try dsimp only at hSw)
            have zK : ∀ {a9 : Addr} {u9 : Value}, wr.cell? a9 = some u9 → w9.cell? a9 = some u9 := fun {a9} {u9} h9 => (hSw.cell (World.block_lt_of_cell? wr a9 h9)).trans h9
            have z0 := zK x0
            have z1 := zK y0
            clear zK hSw
            go_simp
            (try with_reducible rfl)
          (try simp only [Act.put, List.getElem_toArray, List.getElem_cons_succ, List.getElem_cons_zero, List.setIfInBounds_toArray, List.set_cons_zero, List.set_cons_succ])
          refine wpAnyH_ready (rs := [11]) (by kernel_rfl) (by simp) (AllReadyH.cons rfl (fun K hK => ?_) AllReadyH.nil)
          go_simp
          go_at_call 51
          refine (HC1.out _ HM.out.drew).mono ?_
          rintro e wc ⟨rfl, hbc'⟩
          have hbc := below_undr hbc'
          refine hK.out _ _ ?_ (fun hHeld => ?_)
          focus exact hbc
          clear hK K
          (try simp only [Act.put, List.getElem_toArray, List.getElem_cons_succ, List.getElem_cons_zero, List.setIfInBounds_toArray, List.set_cons_zero, List.set_cons_succ])
          refine wpAnyH_take (i := 12) (v := ?_) rfl (by kernel_rfl) (by kernel_rfl) (by kernel_rfl) (fun _ _ _ h => h) (Or.inl ⟨by kernel_rfl, ?_⟩) (by assumption) ?_
          rotate_left
          focus
            intro w9 hSw
            (try dsimp only at hSw)
            go_simp
            (try with_reducible rfl)
          (try simp only [Act.put, List.getElem_toArray, List.getElem_cons_succ, List.getElem_cons_zero, List.setIfInBounds_toArray, List.set_cons_zero, List.set_cons_succ])
          refine wpAnyH_take (i := 13) (v := ?_) rfl (by kernel_rfl) (by kernel_rfl) (by kernel_rfl) (fun _ _ _ h => h) (Or.inl ⟨by kernel_rfl, ?_⟩) (by assumption) ?_
          rotate_left
          focus
            intro w9 hSw
            (try dsimp only at hSw)
            go_simp
            (try with_reducible rfl)
          (try simp only [Act.put, List.getElem_toArray, List.getElem_cons_succ, List.getElem_cons_zero, List.setIfInBounds_toArray, List.set_cons_zero, List.set_cons_succ])
          refine wpAnyH_done (by kernel_rfl) ?_ _
          (try simp only [Act.put, List.getElem_toArray, List.getElem_cons_succ, List.getElem_cons_zero, List.setIfInBounds_toArray, List.set_cons_zero, List.set_cons_succ])
          have HRc := Lib.hid (HR.out.below hbc)
          have HMc := Lib.hid (HM.out.then_ (Mod.of_fresh (M := (· = gb)) hbc))
          clear x0 y0 hHeld hbc' hbc HC1
          have hq8 : decide (0 ≤ cf) = true := decide_eq_true (by omega)
          have hq7 : 0 ≤ cf := by omega
          go_wp2_with (fail)
          go_roundw
          case rel =>
            refine ⟨k + 1, j, by go_num, rfl, by omega, by omega, hjb, .inr ?_, HHi.out, HRc.out, HMc.out⟩
            rw [show n - (k + 1) - m = q - m by have := HQ.out; omega, show k + 1 - a - 1 = k - a by omega, HX.out, HY.out, HLt.out]; exact decide_eq_false (by omega)
          case measure => simp [intOf]; omega
      · have hije : i = j := by omega
        subst hije
        have hltz : ¬ (i : Int) < (i : Int) := by omega
        obtain ⟨en, hen⟩ : ∃ en, n - i = en := ⟨_, rfl⟩
        have hez : (n : Int) - (i : Int) = (en : Int) := by have := HMd.out; omega
        have hen2 : en + i = n ∧ m ≤ en ∧ en ≤ b ∧ i ≤ mid := by have := HMd.out; omega
        obtain ⟨L1, hL1⟩ : ∃ t, t = l1.take (i - a) := ⟨_, rfl⟩
        obtain ⟨L2, hL2⟩ : ∃ t, t = l1.drop (i - a) := ⟨_, rfl⟩
        obtain ⟨R1, hR1⟩ : ∃ t, t = l2.take (en - m) := ⟨_, rfl⟩
        obtain ⟨R2, hR2⟩ : ∃ t, t = l2.drop (en - m) := ⟨_, rfl⟩
        have hl1 : l1 = L1 ++ L2 := by rw [hL1, hL2, List.take_append_drop]
        have hl2 : l2 = R1 ++ R2 := by rw [hR1, hR2, List.take_append_drop]
        have hLe : L1.length = i - a ∧ L2.length = m - i ∧ R1.length = en - m ∧ R2.length = b - en := by
          obtain ⟨h1, h2, h3, h4⟩ := HA.out
          rw [hL1, hL2, hR1, hR2, List.length_take, List.length_drop, List.length_take, List.length_drop]; omega
        have HTu := Lib.hid (show (∀ x ∈ L2, ∀ y ∈ R1, (ltC ct) y x = true) ∧ (∀ x ∈ L1, ∀ y ∈ R2, (ltC ct) y x = false) by
          obtain ⟨h1, h2, h3, h4⟩ := HA.out
          have hn2 := HN.out
          have hsr := HSR.out
          have k := turn_ok (ltC_leO ct) HS.out.1 HS.out.2 (p := i - a) (q := en - m) (by omega) (by omega) (HHi.out.imp (fun h => by omega) (fun h => by rw [show n - i - m - 1 = en - m - 1 by omega] at h; exact h))
            (HLo.out.imp (fun h => by omega) (fun h => by rw [show n - i - m = en - m by omega] at h; exact h))
          rw [← hL1, ← hL2, ← hR1, ← hR2] at k
          exact k)
        have HE := Lib.hid (⟨hl1, hl2, hLe⟩ : l1 = L1 ++ L2 ∧ l2 = R1 ++ R2 ∧ L1.length = i - a ∧ L2.length = m - i ∧ R1.length = en - m ∧ R2.length = b - en)
        have HEn := Lib.hid (⟨hen2.1, hmi, hjb, hsr0⟩ : en + i = n ∧ s0 ≤ i ∧ i ≤ r0 ∧ a ≤ s0 ∧ s0 ≤ r0 ∧ r0 ≤ m ∧ n ≤ s0 + b ∧ n ≤ r0 + m + (mid - r0) ∧ mid ≤ n - r0 ∧ m ≤ n - r0 ∧ r0 ≤ mid)
        have hR9 : SRow wr gb (P ++ (L1 ++ (L2 ++ (R1 ++ (R2 ++ R))))) tl := by rw [hl1, hl2] at hR; simpa using hR
        have HL9 : (P ++ (L1 ++ (L2 ++ (R1 ++ (R2 ++ R))))).length = L := by rw [← HA.out.2.2.2, hl1, hl2]; simp
        have him : a ≤ i ∧ i ≤ m ∧ i ≤ mid := by have := HMd.out; omega
        have hie : m ≤ en ∧ en ≤ b := by omega
        have HR := Lib.hid hR9
        have HM := Lib.hid hM
        clear hL1 hL2 hR1 hR2 hl1 hl2 hLe hen hen2 hR hR9 hM hmi hij hjb HLo HHi hsr0
        go_upto_region 38 with (fail)
        go_cut [24] from 174 to 177 (fun ev wc => ev = .int .i64 (en : Int) ∧ wr = wc)
        case first =>
          go_wp2_with (fail)
          go_meet
          exact ⟨rfl, rfl⟩
        case rest =>
          obtain ⟨rfl, rfl⟩ := hcut
          go_step
          go_step
          go_cut [] from 178 to 191 (fun wc => SRow wc gb (P ++ (L1 ++ (R1 ++ (L2 ++ (R2 ++ R))))) tl ∧ Mod (· = gb) w wc)
          case first =>
            by_cases hc1 : i < m
            · have hc1z : (i : Int) < (m : Int) := by omega
              by_cases hc2 : m < en
              · have hc2z : (m : Int) < (en : Int) := by omega
                have HRt := Lib.hid (rotate_any (P := P ++ L1) (X := L2) (Y := R1) (R := R2 ++ R) (w := wr) (tl := tl) (L := L) (a := i) (m := m) (b := en) (by have := HR.out; simpa using this) (by rw [← HL9]; simp) c hl hc (by have := HE.out; have := HA.out; simp; omega) (by have := HE.out; have := HA.out; simp; omega) (by have := HE.out; have := HA.out; simp; omega) (by have := HE.out; omega) (by have := HE.out; omega) (.func (.func 51) #[] #[.pointer (some ⟨bx, 0, none⟩)]))
                go_wp2_with (first
                  | (go_at_call 86; (with_reducible refine HRt.out.mono ?_); rintro e w1 ⟨rfl, hR1, hM1⟩))
                go_meet
                exact ⟨by simpa using hR1, HM.out.then_ hM1⟩
              · have hc2z : ¬ (m : Int) < (en : Int) := by omega
                have HZ := Lib.hid (show R1 = [] from List.eq_nil_of_length_eq_zero (by have := HE.out; omega))
                go_wp2_with (fail)
                go_meet
                exact ⟨by have := HR.out; rw [HZ.out] at this ⊢; simpa using this, HM.out⟩
            · have hc1z : ¬ (i : Int) < (m : Int) := by omega
              have HZ := Lib.hid (show L2 = [] from List.eq_nil_of_length_eq_zero (by have := HE.out; omega))
              go_wp2_with (fail)
              go_meet
              exact ⟨by have := HR.out; rw [HZ.out] at this ⊢; simpa using this, HM.out⟩
          case rest =>
            obtain ⟨hR2, hM2⟩ := hcut
            have hS1 := HS.out.1
            have hS2 := HS.out.2
            rw [HE.out.1] at hS1
            rw [HE.out.2.1] at hS2
            obtain ⟨sL1, sL2, _⟩ := Srd.app.1 hS1
            obtain ⟨sR1, sR2, _⟩ := Srd.app.1 hS2
            have HSs := Lib.hid (⟨sL1, sL2, sR1, sR2⟩ : Srd (ltC ct) L1 ∧ Srd (ltC ct) L2 ∧ Srd (ltC ct) R1 ∧ Srd (ltC ct) R2)
            have HR := Lib.hid hR2
            have HM := Lib.hid hM2
            clear hS1 hS2 sL1 sL2 sR1 sR2 hR2 hM2
            go_step
            go_step
            go_cut [] from 192 to 205 (fun wd => ∃ Q, SRow wd gb (P ++ (Q ++ (L2 ++ (R2 ++ R)))) tl ∧ Q.length = mid - a ∧ Srt (ltC ct) (L1 ++ R1) Q ∧ Srd (ltC ct) Q ∧ Mod (· = gb) w wd)
            case first =>
              have hQl : (L1 ++ R1).length = mid - a := by have := HE.out; have := HEn.out; have := HN.out; simp; omega
              have HQl := Lib.hid hQl
              clear hQl
              by_cases hc1 : a < i
              · have hc1z : (a : Int) < (i : Int) := by omega
                by_cases hc2 : i < mid
                · have hc2z : (i : Int) < (mid : Int) := by omega
                  have HSy := Lib.hid (HI.out wc P L1 R1 (L2 ++ (R2 ++ R)) a i mid (HCw.out _ HM.out) (by have := HE.out; have := HEn.out; have := HN.out; have := HMd.out; have := HA.out; omega) HSs.out.1 HSs.out.2.2.1 (by have := HE.out; omega) (by have := HE.out; have := HEn.out; have := HN.out; omega) HR.out (by rw [← HL9]; simp; omega) HA.out.1 (by have := HE.out; omega) (by have := HE.out; have := HEn.out; have := HN.out; omega))
                  go_wp2_with (first
                    | (go_at_call 80; (with_reducible refine HSy.out.mono ?_); rintro e w1 ⟨rfl, Q, q1, q2, q3, q4, q5⟩))
                  go_meet
                  exact ⟨Q, q1, by rw [q2, ← HQl.out]; simp, q3, q4, HM.out.then_ q5⟩
                · have hc2z : ¬ (i : Int) < (mid : Int) := by omega
                  have HZ := Lib.hid (show R1 = [] from List.eq_nil_of_length_eq_zero (by have := HE.out; have := HEn.out; have := HN.out; omega))
                  go_wp2_with (fail)
                  go_meet
                  refine ⟨L1 ++ R1, by have := HR.out; simpa using this, HQl.out, Srt.refl _, ?_, HM.out⟩
                  rw [HZ.out, List.append_nil]; exact HSs.out.1
              · have hc1z : ¬ (a : Int) < (i : Int) := by omega
                have HZ := Lib.hid (show L1 = [] from List.eq_nil_of_length_eq_zero (by have := HE.out; omega))
                go_wp2_with (fail)
                go_meet
                refine ⟨L1 ++ R1, by have := HR.out; simpa using this, HQl.out, Srt.refl _, ?_, HM.out⟩
                rw [HZ.out, List.nil_append]; exact HSs.out.2.2.1
            case rest =>
              obtain ⟨Q, hR3, hQl, hQ1, hQ2, hM3⟩ := hcut
              have HQ := Lib.hid (⟨hQl, hQ1, hQ2⟩ : Q.length = mid - a ∧ Srt (ltC ct) (L1 ++ R1) Q ∧ Srd (ltC ct) Q)
              have HR := Lib.hid hR3
              have HM := Lib.hid hM3
              clear hR3 hQl hQ1 hQ2 hM3
              have HFin : Hid (∀ Q2, Srt (ltC ct) (L2 ++ R2) Q2 → Srd (ltC ct) Q2 → Srt (ltC ct) (l1 ++ l2) (Q ++ Q2) ∧ Srd (ltC ct) (Q ++ Q2)) := fun Q2 k1 k2 => by
                have h1 := HS.out.1
                have h2 := HS.out.2
                rw [HE.out.1] at h1 ⊢
                rw [HE.out.2.1] at h2 ⊢
                exact merge_ok (ltC_leO ct) h1 h2 HTu.out.1 HTu.out.2 HQ.out.2.1 HQ.out.2.2 k1 k2
              have HLn : Hid (∀ Q2 : List (SI N), Q2.length = L2.length + R2.length → (Q ++ Q2).length = l1.length + l2.length) := fun Q2 k => by
                have := HE.out; have := HQ.out; have := HEn.out; have := HN.out; have := HMd.out; have := HA.out
                rw [HE.out.1, HE.out.2.1]; simp; omega
              by_cases hc1 : mid < en
              · have hc1z : (mid : Int) < (en : Int) := by omega
                by_cases hc2 : en < b
                · have hc2z : (en : Int) < (b : Int) := by omega
                  have HSy := Lib.hid (HI.out wc (P ++ Q) L2 R2 R mid en b (HCw.out _ HM.out) (by have := HE.out; have := HEn.out; have := HN.out; have := HMd.out; have := HA.out; omega) HSs.out.2.1 HSs.out.2.2.2 (by have := HE.out; have := HEn.out; have := HN.out; omega) (by have := HE.out; omega) (by have := HR.out; simpa using this) (by have := HQ.out; have := HE.out; have := HEn.out; have := HN.out; have := HMd.out; rw [← HL9]; simp; omega) (by have := HQ.out; have := HA.out; have := HMd.out; simp; omega) (by have := HE.out; have := HEn.out; have := HN.out; omega) (by have := HE.out; omega))
                  go_wp2_with (first
                    | (go_at_call 80; (with_reducible refine HSy.out.mono ?_); rintro e w1 ⟨rfl, Q2, q1, q2, q3, q4, q5⟩))
                  go_end0
                  exact ⟨rfl, Q ++ Q2, by simpa using q1, HLn.out Q2 q2, (HFin.out Q2 q3 q4).1, (HFin.out Q2 q3 q4).2, HM.out.then_ q5⟩
                · have hc2z : ¬ (en : Int) < (b : Int) := by omega
                  have HZ := Lib.hid (show R2 = [] from List.eq_nil_of_length_eq_zero (by have := HE.out; omega))
                  have HF := Lib.hid (HFin.out (L2 ++ R2) (Srt.refl _) (by rw [HZ.out, List.append_nil]; exact HSs.out.2.1))
                  go_wp2_with (fail)
                  go_end0
                  exact ⟨rfl, Q ++ (L2 ++ R2), by have := HR.out; simpa using this, HLn.out _ (by simp), HF.out.1, HF.out.2, HM.out⟩
              · have hc1z : ¬ (mid : Int) < (en : Int) := by omega
                have HZ := Lib.hid (show L2 = [] from List.eq_nil_of_length_eq_zero (by have := HE.out; have := HEn.out; have := HN.out; omega))
                have HF := Lib.hid (HFin.out (L2 ++ R2) (Srt.refl _) (by rw [HZ.out, List.nil_append]; exact HSs.out.2.2.2))
                go_wp2_with (fail)
                go_end0
                exact ⟨rfl, Q ++ (L2 ++ R2), by have := HR.out; simpa using this, HLn.out _ (by simp), HF.out.1, HF.out.2, HM.out⟩

/-- Two sorted neighbours are merged. -/
theorem symm_any {gb bx gc : Nat} {ct : List Int} (hne : gb ≠ bx ∧ gb ≠ gc) (hNN : N ≤ 1000000) {tl : List Value} {L : Nat} (c : Nat) (hl : L ≤ 4000000000) (hc : L ≤ c) : ∀ (z : Nat) (w : World) (P l1 l2 R : List (SI N)) (a m b : Nat), CtR N w bx gc ct → l1.length + l2.length ≤ z → Srd (ltC ct) l1 → Srd (ltC ct) l2 → 0 < l1.length → 0 < l2.length → SRow w gb (P ++ (l1 ++ (l2 ++ R))) tl → (P ++ (l1 ++ (l2 ++ R))).length = L → a = P.length → m = a + l1.length → b = m + l2.length →
    Calls Try.prog 80 #[.slice (some ⟨gb, 0, none⟩) L c, .int .i64 a, .int .i64 m, .int .i64 b, .func (.func 51) #[] #[.pointer (some ⟨bx, 0, none⟩)]] w (SymPost ct w gb P l1 l2 R tl)
  | 0, w, P, l1, l2, R, a, m, b, hct, hN, h1, h2, p1, p2, hR, hL, ha, hm, hb => by omega
  | z + 1, w, P, l1, l2, R, a, m, b, hct, hN, h1, h2, p1, p2, hR, hL, ha, hm, hb => by
    by_cases h11 : l1.length = 1
    · obtain ⟨x, rfl⟩ := List.length_eq_one_iff.1 h11
      exact symA_any hct hne hNN h2 hR hL c hl hc ha hm hb
    · by_cases h21 : l2.length = 1
      · obtain ⟨x, rfl⟩ := List.length_eq_one_iff.1 h21
        exact symB_any hct hne hNN h1 h11 hR hL c hl hc ha hm hb
      · exact symC_any hct hne hNN h1 h2 (by omega) (by omega) hR hL c hl hc ha hm hb (fun w' P' k1 k2 R' a' m' b' hct' hlt s1 s2 q1 q2 r1 r2 r3 r4 r5 => symm_any hne hNN c hl hc z w' P' k1 k2 R' a' m' b' hct' (by omega) s1 s2 q1 q2 r1 r2 r3 r4 r5)
end Go.Proofs.Ytbbflddhbamjbaa
