/- IndexLast: the walk. -/
import Derived.Test.YtaimjlnhdobgeaaMkKnown
import Derived.Test.YtaimjlnhdobgeaaMkDrawn
import Derived.Deep.DeepCutAuto
set_option linter.unusedSimpArgs false
set_option linter.unusedVariables false
namespace Go.Proofs.Ytaimjlnhdobgeaa.indexLast
open Go.RowKit

def anyM (l : List Mk) (s a : Int) : Bool := l.any fun x => decide (x.st = s ∧ x.at_ ≤ a)
theorem anyM_snoc (l : List Mk) (m : Mk) (s a : Int) : anyM (l ++ [m]) s a = (anyM l s a || decide (m.st = s ∧ m.at_ ≤ a)) := by simp [anyM]
theorem find_spec (s a : Int) (l : List Mk) : ∀ b : Option Mk, (∀ x, b = some x → x.st = s ∧ x.at_ ≤ a) →
    (l.foldl (better s a) b).isSome = (b.isSome || anyM l s a) ∧ (∀ m, l.foldl (better s a) b = some m → m.st = s ∧ m.at_ ≤ a ∧ (∀ x, b = some x → x.at_ ≤ m.at_) ∧ ∀ x ∈ l, x.st = s → x.at_ ≤ a → x.at_ ≤ m.at_) := by
  induction l with
  | nil =>
    intro b hb
    refine ⟨by simp [anyM], fun m h => ?_⟩
    simp only [List.foldl_nil] at h
    have h1 := hb m h
    exact ⟨h1.1, h1.2, fun x hx => by rw [h] at hx; injection hx with hx; rw [hx]; exact Int.le_refl _, fun x hx => by cases hx⟩
  | cons y l ih =>
    intro b hb
    rw [List.foldl_cons]
    have hb' : ∀ x, better s a b y = some x → x.st = s ∧ x.at_ ≤ a := by
      intro x hx
      unfold better at hx
      split at hx
      · rename_i hy
        cases b with
        | none => simp only [Option.some.injEq] at hx; rw [← hx]; exact hy
        | some z =>
          simp only at hx
          split at hx
          · injection hx with hx; rw [← hx]; exact hy
          · exact hb x hx
      · exact hb x hx
    obtain ⟨i1, i2⟩ := ih _ hb'
    refine ⟨?_, fun m h => ?_⟩
    · rw [i1]
      unfold better
      by_cases hy : y.st = s ∧ y.at_ ≤ a
      · rw [if_pos hy]
        have h1 : anyM (y :: l) s a = true := by simp [anyM, hy]
        rw [h1]
        cases b with
        | none => simp
        | some z => simp only; split <;> simp
      · rw [if_neg hy]
        have h1 : anyM (y :: l) s a = anyM l s a := by
          simp only [anyM, List.any_cons, decide_eq_false hy, Bool.false_or]
        rw [h1]
    · obtain ⟨j1, j2, j3, j4⟩ := i2 m h
      have hge : ∀ x, b = some x → x.at_ ≤ m.at_ := by
        intro x hx
        subst hx
        unfold better at j3
        split at j3
        · simp only at j3
          split at j3
          · rename_i h9; have := j3 y rfl; omega
          · exact j3 x rfl
        · exact j3 x rfl
      refine ⟨j1, j2, hge, fun x hx hs ha => ?_⟩
      rcases List.mem_cons.1 hx with rfl | hx
      · unfold better at j3
        rw [if_pos ⟨hs, ha⟩] at j3
        cases b with
        | none => exact j3 x rfl
        | some z =>
          simp only at j3
          split at j3
          · exact j3 x rfl
          · rename_i h9; have := j3 z rfl; omega
      · exact j4 x hx hs ha
theorem find_some (l : List Mk) (s a : Int) : (findM l s a).isSome = anyM l s a := by
  have := (find_spec s a l none (fun x h => by cases h)).1
  rw [findM, this]; simp
theorem find_is {l : List Mk} {s a : Int} {m : Mk} (h : findM l s a = some m) : m.st = s ∧ m.at_ ≤ a ∧ ∀ x ∈ l, x.st = s → x.at_ ≤ a → x.at_ ≤ m.at_ := by
  obtain ⟨h1, h2, _, h4⟩ := (find_spec s a l none (fun x h => by cases h)).2 m h
  exact ⟨h1, h2, h4⟩

set_option maxHeartbeats 8000000 in
set_option maxRecDepth 100000 in
theorem walk (w : World) (A0 : Option Addr) (c0 : Nat) (t : List Int) (ht : ∀ x ∈ t, -9223372036854775808 ≤ x ∧ x ≤ 9223372036854775807) (hc : t.length ≤ c0) (h63 : c0 ≤ 9223372036854775807) (hrt : RdI w w.heap.size .i64 A0 t)
    (st : Int) (st0 : -9223372036854775808 ≤ st) (st1 : st ≤ 9223372036854775807) (a : Int) (a0 : -9223372036854775808 ≤ a) (a1 : a ≤ 9223372036854775807) :
    Calls Try.prog 5 #[.slice A0 t.length c0, .int .i64 st, .int .i64 a] w fun e w' => e = .returned (.bool true) ∧ Below w.heap.size w w' := by
  have HK := Lib.hid (fun W => known_any W)
  have HT := Lib.hid (newtape_any A0 t c0 ht hc (by omega) w hrt (Nat.le_refl _))
  have HD := Lib.hid (fun W (hW : TapeB W w.heap.size w.heap.size) => drawn_any hW)
  have HN := Lib.hid (fun W (hW : TapeB W w.heap.size w.heap.size) n n0 n1 => next_any hW n n0 n1)
  have HW := Lib.hid (fun W => within_any st 0 3 st0 st1 (by omega) (by omega) (by omega) W)
  clear ht hrt
  generalize withinV st 0 3 = s at *
  go_enter Try.func5, Try.ntmps5
  go_upto_region 4 with (first
    | (go_at_call 7; (with_reducible refine HT.out.mono ?_); rintro e w1 ⟨rfl, hT1, hb1⟩)
    | (go_at_call 6; (with_reducible refine (HD.out _ hT1).mono ?_); rintro e w2 ⟨v2, l, rfl, hl, hall, ho2, hT2, hg2⟩)
    | (go_at_call 11; (with_reducible refine (HW.out _).mono ?_); rintro e w3 ⟨rfl, rfl⟩))
  have bb2 := below_one hb1 hg2 (Nat.le_refl _)
  obtain ⟨A2, c2, rfl, hc2, hr2⟩ := ho2.reads MkR.good (S := fun b => w.heap.size < b ∧ b < w2.heap.size) (fun b hb hl => by
    have h1 := hT1.lt
    rcases hb with hb | hb
    · exact ⟨by have := hb.1; omega, hl⟩
    · exact ⟨by have := (ho2.own_ge b hb).1; omega, hl⟩)
  have HR := Lib.hid (fun W (h : w2.grownBy W (some w.heap.size)) => hr2.keep MkR.good (Mod.of_only (M := (· = w.heap.size)) h (fun _ => rfl)) (fun b hb _ => (show ¬ b = w.heap.size by have := hb.1; omega)))
  have hg20 := only_refl w2 (some w.heap.size)
  clear hr2 ho2 hg2 hb1 hall
  go_cut [27] (fun v wc => ∃ b : Bool, v = .bool b ∧ (b = true → 0 < l.length) ∧ TapeB wc w.heap.size w.heap.size ∧ w2.grownBy wc (some w.heap.size))
  case first =>
    by_cases h0 : 0 < l.length
    · go_wp2_with (first
        | (go_at_call 19; (with_reducible refine (HN.out _ hT2 2 (by omega) (by omega)).mono ?_); rintro e w3 ⟨r3, rfl, hr3, hT3, hg3⟩))
      go_meet
      exact ⟨_, rfl, fun _ => h0, hT3, hg3⟩
    · have h0' : decide (0 < l.length) = false := decide_eq_false h0
      go_wp2
      go_meet
      exact ⟨_, rfl, (fun h => by cases h), hT2, hg20⟩
  case rest =>
  obtain ⟨b, rfl, hbl, hT3, hg3⟩ := hcut
  have HBL := Lib.hid hbl
  clear hbl
  go_upto_if 27 with (fail)
  go_cut [2] (fun v wc => ∃ a' : Int, v = .int .i64 a' ∧ w2.grownBy wc (some w.heap.size))
  case first =>
    cases b with
    | false =>
      go_wp2
      go_meet
      exact ⟨_, rfl, hg3⟩
    | true =>
      have h0 := HBL.out rfl
      go_wp2_with (first
        | (go_at_call 19; (with_reducible refine (HN.out _ hT3 (l.length : Int) (by omega) (by omega)).mono ?_); rintro e w4 ⟨r4, rfl, hr4, hT4, hg4⟩; obtain ⟨ad, p, hA2, _, hp, e0, e1, e2, hw⟩ := RdMk.at_ (HR.out _ (only_trans hg3 hg4)) (j := r4) (by omega); subst hA2))
      go_meet
      exact ⟨_, rfl, only_trans hg3 hg4⟩
  case rest =>
  obtain ⟨a', rfl, hg4⟩ := hcut
  have hr4 := HR.out _ hg4
  have bb4 := below_one bb2 hg4 (Nat.le_refl _)
  have HF := Lib.hid (find_any (c := c2) hr4 (by omega) s a')
  have hF1 := find_some l s a'
  have hF2 : (findM l s a').isSome = true → (foundV (findM l s a')).st = s ∧ (foundV (findM l s a')).at_ ≤ a' ∧ ∀ x ∈ l, x.st = s → x.at_ ≤ a' → x.at_ ≤ (foundV (findM l s a')).at_ := by
    intro h
    cases hm : findM l s a' with
    | none => rw [hm] at h; cases h
    | some m => exact find_is hm
  generalize (findM l s a').isSome = okb at *
  generalize foundV (findM l s a') = fv at *
  obtain ⟨f1, f2, f3⟩ := fv
  simp only at hF2
  have HF1 := Lib.hid hF1
  have HF2 := Lib.hid hF2
  clear hF1 hF2 hT3 hg3 hT2 hg20
  go_upto_region 7 with (first
    | (go_at_call 20; (with_reducible refine HF.out.mono ?_); rintro e w5 ⟨rfl, hb5⟩))
  have kf := Blk.new w5 49 #[.int .i64 f1, .int .i64 f2, .int .i64 f3]
  have b6' : Below w5.heap.size w5 (w5.alloc (.cells #[.int .i64 f1, .int .i64 f2, .int .i64 f3] 49)) := below_alloc (Below.refl _ _) _
  generalize w5.alloc (.cells #[.int .i64 f1, .int .i64 f2, .int .i64 f3] 49) = w6 at *
  have b46 := below_then hb5 b6'
  have bb6 := below_then bb4 b46
  have hr6 := hr4.below MkR.good b46
  have u0 := kf.cell 0
  have u1 := kf.cell 1
  have HB := Lib.hid hr6
  clear hr6 hr4 HF hg4 hb5 b6' b46
  go_wp2
  go_loopw [12, 13] (fun sm i wr => ∃ k n : Nat, k ≤ l.length ∧ i = .int .i64 k ∧ sm = .bool (anyM (l.take k) s a') ∧ wr = w6.drewN n) (fun _ i _ => l.length - (intOf i).toNat)
  case atStart => exact ⟨0, 0, Nat.zero_le _, rfl, rfl, rfl⟩
  case round =>
    obtain ⟨k, n, hk, rfl, rfl, rfl⟩ := hrel
    by_cases hlt : k < l.length
    · obtain ⟨ad, p, hA2, _, hp, e0, e1, e2, hw⟩ := RdMk.at_ HB.out hlt
      subst hA2
      have HT := Lib.hid (show anyM (l.take (k + 1)) s a' = (anyM (l.take k) s a' || decide (l[k].st = s ∧ l[k].at_ ≤ a')) by rw [List.take_succ_eq_append_getElem hlt, anyM_snoc])
      have HM := Lib.hid (show l[k] ∈ l from List.getElem_mem hlt)
      generalize anyM (l.take k) s a' = acc at *
      generalize l[k] = x at *
      obtain ⟨x1, x2, x3⟩ := x
      simp only at e0 e1 e2 HT
      clear hw
      by_cases h1 : x1 = s
      · subst h1
        by_cases h2 : x2 ≤ a'
        · have hok : okb = true := by rw [HF1.out, anyM, List.any_eq_true]; exact ⟨_, HM.out, by simp [h2]⟩
          have h3 : x2 ≤ f2 := (HF2.out hok).2.2 _ HM.out rfl h2
          have h4 : decide (f2 < x2) = false := decide_eq_false (by omega)
          have HT' := Lib.hid (HT.out.trans (show _ = true by simp [h2]))
          clear hok
          go_wp2
          go_quiet (fail)
          go_wp2
          go_roundw
          case rel => exact ⟨k + 1, n + nq, by omega, by go_num, by rw [HT'.out], rfl⟩
          case measure => simp [intOf]; omega
        · have HT' := Lib.hid (HT.out.trans (show _ = acc by simp [h2]))
          have h2' : decide (x2 ≤ a') = false := decide_eq_false h2
          clear h2
          go_wp2
          go_roundw
          case rel => exact ⟨k + 1, n, by omega, by go_num, by rw [HT'.out], rfl⟩
          case measure => simp [intOf]; omega
      · have h1' : (x1 == s) = false := by rwa [beq_eq_false_iff_ne]
        have HT' := Lib.hid (HT.out.trans (show _ = acc by simp [h1]))
        clear h1
        go_wp2
        go_roundw
        case rel => exact ⟨k + 1, n, by omega, by go_num, by rw [HT'.out], rfl⟩
        case measure => simp [intOf]; omega
    · have hkl : k = l.length := by omega
      subst hkl
      rw [List.take_length, ← HF1.out]
      cases okb with
      | false =>
        go_wp2_with (first
          | (go_at_call 12; (with_reducible refine (HK.out _).mono ?_); rintro e w7 ⟨rfl, hb7⟩))
        go_ret
        exact ⟨rfl, below_then bb6 (below_undrN hb7)⟩
      | true =>
        obtain ⟨g1, g2, _⟩ := HF2.out rfl
        subst g1
        go_wp2_with (first
          | (go_at_call 12; (with_reducible refine (HK.out _).mono ?_); rintro e w7 ⟨rfl, hb7⟩))
        go_ret
        exact ⟨rfl, below_then bb6 (below_undrN hb7)⟩
end Go.Proofs.Ytaimjlnhdobgeaa.indexLast
