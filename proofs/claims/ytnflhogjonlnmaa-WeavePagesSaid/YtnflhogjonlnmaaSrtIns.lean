/- slices.insertionSortCmpFunc at packets. -/
import Derived.Test.YtnflhogjonlnmaaSrtBs
import Derived.Test.YtnflhogjonlnmaaSrtCmp
set_option linter.unusedSimpArgs false
set_option linter.unusedVariables false
namespace Go.Proofs.Ytnflhogjonlnmaa
open Go.RowKit

def ltAll (x y : SP) : Bool := decide (cfAll x y < 0)
theorem cfAll_neg (x y : SP) : cfAll x y < 0 ↔ x.p.at_ < y.p.at_ ∨ (x.p.at_ = y.p.at_ ∧ x.p.st < y.p.st) := by
  have e : ∀ a b : Int, (cmp3 a b ≠ 0 ↔ a ≠ b) ∧ (cmp3 a b < 0 ↔ a < b) := fun a b => by unfold cmp3; split <;> (try split) <;> omega
  unfold cfAll
  have h1 := e x.p.at_ y.p.at_
  have h2 := e x.p.st y.p.st
  split
  · rename_i h; rw [h1.2]; have := h1.1.1 h; omega
  · rename_i h; rw [h2.2]; have : ¬ x.p.at_ ≠ y.p.at_ := fun k => h (h1.1.2 k); omega
theorem ltAll_leO : LeO ltAll where
  asym x y h := by
    simp only [ltAll, decide_eq_true_eq, decide_eq_false_iff_not, cfAll_neg] at *; omega
  neg x y z h1 h2 := by
    simp only [ltAll, decide_eq_false_iff_not, cfAll_neg] at *; omega

set_option maxHeartbeats 16000000 in
set_option maxRecDepth 100000 in
theorem inssort_any {w : World} {gb : Nat} {P l R : List SP} {tl : List Value} {L : Nat} (h : SRow w gb (P ++ (l ++ R)) tl) (hL : (P ++ (l ++ R)).length = L) (c : Nat) (hl : L ≤ 4000000000) (hc : L ≤ c) {a b : Nat} (ha : a = P.length) (hb : b = P.length + l.length) :
    Calls Try.prog 77 #[.slice (some ⟨gb, 0, none⟩) L c, .int .i64 a, .int .i64 b, .func (.func 51) #[] #[]] w fun e w' => e = .returned (.tuple #[]) ∧ ∃ l', SRow w' gb (P ++ (l' ++ R)) tl ∧ l'.length = l.length ∧ Srt ltAll l l' ∧ Srd ltAll l' ∧ Mod (· = gb) w w' := by
  have hLL := hL
  simp only [List.length_append] at hLL
  cases l with
  | nil =>
    have hb' : b = a := by rw [ha, hb]; rfl
    subst hb'
    have hmL : b ≤ 4000000000 := by omega
    clear hLL ha hb
    go_enter Try.func77, Try.ntmps77
    go_wp2
    go_loop [8] (fun iv => iv = .int .i64 ((b : Int) + 1)) (fun _ => 0)
    case atStart => go_num
    case round =>
      subst hrel
      have hbb : ¬ (b : Int) + 1 < (b : Int) := by omega
      go_wp2
      go_end0
      exact ⟨rfl, [], h, rfl, Srt.refl _, Srd.nil, Mod.refl _ _⟩
  | cons x0 l0 =>
    have HC := fun x y W => less_any x y W
    simp only [SP.val] at HC
    replace HC := Lib.hid HC
    have HH := Lib.hid h
    have hab : b = a + 1 + l0.length := by rw [ha, hb]; simp; omega
    have hmL : b ≤ 4000000000 := by simp only [List.length_cons] at hLL; omega
    have HL := Lib.hid hL
    have HA := Lib.hid ha
    have HAB := Lib.hid hab
    have hab2 : a + 1 ≤ b := by omega
    have hbL : b ≤ L := by simp only [List.length_cons] at hLL; omega
    clear h hLL hL ha hb hab
    go_enter Try.func77, Try.ntmps77
    go_wp2
    go_loopw [8] (fun iv wr => ∃ (i : Nat) (l1 s rest : List SP), iv = .int .i64 (i : Int) ∧ x0 :: l0 = l1 ++ rest ∧ i = a + s.length ∧ s.length = l1.length ∧ 0 < s.length ∧ Srt ltAll l1 s ∧ Srd ltAll s ∧ SRow wr gb (P ++ (s ++ (rest ++ R))) tl ∧ Mod (· = gb) w wr) (fun iv _ => b - (intOf iv).toNat)
    case atStart => exact ⟨a + 1, [x0], [x0], l0, by go_num, rfl, rfl, rfl, by simp, Srt.refl _, Srd.one _, HH.out, Mod.refl _ _⟩
    case round =>
      obtain ⟨i, l1, s, rest, rfl, hl1, hi, hsl, hs0, hsrt, hsrd, hR, hM⟩ := hrel
      have hlen := congrArg List.length hl1
      simp only [List.length_append, List.length_cons] at hlen
      have hia : a + 1 ≤ i := by omega
      have hab3 := HAB.out
      by_cases hib : i < b
      · cases rest with
        | nil => simp only [List.length_nil] at hlen; omega
        | cons x rest =>
          have hibz : (i : Int) < (b : Int) := by omega
          have HO := Lib.hid (⟨hl1, hi, hsl, hs0, hsrt, hsrd⟩ : x0 :: l0 = l1 ++ (x :: rest) ∧ i = a + s.length ∧ s.length = l1.length ∧ 0 < s.length ∧ Srt ltAll l1 s ∧ Srd ltAll s)
          have HR := Lib.hid hR
          have HM := Lib.hid hM
          clear hl1 hsl hs0 hsrt hsrd hR hM hlen hi hab3
          go_wp2
          go_loopw [9] (fun jv wr => ∃ (j : Nat) (s1 s2 : List SP), jv = .int .i64 (j : Int) ∧ s = s1 ++ s2 ∧ j = a + s1.length ∧ (∀ y ∈ s2, ltAll x y = true) ∧ SRow wr gb (P ++ (s1 ++ (x :: (s2 ++ (rest ++ R))))) tl ∧ Mod (· = gb) w wr) (fun jv _ => (intOf jv).toNat)
          case atStart => exact ⟨i, s, [], rfl, by simp, HO.out.2.1, by simp, HR.out, HM.out⟩
          case round =>
            obtain ⟨j, s1, s2, rfl, hs12, hj, hgt, hR, hM⟩ := hrel
            have HG := Lib.hid hgt
            have HS := Lib.hid hs12
            have hout : (∀ y ∈ s1, ltAll x y = false) → (s1 ++ (x :: s2)).length = s.length + 1 ∧ Srt ltAll (l1 ++ [x]) (s1 ++ (x :: s2)) ∧ Srd ltAll (s1 ++ (x :: s2)) := fun h9 => by
              obtain ⟨o1, o2, o3, o4, o5, o6⟩ := HO.out
              have o6' := o6
              rw [HS.out] at o6'
              have h8 := ins_ok ltAll_leO o6' h9 HG.out
              refine ⟨by rw [HS.out]; simp; omega, Srt.trans (Srt.app o5 (Srt.refl [x])) ?_, h8.2⟩
              rw [HS.out]; exact h8.1
            have HOut := Lib.hid hout
            clear hout hgt hs12
            rcases List.eq_nil_or_concat s1 with he | ⟨s1', y, he⟩
            · subst he
              have hja : ¬ (a : Int) < (j : Int) := by simp at hj; omega
              have hja' : decide ((a : Int) < (j : Int)) = false := decide_eq_false hja
              have hjaN : decide (a < j) = false := decide_eq_false (by omega)
              have HR := Lib.hid hR
              have HM := Lib.hid hM
              clear hR hM hj
              go_wp2_with (fail)
              refine wp_region_held_drew (S := (fun _ => True)) (by kernel_rfl) ?_ (fun hHeld => ?_)
              focus exact trivial
              refine wpAnyH_take (i := 0) (v := ?_) rfl (by kernel_rfl) (by kernel_rfl) (by kernel_rfl) (fun _ _ _ h => h) (Or.inl ⟨by kernel_rfl, ?_⟩) (by assumption) ?_
              rotate_left
              focus
                intro w9 hSw
                (try dsimp only at hSw)
                go_simp
                (try with_reducible rfl)
              (try simp only [Act.put, List.getElem_toArray, List.getElem_cons_succ, List.getElem_cons_zero, List.setIfInBounds_toArray, List.set_cons_zero, List.set_cons_succ])
              refine wpAnyH_take (i := 1) (v := ?_) rfl (by kernel_rfl) (by kernel_rfl) (by kernel_rfl) (fun _ _ _ h => h) (Or.inl ⟨by kernel_rfl, ?_⟩) (by assumption) ?_
              rotate_left
              focus
                intro w9 hSw
                (try dsimp only at hSw)
                go_simp
                (try with_reducible rfl)
              (try simp only [Act.put, List.getElem_toArray, List.getElem_cons_succ, List.getElem_cons_zero, List.setIfInBounds_toArray, List.set_cons_zero, List.set_cons_succ])
              refine wpAnyH_take (i := 2) (v := ?_) rfl (by kernel_rfl) (by kernel_rfl) (by kernel_rfl) (fun _ _ _ h => h) (Or.inl ⟨by kernel_rfl, ?_⟩) (by assumption) ?_
              rotate_left
              focus
                intro w9 hSw
                (try dsimp only at hSw)
                go_simp
                (try with_reducible rfl)
              (try simp only [Act.put, List.getElem_toArray, List.getElem_cons_succ, List.getElem_cons_zero, List.setIfInBounds_toArray, List.set_cons_zero, List.set_cons_succ])
              refine wpAnyH_take (i := 3) (v := ?_) rfl (by kernel_rfl) (by kernel_rfl) (by kernel_rfl) (fun _ _ _ h => h) (Or.inl ⟨by kernel_rfl, ?_⟩) (by assumption) ?_
              rotate_left
              focus
                intro w9 hSw
                (try dsimp only at hSw)
                go_simp
                (try with_reducible rfl)
              (try simp only [Act.put, List.getElem_toArray, List.getElem_cons_succ, List.getElem_cons_zero, List.setIfInBounds_toArray, List.set_cons_zero, List.set_cons_succ])
              refine wpAnyH_take (i := 4) (v := undef) rfl (by kernel_rfl) (by kernel_rfl) (by kernel_rfl) (fun _ _ _ h => h) (Or.inr ⟨by kernel_rfl, rfl⟩) (by assumption) ?_
              (try simp only [Act.put, List.getElem_toArray, List.getElem_cons_succ, List.getElem_cons_zero, List.setIfInBounds_toArray, List.set_cons_zero, List.set_cons_succ])
              refine wpAnyH_take (i := 5) (v := undef) rfl (by kernel_rfl) (by kernel_rfl) (by kernel_rfl) (fun _ _ _ h => h) (Or.inr ⟨by kernel_rfl, rfl⟩) (by assumption) ?_
              (try simp only [Act.put, List.getElem_toArray, List.getElem_cons_succ, List.getElem_cons_zero, List.setIfInBounds_toArray, List.set_cons_zero, List.set_cons_succ])
              refine wpAnyH_take (i := 6) (v := undef) rfl (by kernel_rfl) (by kernel_rfl) (by kernel_rfl) (fun _ _ _ h => h) (Or.inr ⟨by kernel_rfl, rfl⟩) (by assumption) ?_
              (try simp only [Act.put, List.getElem_toArray, List.getElem_cons_succ, List.getElem_cons_zero, List.setIfInBounds_toArray, List.set_cons_zero, List.set_cons_succ])
              refine wpAnyH_take (i := 7) (v := undef) rfl (by kernel_rfl) (by kernel_rfl) (by kernel_rfl) (fun _ _ _ h => h) (Or.inr ⟨by kernel_rfl, rfl⟩) (by assumption) ?_
              (try simp only [Act.put, List.getElem_toArray, List.getElem_cons_succ, List.getElem_cons_zero, List.setIfInBounds_toArray, List.set_cons_zero, List.set_cons_succ])
              refine wpAnyH_take (i := 8) (v := undef) rfl (by kernel_rfl) (by kernel_rfl) (by kernel_rfl) (fun _ _ _ h => h) (Or.inr ⟨by kernel_rfl, rfl⟩) (by assumption) ?_
              (try simp only [Act.put, List.getElem_toArray, List.getElem_cons_succ, List.getElem_cons_zero, List.setIfInBounds_toArray, List.set_cons_zero, List.set_cons_succ])
              refine wpAnyH_take (i := 9) (v := undef) rfl (by kernel_rfl) (by kernel_rfl) (by kernel_rfl) (fun _ _ _ h => h) (Or.inr ⟨by kernel_rfl, rfl⟩) (by assumption) ?_
              (try simp only [Act.put, List.getElem_toArray, List.getElem_cons_succ, List.getElem_cons_zero, List.setIfInBounds_toArray, List.set_cons_zero, List.set_cons_succ])
              refine wpAnyH_take (i := 10) (v := undef) rfl (by kernel_rfl) (by kernel_rfl) (by kernel_rfl) (fun _ _ _ h => h) (Or.inr ⟨by kernel_rfl, rfl⟩) (by assumption) ?_
              (try simp only [Act.put, List.getElem_toArray, List.getElem_cons_succ, List.getElem_cons_zero, List.setIfInBounds_toArray, List.set_cons_zero, List.set_cons_succ])
              refine wpAnyH_take (i := 11) (v := undef) rfl (by kernel_rfl) (by kernel_rfl) (by kernel_rfl) (fun _ _ _ h => h) (Or.inr ⟨by kernel_rfl, rfl⟩) (by assumption) ?_
              (try simp only [Act.put, List.getElem_toArray, List.getElem_cons_succ, List.getElem_cons_zero, List.setIfInBounds_toArray, List.set_cons_zero, List.set_cons_succ])
              refine wpAnyH_take (i := 12) (v := undef) rfl (by kernel_rfl) (by kernel_rfl) (by kernel_rfl) (fun _ _ _ h => h) (Or.inr ⟨by kernel_rfl, rfl⟩) (by assumption) ?_
              (try simp only [Act.put, List.getElem_toArray, List.getElem_cons_succ, List.getElem_cons_zero, List.setIfInBounds_toArray, List.set_cons_zero, List.set_cons_succ])
              refine wpAnyH_take (i := 13) (v := undef) rfl (by kernel_rfl) (by kernel_rfl) (by kernel_rfl) (fun _ _ _ h => h) (Or.inr ⟨by kernel_rfl, rfl⟩) (by assumption) ?_
              (try simp only [Act.put, List.getElem_toArray, List.getElem_cons_succ, List.getElem_cons_zero, List.setIfInBounds_toArray, List.set_cons_zero, List.set_cons_succ])
              refine wpAnyH_take (i := 14) (v := undef) rfl (by kernel_rfl) (by kernel_rfl) (by kernel_rfl) (fun _ _ _ h => h) (Or.inr ⟨by kernel_rfl, rfl⟩) (by assumption) ?_
              (try simp only [Act.put, List.getElem_toArray, List.getElem_cons_succ, List.getElem_cons_zero, List.setIfInBounds_toArray, List.set_cons_zero, List.set_cons_succ])
              refine wpAnyH_take (i := 15) (v := undef) rfl (by kernel_rfl) (by kernel_rfl) (by kernel_rfl) (fun _ _ _ h => h) (Or.inr ⟨by kernel_rfl, rfl⟩) (by assumption) ?_
              (try simp only [Act.put, List.getElem_toArray, List.getElem_cons_succ, List.getElem_cons_zero, List.setIfInBounds_toArray, List.set_cons_zero, List.set_cons_succ])
              refine wpAnyH_take (i := 16) (v := ?_) rfl (by kernel_rfl) (by kernel_rfl) (by kernel_rfl) (fun _ _ _ h => h) (Or.inl ⟨by kernel_rfl, ?_⟩) (by assumption) ?_
              rotate_left
              focus
                intro w9 hSw
                (try dsimp only at hSw)
                go_simp
                (try with_reducible rfl)
              (try simp only [Act.put, List.getElem_toArray, List.getElem_cons_succ, List.getElem_cons_zero, List.setIfInBounds_toArray, List.set_cons_zero, List.set_cons_succ])
              refine wpAnyH_done (by kernel_rfl) ?_ _
              (try simp only [Act.put, List.getElem_toArray, List.getElem_cons_succ, List.getElem_cons_zero, List.setIfInBounds_toArray, List.set_cons_zero, List.set_cons_succ])
              have hi9 : i + 1 ≤ 4000000001 := by omega
              go_wp2
              go_roundw
              case rel =>
                obtain ⟨o1, o2, o3, o4, o5, o6⟩ := HO.out
                obtain ⟨p1, p2, p3⟩ := HOut.out (by simp)
                refine ⟨i + 1, l1 ++ [x], [] ++ (x :: s2), rest, by go_num, by simpa using o1, by rw [p1]; omega, by rw [p1]; simp; omega, by rw [p1]; omega, p2, p3, ?_, ?_⟩
                · refine SRow.drew ?_
                  simpa using HR.out
                · exact HM.out.drew
              case measure => simp [intOf]; omega
            · subst he
              have hj' : j = a + s1'.length + 1 := by rw [hj]; simp; omega
              obtain ⟨q, hq⟩ : ∃ q, a + s1'.length = q := ⟨_, rfl⟩
              rw [hq] at hj'
              have hja : (a : Int) < (j : Int) := by omega
              have hjb : j ≤ i := by
                have h9 := HO.out.2.1
                have h8 := congrArg List.length HS.out
                simp only [List.concat_eq_append, List.length_append, List.length_cons, List.length_nil] at h8
                omega
              have e1 : IntKind.i64.wrap ((j : Int) - 1) = (q : Int) := by rw [IntWalk.i64_in _ (by omega)]; omega
              have hLn : (P ++ (s1'.concat y ++ (x :: (s2 ++ (rest ++ R))))).length = L := by
                have h9 := congrArg List.length HO.out.1
                have h7 := HO.out.2.2.1
                have h8 := congrArg List.length HS.out
                rw [← HL.out]
                simp only [List.concat_eq_append, List.length_append, List.length_cons, List.length_nil] at h8 h9 ⊢
                omega
              have hxa : (P ++ (s1'.concat y ++ (x :: (s2 ++ (rest ++ R))))).getD j spz = x := by
                rw [← List.append_assoc, show j = (P ++ s1'.concat y).length by rw [hj', ← hq, HA.out]; simp; omega]
                exact getD_mid _ _ _
              have hya : (P ++ (s1'.concat y ++ (x :: (s2 ++ (rest ++ R))))).getD q spz = y := by
                rw [show P ++ (s1'.concat y ++ (x :: (s2 ++ (rest ++ R)))) = (P ++ s1') ++ (y :: (x :: (s2 ++ (rest ++ R)))) by simp, show q = (P ++ s1').length by rw [← hq, HA.out]; simp]
                exact getD_mid _ _ _
              have hsw : swp (P ++ (s1'.concat y ++ (x :: (s2 ++ (rest ++ R))))) j q = P ++ (s1' ++ (x :: ((y :: s2) ++ (rest ++ R)))) := by
                rw [show P ++ (s1'.concat y ++ (x :: (s2 ++ (rest ++ R)))) = (P ++ s1') ++ (y :: ([] ++ (x :: (s2 ++ (rest ++ R))))) by simp]
                rw [swp_mid' (P ++ s1') [] (s2 ++ (rest ++ R)) y x (i := q) (j := j) (by rw [← hq, HA.out]; simp) (by rw [hj', ← hq, HA.out]; simp)]
                simp
              rw [swp, hxa, hya] at hsw
              have hjl : j < (P ++ (s1'.concat y ++ (x :: (s2 ++ (rest ++ R))))).length := by omega
              have hql : q < (P ++ (s1'.concat y ++ (x :: (s2 ++ (rest ++ R))))).length := by omega
              have hjL : j < L := by omega
              have hqL : q < L := by omega
              obtain ⟨x0, x1, x2, x3, x4, x5⟩ := hR.at_ hjl hxa
              obtain ⟨y0, y1, y2, y3, y4, y5⟩ := hR.at_ hql hya
              have HSW := Lib.hid hsw
              have HLn := Lib.hid hLn
              have HR := Lib.hid hR
              have HM := Lib.hid hM
              have HQ := Lib.hid hq
              have HJ := Lib.hid hj'
              have HC1 := Lib.hid (fun W => HC.out x y W)
              have HLt := Lib.hid (show ltAll x y = decide (cfAll x y < 0) from rfl)
              have hne : j ≠ q := by omega
              clear hR hM hLn hsw hxa hya hq hj' hj
              generalize cfAll x y = cf at *
              go_wp2_with (fail)
              refine wp_region_held_drew (S := (fun w' => Below wr.heap.size wr w')) (by kernel_rfl) ?_ (fun hHeld => ?_)
              focus exact (Below.refl _ _).drew
              refine wpAnyH_take (i := 0) (v := ?_) rfl (by kernel_rfl) (by kernel_rfl) (by kernel_rfl) (fun _ _ _ h => h) (Or.inl ⟨by kernel_rfl, ?_⟩) (by assumption) ?_
              rotate_left
              focus
                intro w9 hSw
                (try dsimp only at hSw)
                have zK : ∀ {a9 : Addr} {u9 : Value}, wr.cell? a9 = some u9 → w9.cell? a9 = some u9 := fun {a9} {u9} h9 => (hSw.cell (World.block_lt_of_cell? wr a9 h9)).trans h9
                have z0 := zK x0
                have z1 := zK x1
                have z2 := zK x2
                have z3 := zK x3
                have z4 := zK x4
                have z5 := zK x5
                have z6 := zK y0
                have z7 := zK y1
                have z8 := zK y2
                have z9 := zK y3
                have z10 := zK y4
                have z11 := zK y5
                clear zK hSw
                go_simp
                (try with_reducible rfl)
              (try simp only [Act.put, List.getElem_toArray, List.getElem_cons_succ, List.getElem_cons_zero, List.setIfInBounds_toArray, List.set_cons_zero, List.set_cons_succ])
              refine wpAnyH_take (i := 1) (v := ?_) rfl (by kernel_rfl) (by kernel_rfl) (by kernel_rfl) (fun _ _ _ h => h) (Or.inl ⟨by kernel_rfl, ?_⟩) (by assumption) ?_
              rotate_left
              focus
                intro w9 hSw
                (try dsimp only at hSw)
                have zK : ∀ {a9 : Addr} {u9 : Value}, wr.cell? a9 = some u9 → w9.cell? a9 = some u9 := fun {a9} {u9} h9 => (hSw.cell (World.block_lt_of_cell? wr a9 h9)).trans h9
                have z0 := zK x0
                have z1 := zK x1
                have z2 := zK x2
                have z3 := zK x3
                have z4 := zK x4
                have z5 := zK x5
                have z6 := zK y0
                have z7 := zK y1
                have z8 := zK y2
                have z9 := zK y3
                have z10 := zK y4
                have z11 := zK y5
                clear zK hSw
                go_simp
                (try with_reducible rfl)
              (try simp only [Act.put, List.getElem_toArray, List.getElem_cons_succ, List.getElem_cons_zero, List.setIfInBounds_toArray, List.set_cons_zero, List.set_cons_succ])
              refine wpAnyH_take (i := 2) (v := ?_) rfl (by kernel_rfl) (by kernel_rfl) (by kernel_rfl) (fun _ _ _ h => h) (Or.inl ⟨by kernel_rfl, ?_⟩) (by assumption) ?_
              rotate_left
              focus
                intro w9 hSw
                (try dsimp only at hSw)
                have zK : ∀ {a9 : Addr} {u9 : Value}, wr.cell? a9 = some u9 → w9.cell? a9 = some u9 := fun {a9} {u9} h9 => (hSw.cell (World.block_lt_of_cell? wr a9 h9)).trans h9
                have z0 := zK x0
                have z1 := zK x1
                have z2 := zK x2
                have z3 := zK x3
                have z4 := zK x4
                have z5 := zK x5
                have z6 := zK y0
                have z7 := zK y1
                have z8 := zK y2
                have z9 := zK y3
                have z10 := zK y4
                have z11 := zK y5
                clear zK hSw
                go_simp
                (try with_reducible rfl)
              (try simp only [Act.put, List.getElem_toArray, List.getElem_cons_succ, List.getElem_cons_zero, List.setIfInBounds_toArray, List.set_cons_zero, List.set_cons_succ])
              refine wpAnyH_take (i := 3) (v := ?_) rfl (by kernel_rfl) (by kernel_rfl) (by kernel_rfl) (fun _ _ _ h => h) (Or.inl ⟨by kernel_rfl, ?_⟩) (by assumption) ?_
              rotate_left
              focus
                intro w9 hSw
                (try dsimp only at hSw)
                have zK : ∀ {a9 : Addr} {u9 : Value}, wr.cell? a9 = some u9 → w9.cell? a9 = some u9 := fun {a9} {u9} h9 => (hSw.cell (World.block_lt_of_cell? wr a9 h9)).trans h9
                have z0 := zK x0
                have z1 := zK x1
                have z2 := zK x2
                have z3 := zK x3
                have z4 := zK x4
                have z5 := zK x5
                have z6 := zK y0
                have z7 := zK y1
                have z8 := zK y2
                have z9 := zK y3
                have z10 := zK y4
                have z11 := zK y5
                clear zK hSw
                go_simp
                (try with_reducible rfl)
              (try simp only [Act.put, List.getElem_toArray, List.getElem_cons_succ, List.getElem_cons_zero, List.setIfInBounds_toArray, List.set_cons_zero, List.set_cons_succ])
              refine wpAnyH_take (i := 4) (v := ?_) rfl (by kernel_rfl) (by kernel_rfl) (by kernel_rfl) (fun _ _ _ h => h) (Or.inl ⟨by kernel_rfl, ?_⟩) (by assumption) ?_
              rotate_left
              focus
                intro w9 hSw
                (try dsimp only at hSw)
                have zK : ∀ {a9 : Addr} {u9 : Value}, wr.cell? a9 = some u9 → w9.cell? a9 = some u9 := fun {a9} {u9} h9 => (hSw.cell (World.block_lt_of_cell? wr a9 h9)).trans h9
                have z0 := zK x0
                have z1 := zK x1
                have z2 := zK x2
                have z3 := zK x3
                have z4 := zK x4
                have z5 := zK x5
                have z6 := zK y0
                have z7 := zK y1
                have z8 := zK y2
                have z9 := zK y3
                have z10 := zK y4
                have z11 := zK y5
                clear zK hSw
                go_simp
                (try with_reducible rfl)
              (try simp only [Act.put, List.getElem_toArray, List.getElem_cons_succ, List.getElem_cons_zero, List.setIfInBounds_toArray, List.set_cons_zero, List.set_cons_succ])
              refine wpAnyH_take (i := 5) (v := ?_) rfl (by kernel_rfl) (by kernel_rfl) (by kernel_rfl) (fun _ _ _ h => h) (Or.inl ⟨by kernel_rfl, ?_⟩) (by assumption) ?_
              rotate_left
              focus
                intro w9 hSw
                (try dsimp only at hSw)
                have zK : ∀ {a9 : Addr} {u9 : Value}, wr.cell? a9 = some u9 → w9.cell? a9 = some u9 := fun {a9} {u9} h9 => (hSw.cell (World.block_lt_of_cell? wr a9 h9)).trans h9
                have z0 := zK x0
                have z1 := zK x1
                have z2 := zK x2
                have z3 := zK x3
                have z4 := zK x4
                have z5 := zK x5
                have z6 := zK y0
                have z7 := zK y1
                have z8 := zK y2
                have z9 := zK y3
                have z10 := zK y4
                have z11 := zK y5
                clear zK hSw
                go_simp
                (try with_reducible rfl)
              (try simp only [Act.put, List.getElem_toArray, List.getElem_cons_succ, List.getElem_cons_zero, List.setIfInBounds_toArray, List.set_cons_zero, List.set_cons_succ])
              refine wpAnyH_take (i := 6) (v := ?_) rfl (by kernel_rfl) (by kernel_rfl) (by kernel_rfl) (fun _ _ _ h => h) (Or.inl ⟨by kernel_rfl, ?_⟩) (by assumption) ?_
              rotate_left
              focus
                intro w9 hSw
                (try dsimp only at hSw)
                have zK : ∀ {a9 : Addr} {u9 : Value}, wr.cell? a9 = some u9 → w9.cell? a9 = some u9 := fun {a9} {u9} h9 => (hSw.cell (World.block_lt_of_cell? wr a9 h9)).trans h9
                have z0 := zK x0
                have z1 := zK x1
                have z2 := zK x2
                have z3 := zK x3
                have z4 := zK x4
                have z5 := zK x5
                have z6 := zK y0
                have z7 := zK y1
                have z8 := zK y2
                have z9 := zK y3
                have z10 := zK y4
                have z11 := zK y5
                clear zK hSw
                go_simp
                (try with_reducible rfl)
              (try simp only [Act.put, List.getElem_toArray, List.getElem_cons_succ, List.getElem_cons_zero, List.setIfInBounds_toArray, List.set_cons_zero, List.set_cons_succ])
              refine wpAnyH_take (i := 7) (v := ?_) rfl (by kernel_rfl) (by kernel_rfl) (by kernel_rfl) (fun _ _ _ h => h) (Or.inl ⟨by kernel_rfl, ?_⟩) (by assumption) ?_
              rotate_left
              focus
                intro w9 hSw
                (try dsimp only at hSw)
                have zK : ∀ {a9 : Addr} {u9 : Value}, wr.cell? a9 = some u9 → w9.cell? a9 = some u9 := fun {a9} {u9} h9 => (hSw.cell (World.block_lt_of_cell? wr a9 h9)).trans h9
                have z0 := zK x0
                have z1 := zK x1
                have z2 := zK x2
                have z3 := zK x3
                have z4 := zK x4
                have z5 := zK x5
                have z6 := zK y0
                have z7 := zK y1
                have z8 := zK y2
                have z9 := zK y3
                have z10 := zK y4
                have z11 := zK y5
                clear zK hSw
                go_simp
                (try with_reducible rfl)
              (try simp only [Act.put, List.getElem_toArray, List.getElem_cons_succ, List.getElem_cons_zero, List.setIfInBounds_toArray, List.set_cons_zero, List.set_cons_succ])
              refine wpAnyH_take (i := 8) (v := ?_) rfl (by kernel_rfl) (by kernel_rfl) (by kernel_rfl) (fun _ _ _ h => h) (Or.inl ⟨by kernel_rfl, ?_⟩) (by assumption) ?_
              rotate_left
              focus
                intro w9 hSw
                (try dsimp only at hSw)
                have zK : ∀ {a9 : Addr} {u9 : Value}, wr.cell? a9 = some u9 → w9.cell? a9 = some u9 := fun {a9} {u9} h9 => (hSw.cell (World.block_lt_of_cell? wr a9 h9)).trans h9
                have z0 := zK x0
                have z1 := zK x1
                have z2 := zK x2
                have z3 := zK x3
                have z4 := zK x4
                have z5 := zK x5
                have z6 := zK y0
                have z7 := zK y1
                have z8 := zK y2
                have z9 := zK y3
                have z10 := zK y4
                have z11 := zK y5
                clear zK hSw
                go_simp
                (try with_reducible rfl)
              (try simp only [Act.put, List.getElem_toArray, List.getElem_cons_succ, List.getElem_cons_zero, List.setIfInBounds_toArray, List.set_cons_zero, List.set_cons_succ])
              refine wpAnyH_take (i := 9) (v := ?_) rfl (by kernel_rfl) (by kernel_rfl) (by kernel_rfl) (fun _ _ _ h => h) (Or.inl ⟨by kernel_rfl, ?_⟩) (by assumption) ?_
              rotate_left
              focus
                intro w9 hSw
                (try dsimp only at hSw)
                have zK : ∀ {a9 : Addr} {u9 : Value}, wr.cell? a9 = some u9 → w9.cell? a9 = some u9 := fun {a9} {u9} h9 => (hSw.cell (World.block_lt_of_cell? wr a9 h9)).trans h9
                have z0 := zK x0
                have z1 := zK x1
                have z2 := zK x2
                have z3 := zK x3
                have z4 := zK x4
                have z5 := zK x5
                have z6 := zK y0
                have z7 := zK y1
                have z8 := zK y2
                have z9 := zK y3
                have z10 := zK y4
                have z11 := zK y5
                clear zK hSw
                go_simp
                (try with_reducible rfl)
              (try simp only [Act.put, List.getElem_toArray, List.getElem_cons_succ, List.getElem_cons_zero, List.setIfInBounds_toArray, List.set_cons_zero, List.set_cons_succ])
              refine wpAnyH_take (i := 10) (v := ?_) rfl (by kernel_rfl) (by kernel_rfl) (by kernel_rfl) (fun _ _ _ h => h) (Or.inl ⟨by kernel_rfl, ?_⟩) (by assumption) ?_
              rotate_left
              focus
                intro w9 hSw
                (try dsimp only at hSw)
                have zK : ∀ {a9 : Addr} {u9 : Value}, wr.cell? a9 = some u9 → w9.cell? a9 = some u9 := fun {a9} {u9} h9 => (hSw.cell (World.block_lt_of_cell? wr a9 h9)).trans h9
                have z0 := zK x0
                have z1 := zK x1
                have z2 := zK x2
                have z3 := zK x3
                have z4 := zK x4
                have z5 := zK x5
                have z6 := zK y0
                have z7 := zK y1
                have z8 := zK y2
                have z9 := zK y3
                have z10 := zK y4
                have z11 := zK y5
                clear zK hSw
                go_simp
                (try with_reducible rfl)
              (try simp only [Act.put, List.getElem_toArray, List.getElem_cons_succ, List.getElem_cons_zero, List.setIfInBounds_toArray, List.set_cons_zero, List.set_cons_succ])
              refine wpAnyH_take (i := 11) (v := ?_) rfl (by kernel_rfl) (by kernel_rfl) (by kernel_rfl) (fun _ _ _ h => h) (Or.inl ⟨by kernel_rfl, ?_⟩) (by assumption) ?_
              rotate_left
              focus
                intro w9 hSw
                (try dsimp only at hSw)
                have zK : ∀ {a9 : Addr} {u9 : Value}, wr.cell? a9 = some u9 → w9.cell? a9 = some u9 := fun {a9} {u9} h9 => (hSw.cell (World.block_lt_of_cell? wr a9 h9)).trans h9
                have z0 := zK x0
                have z1 := zK x1
                have z2 := zK x2
                have z3 := zK x3
                have z4 := zK x4
                have z5 := zK x5
                have z6 := zK y0
                have z7 := zK y1
                have z8 := zK y2
                have z9 := zK y3
                have z10 := zK y4
                have z11 := zK y5
                clear zK hSw
                go_simp
                (try with_reducible rfl)
              (try simp only [Act.put, List.getElem_toArray, List.getElem_cons_succ, List.getElem_cons_zero, List.setIfInBounds_toArray, List.set_cons_zero, List.set_cons_succ])
              refine wpAnyH_take (i := 12) (v := ?_) rfl (by kernel_rfl) (by kernel_rfl) (by kernel_rfl) (fun _ _ _ h => h) (Or.inl ⟨by kernel_rfl, ?_⟩) (by assumption) ?_
              rotate_left
              focus
                intro w9 hSw
                (try dsimp only at hSw)
                have zK : ∀ {a9 : Addr} {u9 : Value}, wr.cell? a9 = some u9 → w9.cell? a9 = some u9 := fun {a9} {u9} h9 => (hSw.cell (World.block_lt_of_cell? wr a9 h9)).trans h9
                have z0 := zK x0
                have z1 := zK x1
                have z2 := zK x2
                have z3 := zK x3
                have z4 := zK x4
                have z5 := zK x5
                have z6 := zK y0
                have z7 := zK y1
                have z8 := zK y2
                have z9 := zK y3
                have z10 := zK y4
                have z11 := zK y5
                clear zK hSw
                go_simp
                (try with_reducible rfl)
              (try simp only [Act.put, List.getElem_toArray, List.getElem_cons_succ, List.getElem_cons_zero, List.setIfInBounds_toArray, List.set_cons_zero, List.set_cons_succ])
              refine wpAnyH_take (i := 13) (v := ?_) rfl (by kernel_rfl) (by kernel_rfl) (by kernel_rfl) (fun _ _ _ h => h) (Or.inl ⟨by kernel_rfl, ?_⟩) (by assumption) ?_
              rotate_left
              focus
                intro w9 hSw
                (try dsimp only at hSw)
                have zK : ∀ {a9 : Addr} {u9 : Value}, wr.cell? a9 = some u9 → w9.cell? a9 = some u9 := fun {a9} {u9} h9 => (hSw.cell (World.block_lt_of_cell? wr a9 h9)).trans h9
                have z0 := zK x0
                have z1 := zK x1
                have z2 := zK x2
                have z3 := zK x3
                have z4 := zK x4
                have z5 := zK x5
                have z6 := zK y0
                have z7 := zK y1
                have z8 := zK y2
                have z9 := zK y3
                have z10 := zK y4
                have z11 := zK y5
                clear zK hSw
                go_simp
                (try with_reducible rfl)
              (try simp only [Act.put, List.getElem_toArray, List.getElem_cons_succ, List.getElem_cons_zero, List.setIfInBounds_toArray, List.set_cons_zero, List.set_cons_succ])
              refine wpAnyH_ready (rs := [14]) (by kernel_rfl) (by simp) (AllReadyH.cons rfl (fun K hK => ?_) AllReadyH.nil)
              go_simp
              go_at_call 51
              refine (HC1.out _).mono ?_
              rintro e wc ⟨rfl, hbc'⟩
              have hbc := below_undr hbc'
              refine hK.out _ _ ?_ (fun hHeld => ?_)
              focus exact hbc
              clear hK K
              (try simp only [Act.put, List.getElem_toArray, List.getElem_cons_succ, List.getElem_cons_zero, List.setIfInBounds_toArray, List.set_cons_zero, List.set_cons_succ])
              refine wpAnyH_take (i := 15) (v := ?_) rfl (by kernel_rfl) (by kernel_rfl) (by kernel_rfl) (fun _ _ _ h => h) (Or.inl ⟨by kernel_rfl, ?_⟩) (by assumption) ?_
              rotate_left
              focus
                intro w9 hSw
                (try dsimp only at hSw)
                go_simp
                (try with_reducible rfl)
              (try simp only [Act.put, List.getElem_toArray, List.getElem_cons_succ, List.getElem_cons_zero, List.setIfInBounds_toArray, List.set_cons_zero, List.set_cons_succ])
              refine wpAnyH_take (i := 16) (v := ?_) rfl (by kernel_rfl) (by kernel_rfl) (by kernel_rfl) (fun _ _ _ h => h) (Or.inl ⟨by kernel_rfl, ?_⟩) (by assumption) ?_
              rotate_left
              focus
                intro w9 hSw
                (try dsimp only at hSw)
                go_simp
                (try with_reducible rfl)
              (try simp only [Act.put, List.getElem_toArray, List.getElem_cons_succ, List.getElem_cons_zero, List.setIfInBounds_toArray, List.set_cons_zero, List.set_cons_succ])
              refine wpAnyH_done (by kernel_rfl) ?_ _
              (try simp only [Act.put, List.getElem_toArray, List.getElem_cons_succ, List.getElem_cons_zero, List.setIfInBounds_toArray, List.set_cons_zero, List.set_cons_succ])
              have hRc := HR.out.below hbc
              have hMc := HM.out.then_ (Mod.of_fresh (M := (· = gb)) hbc)
              clear x0 x1 x2 x3 x4 x5 y0 y1 y2 y3 y4 y5 hHeld hbc' hjb HC1
              by_cases hcf : cf < 0
              · have hq9 : decide (cf < 0) = true := decide_eq_true hcf
                have HX := Lib.hid (show (P ++ (s1'.concat y ++ (x :: (s2 ++ (rest ++ R))))).getD j spz = x by
                  rw [← List.append_assoc, show j = (P ++ s1'.concat y).length by rw [HJ.out, ← HQ.out, HA.out]; simp; omega]
                  exact getD_mid _ _ _)
                have HY := Lib.hid (show (P ++ (s1'.concat y ++ (x :: (s2 ++ (rest ++ R))))).getD q spz = y by
                  rw [show P ++ (s1'.concat y ++ (x :: (s2 ++ (rest ++ R)))) = (P ++ s1') ++ (y :: (x :: (s2 ++ (rest ++ R)))) by simp, show q = (P ++ s1').length by rw [← HQ.out, HA.out]; simp]
                  exact getD_mid _ _ _)
                have HPl := Lib.hid (show j < (P ++ (s1'.concat y ++ (x :: (s2 ++ (rest ++ R))))).length ∧ q < ((P ++ (s1'.concat y ++ (x :: (s2 ++ (rest ++ R))))).set j y).length by rw [List.length_set]; exact ⟨hjl, hql⟩)
                obtain ⟨x0, x1, x2, x3, x4, x5⟩ := hRc.at_ hjl HX.out
                obtain ⟨y0, y1, y2, y3, y4, y5⟩ := hRc.at_ hql HY.out
                have f0 := hRc.fz (j * 6)
                have f1 := hRc.fz (j * 6 + 1)
                have f2 := hRc.fz (j * 6 + 2)
                have f3 := hRc.fz (j * 6 + 3)
                have f4 := hRc.fz (j * 6 + 4)
                have f5 := hRc.fz (j * 6 + 5)
                have g0 := hRc.fz (q * 6)
                have g1 := hRc.fz (q * 6 + 1)
                have g2 := hRc.fz (q * 6 + 2)
                have g3 := hRc.fz (q * 6 + 3)
                have g4 := hRc.fz (q * 6 + 4)
                have g5 := hRc.fz (q * 6 + 5)
                have HRc := Lib.hid hRc
                have HMc := Lib.hid hMc
                clear hRc hMc hjl hql
                go_wp2_with (fail)
                have hmx : Try.prog.follows .mixedOrders = true := by kernel_rfl
                go_big_region_o
                go_wp2
                go_roundw
                case rel =>
                  refine ⟨q, s1', y :: s2, rfl, by rw [HS.out]; simp, HQ.out.symm, fun z hz => ?_, ?_, ?_⟩
                  · rcases List.mem_cons.1 hz with hz | hz
                    · subst hz; rw [HLt.out]; exact decide_eq_true hcf
                    · exact HG.out z hz
                  · have h2 := (HRc.out.put HPl.out.1 y).put (j := q) HPl.out.2 x
                    rw [HSW.out] at h2
                    refine SRow.drew ?_
                    exact h2
                  · refine Mod.drew ?_
                    exact HMc.out.then_ ((SRow.putM wc gb j y).then_ (SRow.putM _ gb q x))
                case measure => have h8 := HJ.out; simp [intOf]; omega
              · have hq9 : decide (cf < 0) = false := decide_eq_false hcf
                have hi9 : i + 1 ≤ 4000000001 := by omega
                have HRc := Lib.hid hRc
                have HMc := Lib.hid hMc
                have HN := Lib.hid hcf
                clear hRc hMc hcf
                go_wp2_with (fail)
                go_roundw
                case rel =>
                  obtain ⟨o1, o2, o3, o4, o5, o6⟩ := HO.out
                  obtain ⟨p1, p2, p3⟩ := HOut.out (by
                    rw [HS.out] at o6
                    have o7 := (Srd.app.1 o6).1
                    rw [List.concat_eq_append] at o7 ⊢
                    exact o7.last ltAll_leO (by rw [HLt.out]; exact decide_eq_false HN.out))
                  refine ⟨i + 1, l1 ++ [x], s1'.concat y ++ (x :: s2), rest, by go_num, by simpa using o1, by rw [p1]; omega, by rw [p1]; simp; omega, by rw [p1]; omega, p2, p3, ?_, HMc.out⟩
                  simpa using HRc.out
                case measure => simp [intOf]; omega
      · have hie : i = b := by omega
        have hr : rest = [] := List.eq_nil_of_length_eq_zero (by omega)
        subst hr
        rw [List.append_nil] at hl1
        have hibz : ¬ (i : Int) < (b : Int) := by omega
        have HO := Lib.hid (⟨hl1, hsl⟩ : x0 :: l0 = l1 ∧ s.length = l1.length)
        clear hia hab3 hlen hi hie hl1 hsl hs0 hbL hab2
        go_wp2
        go_end0
        obtain ⟨o1, o2⟩ := HO.out
        subst o1
        exact ⟨rfl, s, by simpa using hR, by simpa using o2, hsrt, hsrd, hM⟩
end Go.Proofs.Ytnflhogjonlnmaa
