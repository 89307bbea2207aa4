/- slices.rotateCmpFunc at packets: two neighbours change places. -/
import Derived.Test.YtnflhogjonlnmaaSrtL
set_option linter.unusedSimpArgs false
set_option linter.unusedVariables false
namespace Go.Proofs.Ytnflhogjonlnmaa
open Go.RowKit

theorem split_at {α : Type} (X : List α) {n : Nat} (h : n ≤ X.length) : ∃ A B, X = A ++ B ∧ A.length = n := ⟨X.take n, X.drop n, (List.take_append_drop n X).symm, by simp; omega⟩
/-- swapRange, its rows named. -/
theorem swapSeg_any {w : World} {gb : Nat} {P X M Y R : List SP} {tl : List Value} {L : Nat} (h : SRow w gb (P ++ (X ++ (M ++ (Y ++ R)))) tl) (hL : (P ++ (X ++ (M ++ (Y ++ R)))).length = L) (c : Nat) (hl : L ≤ 4000000000) (hc : L ≤ c) {a b n : Nat} (ha : a = P.length) (hX : X.length = n) (hY : Y.length = n) (hb : b = P.length + n + M.length) (cmp : Value) :
    Calls Try.prog 83 #[.slice (some ⟨gb, 0, none⟩) L c, .int .i64 a, .int .i64 b, .int .i64 n, cmp] w fun e w' => e = .returned (.tuple #[]) ∧ SRow w' gb (P ++ (Y ++ (M ++ (X ++ R)))) tl ∧ Mod (· = gb) w w' := by
  subst hL ha hb
  have h1 := swapRange_any h c hl hc P.length (P.length + n + M.length) n (by simp; omega) (by omega) cmp
  rw [swapUp_seg n X Y P M R hX hY] at h1
  exact h1

set_option maxHeartbeats 8000000 in
set_option maxRecDepth 100000 in
theorem rotate_any {w : World} {gb : Nat} {P X Y R : List SP} {tl : List Value} {L : Nat} (h : SRow w gb (P ++ (X ++ (Y ++ R))) tl) (hL : (P ++ (X ++ (Y ++ R))).length = L) (c : Nat) (hl : L ≤ 4000000000) (hc : L ≤ c) {a m b : Nat} (ha : a = P.length) (hm : m = P.length + X.length) (hb : b = P.length + X.length + Y.length) (hX : 0 < X.length) (hY : 0 < Y.length) (cmp : Value) :
    Calls Try.prog 81 #[.slice (some ⟨gb, 0, none⟩) L c, .int .i64 a, .int .i64 m, .int .i64 b, cmp] w fun e w' => e = .returned (.tuple #[]) ∧ SRow w' gb (P ++ (Y ++ (X ++ R))) tl ∧ Mod (· = gb) w w' := by
  have HH := Lib.hid h
  have hLL := hL
  simp only [List.length_append] at hLL
  have e1 : IntKind.i64.wrap ((m : Int) - (a : Int)) = (X.length : Int) := by rw [IntWalk.i64_in _ (by omega)]; omega
  have e2 : IntKind.i64.wrap ((b : Int) - (m : Int)) = (Y.length : Int) := by rw [IntWalk.i64_in _ (by omega)]; omega
  have hmL : m ≤ 4000000000 := by omega
  have HT := Lib.hid (⟨hL, hm, hX, hY⟩ : (P ++ (X ++ (Y ++ R))).length = L ∧ m = P.length + X.length ∧ 0 < X.length ∧ 0 < Y.length)
  clear h hLL hm hb ha hL
  go_enter Try.func81, Try.ntmps81
  go_wp2
  go_loopw [10, 11] (fun iv jv wr => ∃ (P1 X1 Y1 R1 : List SP), iv = .int .i64 (X1.length : Int) ∧ jv = .int .i64 (Y1.length : Int) ∧ 0 < X1.length ∧ 0 < Y1.length ∧ P1.length + X1.length = m ∧ (P1 ++ (X1 ++ (Y1 ++ R1))).length = L ∧ Hid (P1 ++ (Y1 ++ (X1 ++ R1)) = P ++ (Y ++ (X ++ R))) ∧
    SRow wr gb (P1 ++ (X1 ++ (Y1 ++ R1))) tl ∧ Mod (· = gb) w wr) (fun iv jv _ => (intOf iv + intOf jv).toNat)
  case atStart => exact ⟨P, X, Y, R, rfl, rfl, hX, hY, HT.out.2.1.symm, HT.out.1, rfl, HH.out, Mod.refl _ _⟩
  case round =>
    obtain ⟨P1, X1, Y1, R1, rfl, rfl, hX1, hY1, hm1, hL1, HE, hR, hM⟩ := hrel
    have hLL := hL1
    simp only [List.length_append] at hLL
    clear e1 e2
    by_cases hxy : X1.length = Y1.length
    · have q1 : ((X1.length : Int) != (Y1.length : Int)) = false := by rw [bne_eq_false_iff_eq]; omega
      have q2 : IntKind.i64.wrap ((m : Int) - (X1.length : Int)) = (P1.length : Int) := by rw [IntWalk.i64_in _ (by omega)]; omega
      have HC := swapSeg_any (M := []) (a := P1.length) (b := m) (n := X1.length) hR hL1 c hl hc rfl rfl hxy.symm (by simp; omega) cmp
      generalize X1.length = i at *
      generalize Y1.length = j at *
      replace hxy := Lib.hid hxy
      go_wp2_with (first
        | (go_at_call 83; (with_reducible refine HC.mono ?_); rintro e w1 ⟨rfl, hR1, hM1⟩))
      go_end0
      exact ⟨rfl, HE.out ▸ hR1, hM.then_ hM1⟩
    · have q1 : ((X1.length : Int) != (Y1.length : Int)) = true := by rw [bne_iff_ne]; omega
      by_cases hgt : Y1.length < X1.length
      · obtain ⟨A, B, rfl, hA⟩ := split_at X1 (n := Y1.length) (by omega)
        have hB : B.length = (A ++ B).length - Y1.length := by rw [List.length_append]; omega
        have q2 : IntKind.i64.wrap ((m : Int) - ((A ++ B).length : Int)) = (P1.length : Int) := by rw [IntWalk.i64_in _ (by omega)]; omega
        have q3 : IntKind.i64.wrap (((A ++ B).length : Int) - (Y1.length : Int)) = (B.length : Int) := by rw [IntWalk.i64_in _ (by omega)]; omega
        have q4 : (Y1.length : Int) < ((A ++ B).length : Int) := by omega
        rw [List.append_assoc] at hR
        have hL2 : (P1 ++ (A ++ (B ++ (Y1 ++ R1)))).length = L := by rw [← hL1]; simp
        have hml := hm1
        rw [List.length_append] at hml
        have HC := swapSeg_any (a := P1.length) (b := m) (n := Y1.length) hR hL2 c hl hc rfl hA rfl (by omega) cmp
        have HE2 := Lib.hid (show (P1 ++ Y1) ++ (A ++ (B ++ R1)) = P ++ (Y ++ (X ++ R)) by rw [← HE.out]; simp)
        have HN := Lib.hid (show (P1 ++ Y1).length + B.length = m ∧ 0 < B.length ∧ 0 < A.length ∧ (P1 ++ Y1 ++ (B ++ (A ++ R1))).length = L ∧ A.length = Y1.length ∧ B.length + A.length < (A ++ B).length + Y1.length by
          simp only [List.length_append] at *; omega)
        have hBl : B.length ≤ 4000000000 := by omega
        clear hL2 hLL hml hB hR hL1 hm1 hxy hX1
        generalize hxn : (A ++ B).length = i at *
        generalize hyn : Y1.length = j at *
        generalize hbn : B.length = i2 at *
        replace hxn := Lib.hid hxn
        replace hyn := Lib.hid hyn
        replace hbn := Lib.hid hbn
        have hpn : P1.length = P1.length := rfl
        clear hpn hA
        go_wp2_with (first
          | (go_at_call 83; (with_reducible refine HC.mono ?_); rintro e w1 ⟨rfl, hR1, hM1⟩))
        go_roundw
        case rel =>
          obtain ⟨n1, n2, n3, n4, n5, n6⟩ := HN.out
          refine ⟨P1 ++ Y1, B, A, R1, by rw [hbn.out], by rw [n5], by rw [hbn.out]; exact n2, n3, by rw [hbn.out]; exact n1, n4, HE2.out, ?_, hM.then_ hM1⟩
          simpa using hR1
        case measure =>
          obtain ⟨n1, n2, n3, n4, n5, n6⟩ := HN.out
          simp [intOf]; omega
      · obtain ⟨A, B, rfl, hA⟩ := split_at Y1 (n := Y1.length - X1.length) (by omega)
        have hB : B.length = X1.length := by rw [List.length_append] at *; omega
        have q2 : IntKind.i64.wrap ((m : Int) - (X1.length : Int)) = (P1.length : Int) := by rw [IntWalk.i64_in _ (by omega)]; omega
        have q3 : IntKind.i64.wrap (((A ++ B).length : Int) - (X1.length : Int)) = (A.length : Int) := by rw [List.length_append] at *; rw [IntWalk.i64_in _ (by omega)]; omega
        have q4 : ¬ ((A ++ B).length : Int) < (X1.length : Int) := by omega
        have q5 : IntKind.i64.wrap ((m : Int) + ((A ++ B).length : Int)) = ((m + (A ++ B).length : Nat) : Int) := by rw [IntWalk.i64_in _ (by omega)]; omega
        have q6 : IntKind.i64.wrap (((m + (A ++ B).length : Nat) : Int) - (X1.length : Int)) = ((m + A.length : Nat) : Int) := by rw [List.length_append] at *; rw [IntWalk.i64_in _ (by omega)]; omega
        rw [List.append_assoc] at hR
        have hL2 : (P1 ++ (X1 ++ (A ++ (B ++ R1)))).length = L := by rw [← hL1]; simp
        have HC := swapSeg_any (a := P1.length) (b := m + A.length) (n := X1.length) hR hL2 c hl hc rfl rfl hB (by omega) cmp
        have HE2 := Lib.hid (show P1 ++ (A ++ (B ++ (X1 ++ R1))) = P ++ (Y ++ (X ++ R)) by rw [← HE.out]; simp)
        have HN := Lib.hid (show P1.length + B.length = m ∧ 0 < A.length ∧ 0 < B.length ∧ (P1 ++ (B ++ (A ++ (X1 ++ R1)))).length = L ∧ B.length = X1.length ∧ B.length + A.length < X1.length + (A ++ B).length by
          simp only [List.length_append] at *; omega)
        have hAl : A.length ≤ 4000000000 := by simp only [List.length_append] at *; omega
        clear hL2 hLL hB hR hL1 hm1 hxy
        generalize hxn : (A ++ B).length = j at *
        generalize hyn : X1.length = i at *
        generalize hbn : A.length = j2 at *
        generalize hmj : m + j2 = mj at *
        generalize hmj2 : m + j = mjj at *
        replace hxn := Lib.hid hxn
        replace hyn := Lib.hid hyn
        replace hbn := Lib.hid hbn
        replace hmj := Lib.hid hmj
        replace hmj2 := Lib.hid hmj2
        clear hA
        go_wp2_with (first
          | (go_at_call 83; (with_reducible refine HC.mono ?_); rintro e w1 ⟨rfl, hR1, hM1⟩))
        go_roundw
        case rel =>
          obtain ⟨n1, n2, n3, n4, n5, n6⟩ := HN.out
          exact ⟨P1, B, A, X1 ++ R1, by rw [n5], by rw [hbn.out], n3, by rw [hbn.out]; exact n2, n1, n4, HE2.out, hR1, hM.then_ hM1⟩
        case measure =>
          obtain ⟨n1, n2, n3, n4, n5, n6⟩ := HN.out
          simp [intOf]; omega
end Go.Proofs.Ytnflhogjonlnmaa
