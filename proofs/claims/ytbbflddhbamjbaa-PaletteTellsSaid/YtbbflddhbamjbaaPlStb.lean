/- slices.SortStableFunc at numbers below N + 1 (printed by gensrtint2.py). -/
import Derived.Test.YtbbflddhbamjbaaPlSym
set_option linter.unusedSimpArgs false
set_option linter.unusedVariables false
namespace Go.Proofs.Ytbbflddhbamjbaa
open Go.RowKit
variable {N : Nat}

/-- Each of the blocks of B is sorted. -/
def Bks (ct : List Int) (B : Nat) (l : List (SI N)) : Prop := ∀ k, Srd (ltC ct) ((l.drop (k * B)).take B)
theorem Bks.nil {ct : List Int} {B : Nat}   : Bks (N := N) ct B [] := fun k => by simp; exact Srd.nil
theorem Bks.snoc {ct : List Int} {B k : Nat} {s t : List (SI N)} (h : Bks ct B s) (hs : s.length = k * B) (ht : Srd (ltC ct) t) (hl : t.length ≤ B) : Bks ct B (s ++ t) := fun j => by
  by_cases hj : j < k
  · have h1 : (j + 1) * B ≤ k * B := Nat.mul_le_mul_right B hj
    rw [Nat.succ_mul] at h1
    rw [List.drop_append_of_le_length (by omega), List.take_append_of_le_length (by rw [List.length_drop]; omega)]
    exact h j
  · by_cases hjk : j = k
    · subst hjk
      rw [← hs, List.drop_append_of_le_length (Nat.le_refl _), List.drop_length, List.nil_append, List.take_of_length_le hl]
      exact ht
    · have h1 : (k + 1) * B ≤ j * B := Nat.mul_le_mul_right B (by omega)
      rw [Nat.succ_mul] at h1
      rw [List.drop_eq_nil_of_le (by rw [List.length_append]; omega)]
      simp; exact Srd.nil
theorem Bks.all {ct : List Int} {B : Nat} {l : List (SI N)} (h : Bks ct B l) (hl : l.length ≤ B) : Srd (ltC ct) l := by
  have h0 := h 0
  rw [Nat.zero_mul, List.drop_zero, List.take_of_length_le hl] at h0
  exact h0

set_option maxHeartbeats 16000000 in
set_option maxRecDepth 100000 in
theorem stable_any {w : World} {gb bx gc : Nat} {ct : List Int} {l : List (SI N)} {tl : List Value} {L : Nat} (hct : CtR N w bx gc ct) (hne : gb ≠ bx ∧ gb ≠ gc) (hNN : N ≤ 1000000) (hR0 : SRow w gb l tl) (hL : l.length = L) (c : Nat) (hl : L ≤ 4000000000) (hc : L ≤ c) :
    Calls Try.prog 67 #[.slice (some ⟨gb, 0, none⟩) L c, .int .i64 L, .func (.func 51) #[] #[.pointer (some ⟨bx, 0, none⟩)]] w fun e w' => e = .returned (.tuple #[]) ∧ ∃ l', SRow w' gb l' tl ∧ l'.length = L ∧ Srt (ltC ct) l l' ∧ Srd (ltC ct) l' ∧ Mod (· = gb) w w' := by
  have HH := Lib.hid hR0
  have HL := Lib.hid hL
  have HI := Lib.hid (fun (W : World) (hW : Mod (· = gb) w W) (P k R : List (SI N)) (a b : Nat) (h : SRow W gb (P ++ (k ++ R)) tl) (h2 : (P ++ (k ++ R)).length = L) (h3 : a = P.length) (h4 : b = P.length + k.length) => inssort_any (hct.mod hW (fun e => hne.1 e.symm) (fun e => hne.2 e.symm)) hne hNN h h2 c hl hc h3 h4)
  have HS := Lib.hid (fun (W : World) (hW : Mod (· = gb) w W) (P k1 k2 R : List (SI N)) (a m b : Nat) h1 h2 h3 h4 h5 h6 h7 h8 h9 => symm_any (gb := gb) hne hNN (tl := tl) (L := L) c hl hc (k1.length + k2.length) W P k1 k2 R a m b (hct.mod hW (fun e => hne.1 e.symm) (fun e => hne.2 e.symm)) (Nat.le_refl _) h1 h2 h3 h4 h5 h6 h7 h8 h9)
  clear hR0 hL hct
  go_enter Try.func67, Try.ntmps67
  go_wp2
  go_loopw [7, 8] (fun av bv wr => ∃ (k : Nat) (s : List (SI N)), av = .int .i64 ((20 * k : Nat) : Int) ∧ bv = .int .i64 ((20 * k + 20 : Nat) : Int) ∧ s.length = 20 * k ∧ 20 * k ≤ L ∧ Bks ct 20 s ∧ Srt (ltC ct) (l.take (20 * k)) s ∧ SRow wr gb (s ++ l.drop (20 * k)) tl ∧ Mod (· = gb) w wr) (fun av _ _ => ((L : Int) - intOf av).toNat)
  case atStart => exact ⟨0, [], rfl, rfl, rfl, Nat.zero_le _, Bks.nil, Srt.refl _, by simpa using HH.out, Mod.refl _ _⟩
  case round =>
    obtain ⟨k, s, rfl, rfl, hs, hkL, hB, hSt, hR, hM⟩ := hrel
    have HO := Lib.hid (⟨hs, hB, hSt⟩ : s.length = 20 * k ∧ Bks ct 20 s ∧ Srt (ltC ct) (l.take (20 * k)) s)
    have HR := Lib.hid hR
    have HM := Lib.hid hM
    clear hs hB hSt hR hM
    obtain ⟨a, ha⟩ : ∃ a, 20 * k = a := ⟨_, rfl⟩
    rw [ha] at HO HR hkL ⊢
    have HA := Lib.hid ha
    clear ha
    have hab : ((a + 20 : Nat) : Int) = (a : Int) + 20 := by omega
    by_cases hb : a + 20 ≤ L
    · have hbz : (a : Int) + 20 ≤ (L : Int) := by omega
      obtain ⟨b, hbb⟩ : ∃ b, a + 20 = b := ⟨_, rfl⟩
      rw [hbb] at hab ⊢
      have hbz2 : (b : Int) ≤ (L : Int) := by omega
      have hb2 : b ≤ L := by omega
      obtain ⟨ch, hch⟩ : ∃ ch, (l.drop a).take 20 = ch := ⟨_, rfl⟩
      have hdr : l.drop a = ch ++ l.drop b := by rw [← hch, ← hbb, ← List.drop_drop, List.take_append_drop]
      have hcl : ch.length = 20 := by rw [← hch, List.length_take, List.length_drop, HL.out]; omega
      have htk : l.take b = l.take a ++ ch := by rw [← hch, ← hbb, List.take_add]
      have hr9 := HR.out
      rw [hdr] at hr9
      have HCall := Lib.hid (HI.out wr HM.out s ch (l.drop b) a b hr9 (by rw [← hdr]; have := HO.out.1; simp; have := HL.out; omega) HO.out.1.symm (by rw [HO.out.1, hcl, hbb]))
      have HB := Lib.hid (⟨hbb, hcl, htk⟩ : a + 20 = b ∧ ch.length = 20 ∧ l.take b = l.take a ++ ch)
      clear hbb hch hdr hcl htk hr9 hab hb hbz
      go_wp2_with (first
        | (go_at_call 79; (with_reducible refine HCall.out.mono ?_); rintro e w1 ⟨rfl, s', q1, q2, q3, q4, q5⟩))
      go_roundw
      case rel =>
        obtain ⟨h1, h2, h3⟩ := HB.out
        obtain ⟨h4, h5, h6⟩ := HO.out
        have h7 := HA.out
        have e1 : 20 * (k + 1) = b := by omega
        refine ⟨k + 1, s ++ s', by rw [e1], by rw [e1]; go_num, by rw [e1, List.length_append, h4, q2, h2]; exact h1, by omega, h5.snoc (k := k) (by omega) q4 (by omega), by rw [e1, h3]; exact Srt.app h6 q3, by rw [e1]; simpa using q1, HM.out.then_ q5⟩
      case measure => have := HB.out.1; simp [intOf]; omega
    · have hbz : ¬ ((a + 20 : Nat) : Int) ≤ (L : Int) := by omega
      have hbz2 : ¬ (a : Int) + 20 ≤ (L : Int) := by omega
      have HCall := Lib.hid (HI.out wr HM.out s (l.drop a) [] a L (by have := HR.out; simpa using this) (by have := HO.out.1; have := HL.out; simp; omega) HO.out.1.symm (by have := HO.out.1; have := HL.out; simp; omega))
      obtain ⟨b, hbb⟩ : ∃ b, a + 20 = b := ⟨_, rfl⟩
      rw [hbb] at hab hbz ⊢
      have hbz3 : ¬ (b : Int) ≤ (L : Int) := by omega
      clear hab hbz hbz2 hbb
      go_wp2_with (first
        | (go_at_call 79; (with_reducible refine HCall.out.mono ?_); rintro e w1 ⟨rfl, s', q1, q2, q3, q4, q5⟩))
      have HF := Lib.hid (show (s ++ s').length = L ∧ Bks ct 20 (s ++ s') ∧ Srt (ltC ct) l (s ++ s') by
        obtain ⟨h4, h5, h6⟩ := HO.out
        have h8 := HL.out
        refine ⟨by simp at q2 ⊢; omega, h5.snoc (k := k) (by have := HA.out; omega) q4 (by simp at q2; omega), ?_⟩
        have h9 := Srt.app h6 q3
        rwa [List.take_append_drop] at h9)
      have HR1 := Lib.hid (show SRow w1 gb (s ++ s') tl by simpa using q1)
      have HM1 := Lib.hid (HM.out.then_ q5)
      clear q1 q2 q3 q4 q5 HR HM HO HCall HI
      generalize s ++ s' = t0 at *
      go_loopw [6] (fun Bv wr => ∃ (B : Nat) (cur : List (SI N)), Bv = .int .i64 (B : Int) ∧ 20 ≤ B ∧ B ≤ 8000000000 ∧ cur.length = L ∧ Bks ct B cur ∧ Srt (ltC ct) l cur ∧ SRow wr gb cur tl ∧ Mod (· = gb) w wr) (fun Bv _ => ((L : Int) - intOf Bv).toNat)
      case atStart => exact ⟨20, t0, rfl, by omega, by omega, HF.out.1, HF.out.2.1, HF.out.2.2, HR1.out, HM1.out⟩
      case round =>
        obtain ⟨B, cur, rfl, hB20, hB9, hcl, hBk, hSt, hR, hM⟩ := hrel
        have HO := Lib.hid (⟨hcl, hBk, hSt⟩ : cur.length = L ∧ Bks ct B cur ∧ Srt (ltC ct) l cur)
        have HR := Lib.hid hR
        have HM := Lib.hid hM
        clear hcl hBk hSt hR hM
        by_cases hBL : B < L
        · have hBLz : (B : Int) < (L : Int) := by omega
          obtain ⟨D, hD⟩ : ∃ D, 2 * B = D := ⟨_, rfl⟩
          have hDz : 2 * (B : Int) = (D : Int) := by omega
          have HD := Lib.hid hD
          have hD9 : D ≤ 8000000000 ∧ B < D := by omega
          clear hD
          go_wp2_with (fail)
          go_loopw [7, 8] (fun av bv wr => ∃ (k a b : Nat) (s : List (SI N)), av = .int .i64 (a : Int) ∧ bv = .int .i64 (b : Int) ∧ a = k * D ∧ b = a + D ∧ s.length = a ∧ a ≤ L ∧ Bks ct D s ∧ Srt (ltC ct) (cur.take a) s ∧ SRow wr gb (s ++ cur.drop a) tl ∧ Mod (· = gb) w wr) (fun av _ _ => ((L : Int) - intOf av).toNat)
          case atStart => exact ⟨0, 0, D, [], rfl, rfl, by simp, by simp, rfl, Nat.zero_le _, Bks.nil, Srt.refl _, by simpa using HR.out, HM.out⟩
          case round =>
            obtain ⟨k, a, b, s, rfl, rfl, hak, hba, hs, haL, hBk, hSt, hR, hM⟩ := hrel
            have HO2 := Lib.hid (⟨hak, hba, hs, hBk, hSt⟩ : a = k * D ∧ b = a + D ∧ s.length = a ∧ Bks ct D s ∧ Srt (ltC ct) (cur.take a) s)
            have HR2 := Lib.hid hR
            have HM2 := Lib.hid hM
            have hbb : b ≤ 16000000000 ∧ a < b := by omega
            obtain ⟨m, hm⟩ : ∃ m, a + B = m := ⟨_, rfl⟩
            have hmz : (a : Int) + (B : Int) = (m : Int) := by omega
            have hmb : m < b := by omega
            obtain ⟨c1, hc1⟩ : ∃ c1, (cur.drop a).take B = c1 := ⟨_, rfl⟩
            have hd1 : cur.drop a = c1 ++ cur.drop m := by rw [← hc1, ← hm, ← List.drop_drop, List.take_append_drop]
            have hk2 : a = (2 * k) * B := by rw [hak, ← HD.out]; simp [Nat.mul_comm, Nat.mul_left_comm, Nat.mul_assoc]
            have hs1 : Srd (ltC ct) c1 := by rw [← hc1, hk2]; exact HO.out.2.1 (2 * k)
            have hm2 : m = (2 * k + 1) * B := by rw [Nat.succ_mul, ← hk2]; exact hm.symm
            have HC1 := Lib.hid (⟨hd1, hs1, hm2, hm, hc1⟩ : cur.drop a = c1 ++ cur.drop m ∧ Srd (ltC ct) c1 ∧ m = (2 * k + 1) * B ∧ a + B = m ∧ (cur.drop a).take B = c1)
            clear hak hba hs hBk hSt hR hM hm hc1 hd1 hk2 hs1 hm2
            by_cases hbL : b ≤ L
            · have hbLz : (b : Int) ≤ (L : Int) := by omega
              obtain ⟨c2, hc2⟩ : ∃ c2, (cur.drop m).take B = c2 := ⟨_, rfl⟩
              have hmB : m + B = b := by have := HC1.out.2.2.2.1; have := HO2.out.2.1; have := HD.out; omega
              have hd2 : cur.drop m = c2 ++ cur.drop b := by rw [← hc2, ← hmB, ← List.drop_drop, List.take_append_drop]
              have hs2 : Srd (ltC ct) c2 := by rw [← hc2, HC1.out.2.2.1]; exact HO.out.2.1 (2 * k + 1)
              have hln : c1.length = B ∧ c2.length = B := by
                have h0 := HO.out.1
                have h1 := HC1.out.2.2.2.2
                constructor
                · rw [← h1, List.length_take, List.length_drop]; omega
                · rw [← hc2, List.length_take, List.length_drop]; omega
              have htk : cur.take b = cur.take a ++ (c1 ++ c2) := by
                rw [← HC1.out.2.2.2.2, ← hc2, show b = a + B + B by have := HC1.out.2.2.2.1; omega, List.take_add, List.take_add, List.append_assoc, HC1.out.2.2.2.1]
              have hr9 := HR2.out
              rw [HC1.out.1, hd2] at hr9
              have HCall := Lib.hid (HS.out wr HM2.out s c1 c2 (cur.drop b) a m b HC1.out.2.1 hs2 (by omega) (by omega) hr9 (by rw [← hd2, ← HC1.out.1]; have := HO2.out; have := HO.out; simp; omega) HO2.out.2.2.1.symm (by have := HC1.out.2.2.2.1; omega) (by omega))
              have HB := Lib.hid (⟨hmB, hln.1, hln.2, htk⟩ : m + B = b ∧ c1.length = B ∧ c2.length = B ∧ cur.take b = cur.take a ++ (c1 ++ c2))
              obtain ⟨b2, hb2⟩ : ∃ b2, b + D = b2 := ⟨_, rfl⟩
              have hb2z : (b : Int) + (D : Int) = (b2 : Int) := by omega
              clear hmB hc2 hd2 hs2 hln htk hr9
              have HB2 := Lib.hid hb2
              clear hb2
              go_wp2_with (first
                | (go_at_call 80; (with_reducible refine HCall.out.mono ?_); rintro e w1 ⟨rfl, s', q1, q2, q3, q4, q5⟩))
              go_roundw
              case rel =>
                obtain ⟨h1, h2, h3, h4, h5⟩ := HO2.out
                obtain ⟨g1, g2, g3, g4⟩ := HB.out
                have hd := HD.out
                refine ⟨k + 1, b, b2, s ++ s', rfl, rfl, by rw [Nat.succ_mul, ← h1]; exact h2, HB2.out.symm, by rw [List.length_append, h3, q2, g2, g3]; omega, hbL, h4.snoc (k := k) (by omega) q4 (by omega), by rw [g4]; exact Srt.app h5 q3, by simpa using q1, HM2.out.then_ q5⟩
              case measure => simp [intOf]; omega
            · have hbLz : ¬ (b : Int) ≤ (L : Int) := by omega
              have hfin : Hid (∀ s' : List (SI N), Srt (ltC ct) (cur.drop a) s' → Srd (ltC ct) s' → s'.length = L - a → Srt (ltC ct) l (s ++ s') ∧ Bks ct D (s ++ s') ∧ (s ++ s').length = L) := fun s' k1 k2 k3 => by
                obtain ⟨h1, h2, h3, h4, h5⟩ := HO2.out
                refine ⟨HO.out.2.2.trans ?_, h4.snoc (k := k) (by omega) k2 (by omega), by rw [List.length_append]; omega⟩
                have h9 := Srt.app h5 k1
                rwa [List.take_append_drop] at h9
              by_cases hmL : m < L
              · have hmLz : (m : Int) < (L : Int) := by omega
                have hs2 : Srd (ltC ct) (cur.drop m) := by
                  have h9 := HO.out.2.1 (2 * k + 1)
                  rw [← HC1.out.2.2.1, List.take_of_length_le (by have := HO.out.1; have := HC1.out.2.2.2.1; have := HO2.out.2.1; have := HD.out; rw [List.length_drop]; omega)] at h9
                  exact h9
                have hln : c1.length = B := by
                  have h0 := HO.out.1
                  have h1 := HC1.out.2.2.2.2
                  have := HC1.out.2.2.2.1
                  rw [← h1, List.length_take, List.length_drop]; omega
                have hr9 := HR2.out
                rw [HC1.out.1] at hr9
                have HCall := Lib.hid (HS.out wr HM2.out s c1 (cur.drop m) [] a m L HC1.out.2.1 hs2 (by omega) (by have := HO.out.1; rw [List.length_drop]; omega) (by simpa using hr9) (by have := HO2.out; have := HO.out; have := HC1.out.2.2.2.1; simp; omega) HO2.out.2.2.1.symm (by have := HC1.out.2.2.2.1; omega) (by have := HO.out.1; rw [List.length_drop]; omega))
                have HLn := Lib.hid (⟨hln, HC1.out.2.2.2.1⟩ : c1.length = B ∧ a + B = m)
                clear hs2 hln hr9
                go_wp2_with (first
                  | (go_at_call 80; (with_reducible refine HCall.out.mono ?_); rintro e w1 ⟨rfl, s', q1, q2, q3, q4, q5⟩))
                go_roundw
                case rel =>
                  have h9 := hfin.out s' (by rw [HC1.out.1]; exact q3) q4 (by rw [q2, List.length_drop]; have := HLn.out; have := HO.out.1; omega)
                  exact ⟨D, s ++ s', by rw [← HD.out]; go_num, by omega, by omega, h9.2.2, h9.2.1, h9.1, by simpa using q1, HM2.out.then_ q5⟩
                case measure => simp [intOf]; omega
              · have hmLz : ¬ (m : Int) < (L : Int) := by omega
                have h9 := hfin.out (cur.drop a) (Srt.refl _) (by
                  have h8 := HC1.out.2.2.2.2
                  rw [List.take_of_length_le (by have := HO.out.1; have := HC1.out.2.2.2.1; rw [List.length_drop]; omega)] at h8
                  rw [h8]; exact HC1.out.2.1) (by rw [List.length_drop]; have := HO.out.1; omega)
                have H9 := Lib.hid h9
                clear h9
                go_wp2_with (fail)
                go_roundw
                case rel => exact ⟨D, s ++ cur.drop a, by rw [← HD.out]; go_num, by omega, by omega, H9.out.2.2, H9.out.2.1, H9.out.1, HR2.out, HM2.out⟩
                case measure => simp [intOf]; omega
        · have hBLz : ¬ (B : Int) < (L : Int) := by omega
          go_wp2_with (fail)
          go_end0
          exact ⟨rfl, cur, HR.out, HO.out.1, HO.out.2.2, HO.out.2.1.all (by have := HO.out.1; omega), HM.out⟩

theorem sort_any {w : World} {gb bx gc : Nat} {ct : List Int} {l : List (SI N)} {tl : List Value} {L : Nat} (hct : CtR N w bx gc ct) (hne : gb ≠ bx ∧ gb ≠ gc) (hNN : N ≤ 1000000) (hR0 : SRow w gb l tl) (hL : l.length = L) (c : Nat) (hl : L ≤ 4000000000) (hc : L ≤ c) :
    Calls Try.prog 50 #[.slice (some ⟨gb, 0, none⟩) L c, .func (.func 51) #[] #[.pointer (some ⟨bx, 0, none⟩)]] w fun e w' => e = .returned (.tuple #[]) ∧ ∃ l', SRow w' gb l' tl ∧ l'.length = L ∧ Srt (ltC ct) l l' ∧ Srd (ltC ct) l' ∧ Mod (· = gb) w w' := by
  have HS := Lib.hid (stable_any hct hne hNN hR0 hL c hl hc)
  clear hR0 hL hct
  go_enter Try.func50, Try.ntmps50
  go_wp2_with (first
    | (go_at_call 67; (with_reducible refine HS.out.mono ?_); rintro e w1 ⟨rfl, s', q1, q2, q3, q4, q5⟩))
  go_end0
  exact ⟨rfl, s', q1, q2, q3, q4, q5⟩
end Go.Proofs.Ytbbflddhbamjbaa
