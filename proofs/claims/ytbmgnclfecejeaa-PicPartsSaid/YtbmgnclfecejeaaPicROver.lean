/- The reference's Over. -/
import Derived.Test.YtbmgnclfecejeaaPicRIs
import Derived.Test.YtbmgnclfecejeaaPicPlain2
namespace Go.Proofs.Ytbmgnclfecejeaa
open Go.RowKit

theorem getD_setI {L : List Int} {j i : Nat} {x : Int} (hi : i < L.length) : (L.set j x).getD i 0 = if i = j then x else L.getD i 0 := by
  by_cases h : i = j
  · subst h
    simp [List.getD, hi]
  · simp [List.getD, h, Ne.symm h]
theorem splI_nil (L : List Int) (o : Nat) : splI L o [] = L := by simp [splI]
theorem splI_succ {L q : List Int} {o m : Nat} (h : o + m < L.length) (hq : m < q.length) : splI L o (q.take (m + 1)) = (splI L o (q.take m)).set (o + m) (q.getD m 0) := by
  have l1 : (q.take (m + 1)).length = m + 1 := by rw [List.length_take]; omega
  have l2 : (q.take m).length = m := by rw [List.length_take]; omega
  refine ext_get (by rw [List.length_set, splI_length (by omega), splI_length (by omega)]) fun i hi => ?_
  rw [splI_length (by omega)] at hi
  rw [splI_get (by omega), getD_setI (by rw [splI_length (by omega)]; exact hi), splI_get (by omega), l1, l2]
  by_cases h1 : i = o + m
  · subst h1
    rw [if_pos (by omega), if_pos rfl, getD_take' (by omega)]
    congr 1
    omega
  · rw [if_neg h1]
    by_cases h2 : o ≤ i ∧ i < o + m
    · rw [if_pos (by omega), if_pos h2, getD_take' (by omega), getD_take' (by omega)]
    · rw [if_neg (by omega), if_neg h2]

set_option maxHeartbeats 4000000 in
theorem over_any {w : World} {B : Nat} {A A2 : Option Addr} {c c2 : Nat} {l part : List Int} (hr : RdI w B .i64 A l) (hr2 : RdI w B .i64 A2 part) (hB : B ≤ w.heap.size) (W x y a b : Nat) (hW : W ≤ 64) (hx : x ≤ 64) (hy : y ≤ 64) (ha : a ≤ 64) (hb : b ≤ 64) (hl : l.length ≤ 4096) (hl0 : 0 < l.length)
    (hrow : ∀ r, r < b → (y + r) * W + x + a ≤ l.length) (hp : part.length = b * a) :
    Calls Try.prog 50 #[.slice A l.length c, .int .i64 (W : Int), .slice A2 part.length c2, .int .i64 (x : Int), .int .i64 (y : Int), .int .i64 (a : Int), .int .i64 (b : Int)] w fun e w' => ∃ A' c', e = .returned (.slice A' l.length c') ∧ OwnI w' w.heap.size 3 .i64 (.slice A' l.length c') (pastePl l W x y part a b) ∧ Below w.heap.size w w' := by
  have HR := Lib.hid hrow
  clear hrow
  have HLen := Lib.hid (fun k (hk : k ≤ b) => pastePl_length (l := l) (W := W) (x := x) (y := y) (part := part) (a := a) k (fun r hr => HR.out r (by omega)))
  have Hp := Lib.hid hp
  clear hp
  go_enter Try.func50, Try.ntmps50
  go_wp2_with (first
    | (at_builtin; go_must (refine wpList_append_int _ rfl (.tmp 18) (.tmp 19) _ rfl w w.heap.size w.heap.size 3 .i64 8 Try.underlying25 info_int _ [] rfl (OwnI.empty w _ _ _ (Nat.le_refl _)) B A l.length c l rfl rfl (hr.alloc hB _) (by simp; omega) (by omega) (by repeat (first | exact Below.refl _ _ | assumption | refine Below.drew ?_ | refine below_drewN ?_ _ | refine below_alloc ?_ _)) (Nat.le_refl _) (by simp) ?_); intro v1 w1 hown1' hbel1; have hown1 : OwnI w1 w.heap.size 3 .i64 v1 l := hown1'; clear hown1'; obtain ⟨g, c1, rfl, hg1, hg2, hc1, _⟩ := hown1.row hl0))
  go_loopw [16] (fun i wr => ∃ (k : Nat), k ≤ b ∧ i = .int .i64 k ∧ Below w.heap.size w wr ∧ OwnI wr w.heap.size 3 .i64 (.slice (some ⟨g, 0, none⟩) l.length c1) (pastePl l W x y part a k)) (fun i _ => b - (intOf i).toNat)
  case atStart => exact ⟨0, Nat.zero_le _, rfl, hbel1, hown1⟩
  case round =>
    obtain ⟨k, hk, rfl, hbw, how⟩ := hrel
    by_cases hkb : k < b
    · obtain ⟨P, hP⟩ : ∃ P : Nat, P = (y + k) * W := ⟨_, rfl⟩
      obtain ⟨Q, hQ⟩ : ∃ Q : Nat, Q = k * a := ⟨_, rfl⟩
      have hin := HR.out k hkb
      rw [← hP] at hin
      have hQa : Q + a ≤ part.length := by
        have := Nat.mul_le_mul_right a (show k + 1 ≤ b by omega)
        rw [Nat.succ_mul] at this
        rw [Hp.out, hQ]
        exact this
      have hQb : Q ≤ 4096 := by rw [hQ]; exact Nat.mul_le_mul (show k ≤ 64 by omega) ha
      have e1 : ((y : Int) + (k : Int)) * (W : Int) = (P : Int) := by rw [hP]; simp
      have e3 : (k : Int) * (a : Int) = (Q : Int) := by rw [hQ]; simp
      have hLk := HLen.out k hk
      obtain ⟨o, ho⟩ : ∃ o : Nat, o = P + x := ⟨_, rfl⟩
      have e2 : (P : Int) + (x : Int) = (o : Int) := by rw [ho]; simp
      have HP := Lib.hid (show pastePl l W x y part a (k + 1) = splI (pastePl l W x y part a k) o ((part.drop Q).take a) by rw [pastePl, ← hP, ← ho, ← hQ])
      generalize pastePl l W x y part a k = lk at *
      have hol : o + a ≤ l.length := by omega
      have hyk : (y : Int) + (k : Int) ≤ 128 := by omega
      have hkb' : (k : Int) < (b : Int) := by omega
      clear hP hQ ho hin
      replace hLk := Lib.hid hLk
      go_wp2
      obtain ⟨wo, hwo⟩ : ∃ wo, wo = wr := ⟨_, rfl⟩
      subst hwo
      go_loopw [17] (fun i w3 => ∃ (m : Nat), m ≤ a ∧ i = .int .i64 m ∧ Below w.heap.size w w3 ∧ OwnI w3 w.heap.size 3 .i64 (.slice (some ⟨g, 0, none⟩) l.length c1) (splI lk o ((part.drop Q).take m))) (fun i _ => a - (intOf i).toNat)
      case atStart => exact ⟨0, Nat.zero_le _, rfl, hbw, by simpa [splI_nil] using how⟩
      case round =>
        obtain ⟨m, hm, rfl, hb3, ho3⟩ := hrel
        by_cases hma : m < a
        · have hsl : (splI lk o ((part.drop Q).take m)).length = l.length := by
            rw [splI_length (by rw [List.length_take, hLk.out]; omega), hLk.out]
          obtain ⟨g', c', hv, hbg, hgl, hc', hcell, hfr, hset⟩ := ho3.row (by rw [hsl]; exact hl0)
          simp only [Value.slice.injEq, Option.some.injEq, Addr.mk.injEq, and_true] at hv
          obtain ⟨rfl, _, rfl⟩ := hv
          obtain ⟨at_, hat⟩ : ∃ at_ : Nat, at_ = o + m := ⟨_, rfl⟩
          obtain ⟨s, hs⟩ : ∃ s : Nat, s = Q + m := ⟨_, rfl⟩
          have k1 := hcell at_ (by rw [hsl]; omega)
          have f1 := hfr at_
          have hset' := hset at_
          obtain ⟨ad, rfl, _, k0⟩ := (hr2.below hb3 hB).at_ (j := s) (by omega)
          have HT := Lib.hid (show splI lk o ((part.drop Q).take (m + 1)) = (splI lk o ((part.drop Q).take m)).set at_ (part.getD s 0) by
            rw [splI_succ (by rw [hLk.out]; omega) (by rw [List.length_drop]; omega), getD_drop', ← hat, ← hs])
          have e4 : (o : Int) + (m : Int) = (at_ : Int) := by rw [hat]; simp
          have e5 : (Q : Int) + (m : Int) = (s : Int) := by rw [hs]; simp
          have hal : at_ < l.length := by omega
          have hsl2 : s < part.length := by omega
          have hma' : (m : Int) < (a : Int) := by omega
          generalize part.getD s 0 = v at *
          generalize (splI lk o ((part.drop Q).take m)).getD at_ 0 = u at *
          replace hset := Lib.hid hset'
          replace hsl := Lib.hid hsl
          clear hat hs hset' hcell hfr
          go_wp2
          go_roundw
          case rel => exact ⟨m + 1, by omega, by go_num, hb3.setCell (by simp; omega) _, by rw [HT.out]; exact hset.out v⟩
          case measure => simp [intOf]; omega
        · have hma' : m = a := by omega
          subst hma'
          have hmn : ¬ (m : Int) < (m : Int) := by omega
          go_wp2
          go_roundw
          case rel => exact ⟨k + 1, by omega, by go_num, hb3, by rw [HP.out]; exact ho3⟩
          case measure => simp [intOf]; omega
    · have hkb' : k = b := by omega
      subst hkb'
      go_wp2
      go_ret
      exact ⟨_, c1, rfl, how, hbw⟩
end Go.Proofs.Ytbmgnclfecejeaa
