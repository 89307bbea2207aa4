/- blend: a row xored to a row. -/
import Derived.Test.YtdnkdjaokmibjaaMdL
import Derived.Test.YtdnkdjaokmibjaaOctInfo
import Derived.Deep.DeepCutAuto
set_option linter.unusedSimpArgs false
set_option linter.unusedVariables false
namespace Go.Proofs.Ytdnkdjaokmibjaa
open Go.RowKit

def lenOfV : Value → Nat
  | .slice _ n _ => n
  | _ => 0
theorem getD_pad (l : List Int) (k j : Nat) : (l ++ List.replicate k (0 : Int)).getD j 0 = l.getD j 0 := by
  rw [List.getD_eq_getElem?_getD, List.getD_eq_getElem?_getD]
  by_cases h : j < l.length
  · rw [List.getElem?_append_left h]
  · rw [List.getElem?_append_right (by omega), List.getElem?_eq_none (l := l) (by omega), List.getElem?_replicate]
    split <;> rfl
theorem getD_set (l : List Int) (i j : Nat) (x : Int) (hi : i < l.length) : (l.set i x).getD j 0 = if j = i then x else l.getD j 0 := by
  rw [List.getD_eq_getElem?_getD, List.getD_eq_getElem?_getD, List.getElem?_set]
  by_cases h : i = j
  · subst h; simp [hi]
  · rw [if_neg h, if_neg (fun e => h e.symm)]

set_option maxHeartbeats 4000000 in
set_option maxRecDepth 100000 in
theorem blend_any {w : World} {base : Nat} {v : Value} {l : List Int} (ho : OwnI w base 5 .u8 v l) (hb : base ≤ w.heap.size) {A : Option Addr} {c : Nat} {b : List Int} (hr : RdI w base .u8 A b) (hl : l.length ≤ 1000000) (hbl : b.length ≤ 1000000) (hby : byteB l) :
    Calls Try.prog 55 #[v, .slice A b.length c] w fun e w' => ∃ v', e = .returned v' ∧ OwnI w' base 5 .u8 v' (blend l b) ∧ Below base w w' := by
  have HO := Lib.hid ho
  have HR := Lib.hid (fun W (h : Below base w W) => hr.below h (Nat.le_refl _))
  have HY := Lib.hid hby
  clear ho hr hby
  go_enter Try.func55, Try.ntmps55
  go_wp2
  go_loopw [0] (fun v wr => ∃ k : Nat, (k = 0 ∨ l.length + k ≤ b.length) ∧ OwnI wr base 5 .u8 v (l ++ List.replicate k 0) ∧ Below base w wr) (fun v _ => b.length - lenOfV v)
  case atStart => exact ⟨0, .inl rfl, by simpa using HO.out, Below.refl _ _⟩
  case round =>
    obtain ⟨k, hk, hown, hbw⟩ := hrel
    have hsz := hbw.size
    have hOwn := Lib.hid hown
    obtain ⟨A1, c1, rfl, hc1, hr1, hA1⟩ := hown.form
    have hll1 : (l ++ List.replicate k (0 : Int)).length ≤ l.length + k := by simp
    have hll2 : l.length + k ≤ (l ++ List.replicate k (0 : Int)).length := by simp
    by_cases hlt : l.length + k < b.length
    · have hrep := Lib.hid (show l ++ List.replicate (k + 1) (0 : Int) = (l ++ List.replicate k 0) ++ [0] by rw [List.append_assoc, ← List.replicate_succ'])
      generalize l ++ List.replicate k (0 : Int) = lk at *
      have hd : decide ((lk.length : Int) < (b.length : Int)) = true := decide_eq_true (by omega)
      clear hown hr1 hA1
      go_wp2_with (first
        | (at_builtin; (refine wpList_push_int _ rfl (.tmp 12) (.tmp 13) _ rfl wr base base 5 .u8 1 Try.underlying31 info_u8 _ lk rfl hOwn.out _ 1 0 rfl rfl (by omega) (by omega) (Below.refl _ _) (Nat.le_refl _) (by omega) ?_); intro v2 w2 ow2 bw2; obtain ⟨A2, c2, rfl, hc2, _, _⟩ := ow2.form))
      go_roundw
      case rel => exact ⟨k + 1, .inr (by omega), by rw [hrep.out]; rw [List.length_append] at ow2; exact ow2, hbw.trans bw2⟩
      case measure => simp only [lenOfV, List.length_append, List.length_cons, List.length_nil]; omega
    · have hd : decide (((l ++ List.replicate k (0 : Int)).length : Int) < (b.length : Int)) = false := decide_eq_false (by omega)
      have HP := Lib.hid (fun j => getD_pad l k j)
      have HL := Lib.hid (show (l ++ List.replicate k (0 : Int)).length = max l.length b.length by omega)
      generalize l ++ List.replicate k (0 : Int) = lk at *
      have hw0 := Lib.hid hbw
      obtain ⟨w0, rfl⟩ : ∃ w0 : World, w0 = wr := ⟨_, rfl⟩
      have hbl2 : b.length ≤ lk.length := by have := HL.out; omega
      clear hown hr1 hbw
      go_wp2
      go_loopw [17] (fun iv wr => ∃ (i : Nat) (cur : List Int), i ≤ b.length ∧ iv = .int .i64 i ∧ cur.length = lk.length ∧ (∀ j, cur.getD j 0 = if j < i then xo (l.getD j 0) (b.getD j 0) else l.getD j 0) ∧ OwnI wr base 5 .u8 (.slice A1 lk.length c1) cur ∧ Below base w0 wr) (fun iv _ => b.length - (intOf iv).toNat)
      case atStart => exact ⟨0, lk, Nat.zero_le _, rfl, rfl, fun j => by rw [HP.out j]; simp, hOwn.out, Below.refl _ _⟩
      case round =>
        obtain ⟨i, cur, hi, rfl, hcl, hcur, hown, hbr⟩ := hrel
        have HC := Lib.hid hcur
        clear hcur
        by_cases hlt : i < b.length
        · obtain ⟨ad, rfl, hab, x0⟩ := (HR.out _ (hw0.out.trans hbr)).at_ hlt
          obtain ⟨g, c3, hv, hbg, hgl, hc3, hcell, hfr, hset⟩ := hown.row (by omega)
          simp only [Value.slice.injEq] at hv
          obtain ⟨rfl, hz, rfl⟩ := hv
          clear hz
          have hcl' := Lib.hid hcl
          have x1 := hcell i (by omega)
          have f1 := hfr i
          have hxv := HC.out i
          rw [if_neg (by omega)] at hxv
          rw [hxv] at x1
          have HI := Lib.hid (show ∀ j, (cur.set i (xo (l.getD i 0) (b.getD i 0))).getD j 0 = if j < i + 1 then xo (l.getD j 0) (b.getD j 0) else l.getD j 0 from fun j => by
            rw [getD_set cur i j _ (by omega)]
            by_cases hji : j = i
            · subst hji; rw [if_pos rfl, if_pos (by omega)]
            · rw [if_neg hji, HC.out j]
              by_cases h9 : j < i
              · rw [if_pos h9, if_pos (by omega)]
              · rw [if_neg h9, if_neg (by omega)])
          have hil : i < lk.length := by omega
          have hxo : bits .xor .u8 (l.getD i 0) (b.getD i 0) = xo (l.getD i 0) (b.getD i 0) := rfl
          have HN := Lib.hid (hset i (xo (l.getD i 0) (b.getD i 0)))
          generalize l.getD i 0 = x at *
          generalize b.getD i 0 = y at *
          clear hcell hfr hset hown hxv hcl
          go_wp2
          go_roundw
          case rel => exact ⟨i + 1, _, by omega, by go_num, by rw [List.length_set]; exact hcl'.out, HI.out, HN.out, below_put hbr hbg⟩
          case measure => simp [intOf]; omega
        · have hil : i = b.length := by omega
          subst hil
          have HE := Lib.hid (show cur = blend l b from list_ext0 (by rw [hcl, blend_len, HL.out]) fun j _ => by
            rw [HC.out j, blend_at]
            split
            · rfl
            · rw [show b.getD j 0 = 0 from by rw [List.getD_eq_getElem?_getD, List.getElem?_eq_none (by omega)]; rfl, xo_zero (HY.out.at_ j)])
          have HF := Lib.hid hown
          clear hown
          go_wp2
          go_ret
          exact ⟨_, rfl, by rw [← HE.out]; exact HF.out, hw0.out.trans hbr⟩
end Go.Proofs.Ytdnkdjaokmibjaa
