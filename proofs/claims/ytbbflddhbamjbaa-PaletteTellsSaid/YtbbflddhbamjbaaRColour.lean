/- The reference's Colour. -/
import Derived.Test.YtbbflddhbamjbaaPicFacts
import Derived.Deep.DeepCutAuto
set_option linter.unusedSimpArgs false
set_option linter.unusedVariables false
namespace Go.Proofs.Ytbbflddhbamjbaa
open Go.RowKit

def colL (p : List (List Int)) (n : Nat) : List Int := p.map fun l => l.getD n 0
theorem colL_length (p : List (List Int)) (n : Nat) : (colL p n).length = p.length := by simp [colL]
set_option maxHeartbeats 2000000 in
theorem colour_any {w : World} {B n : Nat} {q : Pc} {A : Option Addr} {c : Nat} (hr : RdLL w B .i64 A q.p) (hB : B ≤ w.heap.size) (h4 : q.p.length ≤ 4) (hn : ∀ l ∈ q.p, n < l.length) (hn2 : n ≤ 4096) :
    Calls Try.prog 30 #[.agg #[.int .i64 q.w, .int .i64 q.h, .int .i64 q.d, .slice A q.p.length c], .int .i64 (n : Int)] w fun e w' => ∃ A' c', e = .returned (.slice A' q.p.length c') ∧ q.p.length ≤ c' ∧
      OwnI w' w.heap.size 3 .i64 (.slice A' (colL q.p n).length c') (colL q.p n) ∧ Below w.heap.size w w' := by
  obtain ⟨qw, qh, qd, p⟩ := q
  simp only at *
  have HN := Lib.hid hn
  clear hn
  go_enter Try.func30, Try.ntmps30
  go_wp2
  have k0 := (Blk.new w 30 #[.int .i64 qw, .int .i64 qh, .int .i64 qd, .slice A p.length c])
  have bxa := below_alloc (Below.refl w.heap.size w) (.cells #[.int .i64 qw, .int .i64 qh, .int .i64 qd, .slice A p.length c] 30)
  have hr0 := hr.to hB bxa
  generalize w.alloc (.cells #[.int .i64 qw, .int .i64 qh, .int .i64 qd, .slice A p.length c] 30) = wa at *
  have hsa := bxa.size
  go_loopw [6, 5] (fun i v wr => ∃ j : Nat, j ≤ p.length ∧ i = .int .i64 j ∧ Below wa.heap.size wa wr ∧ OwnI wr wa.heap.size 3 .i64 v (colL (p.take j) n)) (fun i _ _ => p.length - (intOf i).toNat)
  case atStart => exact ⟨0, Nat.zero_le _, rfl, Below.refl _ _, by simpa [colL] using OwnI.nil_ wa wa.heap.size 3 .i64⟩
  case round =>
    obtain ⟨j, hj, rfl, hbr, ho⟩ := hrel
    obtain ⟨y0, y1, y2, y3, _⟩ := (k0.below hbr k0.lt).four
    by_cases hlt : j < p.length
    · obtain ⟨ad, Aj, cj, rfl, hadB, hcell0, hcj, hrj⟩ := hr0 j hlt
      have hcell := (hbr.cell (p := ad.add j) (by rw [add_block]; exact hadB)).trans hcell0
      have hln := HN.out _ (mem_getD hlt)
      obtain ⟨ad2, rfl, had2, hel0⟩ := hrj.at_ hln
      have hel := (hbr.cell (p := ad2.add n) (by rw [add_block]; exact had2)).trans hel0
      have HT := Lib.hid (show colL (p.take (j + 1)) n = colL (p.take j) n ++ [(p.getD j []).getD n 0] by
        rw [List.take_succ_eq_append_getElem hlt, colL, colL, List.map_append]
        simp [List.getD, hlt])
      have HL := Lib.hid (show (colL (p.take j) n).length ≤ 4 by rw [colL_length, List.length_take]; omega)
      clear hcell0 hel0 hrj
      generalize (p.getD j []).getD n 0 = x at *
      generalize (p.getD j []).length = ln at *
      generalize colL (p.take j) n = cl at *
      go_wp2_with (first
        | (at_builtin; go_must (refine wpList_push_int _ rfl (.tmp 14) (.tmp 23) _ rfl wa wa.heap.size wa.heap.size 3 .i64 8 Try.underlying22 info_int _ cl rfl ho _ 1 x rfl (by simp) (by have := HL.out; omega) (by omega) hbr (Nat.le_refl _) hbr.size ?_); intro v1 w1 ho2 hb2))
      go_roundw
      case rel => exact ⟨j + 1, by omega, by go_num, hb2, by rw [HT.out]; exact ho2⟩
      case measure => simp [intOf]; omega
    · obtain rfl : j = p.length := by omega
      rw [List.take_length] at ho
      obtain ⟨A', c', rfl, hc', _, _⟩ := ho.form
      have HLn := Lib.hid (colL_length p n)
      have hc2 : p.length ≤ c' := by rw [← colL_length p n]; exact hc'
      go_wp2
      go_ret
      exact ⟨A', c', by show Ending.returned (.slice A' (colL p n).length c') = _; rw [HLn.out], hc2, ho.base_ hsa, bxa.trans (hbr.mono hsa)⟩
end Go.Proofs.Ytbbflddhbamjbaa
