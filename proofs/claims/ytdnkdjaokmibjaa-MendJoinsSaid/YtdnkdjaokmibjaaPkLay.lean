/- page.Lay. -/
import Derived.Test.YtdnkdjaokmibjaaPkLayL
set_option linter.unusedSimpArgs false
set_option linter.unusedVariables false
namespace Go.Proofs.Ytdnkdjaokmibjaa
open Go.RowKit
set_option maxHeartbeats 4000000 in
set_option maxRecDepth 100000 in
theorem lay_any (p : Pk) (A : Option Addr) (c : Nat) (hw : p.wf) (w : World) (hr : RdI w w.heap.size .u8 A p.data) :
    Calls Try.prog 45 #[p.val A c] w fun e w' => ∃ v, e = .returned (.tuple #[v, .int .i64 (layE p)]) ∧ OwnI w' w.heap.size 5 .u8 v (layB p) ∧ Below w.heap.size w w' := by
  have HB := Lib.hid (show layB p = if layE p = 0 then p.bytes else [] from rfl)
  have HE := Lib.hid (show layE p = if p.head = true then (if 65536 < p.data.length then 4 else 0) else 1 from rfl)
  have HH := Lib.hid (show p.head = decide (0 ≤ p.st ∧ p.st < 4 ∧ 0 ≤ p.at_ ∧ p.at_ ≤ 1125899906842624 ∧ 0 ≤ p.ln ∧ p.ln ≤ 1125899906842624) from rfl)
  have HBy := Lib.hid (show p.bytes = [p.st, fl p.key 1 + fl p.hid 2] ++ bg p.at_ 8 ++ bg p.ln 8 ++ p.data from rfl)
  generalize layB p = B at *
  generalize layE p = E at *
  obtain ⟨⟨s1, s2⟩, ⟨a1, a2⟩, ⟨l1, l2⟩, hlen, hby⟩ := hw
  obtain ⟨st, at_, ln, key, hid, data⟩ := p
  simp only at *
  by_cases hh : 0 ≤ st ∧ st < 4 ∧ 0 ≤ at_ ∧ at_ ≤ 1125899906842624 ∧ 0 ≤ ln ∧ ln ≤ 1125899906842624
  · have HH2 := Lib.hid (HH.out.trans (decide_eq_true hh))
    obtain ⟨h1, h2, h3, h4, h5, h6⟩ := hh
    have q1 : decide (st < 0) = false := by simp; omega
    have q2 : decide (4 ≤ st) = false := by simp; omega
    have q3 : decide (at_ < 0) = false := by simp; omega
    have q4 : decide (1125899906842624 < at_) = false := by simp; omega
    have q5 : decide (ln < 0) = false := by simp; omega
    have q6 : decide (1125899906842624 < ln) = false := by simp; omega
    by_cases hd : 65536 < data.length
    · have HE2 : E = 4 := by rw [HE.out, HH2.out, if_pos rfl, if_pos hd]
      subst HE2
      have hd2 : (65536 : Int) < data.length := by omega
      go_enter Try.func45, Try.ntmps45
      go_wp2
      go_ret2
      rw [HB.out]
      exact ⟨_, rfl, OwnI.nil_ _ _ _ _, below_alloc (Below.refl _ _) _⟩
    · have HE2 : E = 0 := by rw [HE.out, HH2.out, if_pos rfl, if_neg hd]
      subst HE2
      have HBB := Lib.hid ((HB.out.trans (if_pos rfl)).trans HBy.out)
      have ho := or_flags key hid
      have w1 : IntKind.u8.wrap st = st := by rw [IntKind.wrap_u8]; omega
      have HB1 := Lib.hid (fun W => big8_any at_ (by omega) (by omega) W)
      have HB2 := Lib.hid (fun W => big8_any ln (by omega) (by omega) W)
      obtain ⟨bg1, hbg1⟩ : ∃ l, l = bg at_ 8 := ⟨_, rfl⟩
      obtain ⟨bg2, hbg2⟩ : ∃ l, l = bg ln 8 := ⟨_, rfl⟩
      have hl1 : bg1.length = 8 := by rw [hbg1, bg_len]
      have hl2 : bg2.length = 8 := by rw [hbg2, bg_len]
      rw [← hbg1] at HB1 HBB
      rw [← hbg2] at HB2 HBB
      have hl1' : bg1.length ≤ 8 := by omega
      have hl2' : bg2.length ≤ 8 := by omega
      clear hbg1 hbg2 hl1 hl2
      have HR := Lib.hid hr
      have hd2 : decide (65536 < (data.length : Int)) = false := by simp; omega
      have hd3 : (data.length : Int) ≤ 65536 := by omega
      clear hr hby HB HBy
      go_enter Try.func45, Try.ntmps45
      go_wp2
      have kb := Blk.new w 84 #[.int .i64 st, .int .i64 at_, .int .i64 ln, .bool key, .bool hid, .slice A data.length c]
      have hbw : Below w.heap.size w (w.alloc (.cells #[.int .i64 st, .int .i64 at_, .int .i64 ln, .bool key, .bool hid, .slice A data.length c] 84)) := below_alloc (Below.refl _ _) _
      have hR := HR.out.alloc (Nat.le_refl _) (.cells #[.int .i64 st, .int .i64 at_, .int .i64 ln, .bool key, .bool hid, .slice A data.length c] 84)
      generalize w.alloc (.cells #[.int .i64 st, .int .i64 at_, .int .i64 ln, .bool key, .bool hid, .slice A data.length c] 84) = wb at *
      have hgl := kb.lt
      have x0 := kb.cell 0
      have x1 := kb.cell 1
      have x3 := kb.cell 3
      have x4 := kb.cell 4
      refine wp_still_tail 10 (by kernel_rfl) (by kernel_rfl) ?_
      simp only [List.take_succ_cons, List.take_zero, List.drop_succ_cons, List.drop_zero]
      still_step
      still_step
      still_step
      still_step
      still_step
      still_call ((flag_any key 1 _).mono fun _ _ h => ⟨h.1, h.2.symm⟩)
      still_step
      still_step
      still_call ((flag_any hid 2 _).mono fun _ _ h => ⟨h.1, h.2.symm⟩)
      still_step
      refine wpStill_nil ?_
      have ow0 := OwnI.lit wb wb.heap.size 5 .u8 [st, fl key 1 + fl hid 2] #[.int .u8 st, .int .u8 (fl key 1 + fl hid 2)] rfl (Nat.le_refl _) (by simp [maxLen])
      have bw0 : Below wb.heap.size wb (wb.alloc (.cells #[.int .u8 st, .int .u8 (fl key 1 + fl hid 2)] 5)).drew := (below_alloc (Below.refl _ _) _).drew
      have ow0' : OwnI (wb.alloc (.cells #[.int .u8 st, .int .u8 (fl key 1 + fl hid 2)] 5)).drew wb.heap.size 5 .u8 _ _ := ow0
      clear ow0
      go_wp2_with (first
        | (go_at_call 49; (with_reducible refine (HB1.out _).mono ?_); rintro e w1 ⟨v1, rfl, hown1, hb1⟩; have bw1 := below_then bw0 hb1; have ow1 := ow0'.below hb1; have hown1 := hown1.base_ bw0.size; obtain ⟨A1, c1, rfl, hc1, hr1, _⟩ := hown1.form)
        | (go_at_call 49; (with_reducible refine (HB2.out _).mono ?_); rintro e w3 ⟨v3, rfl, hown3, hb3⟩; have bw3 := below_then bw2 hb3; have ow3 := ow2.below hb3; have hown3 := hown3.base_ bw2.size; obtain ⟨A3, c3, rfl, hc3, hr3, _⟩ := hown3.form)
        | (at_builtin; refine wpList_append_int _ rfl (.tmp 48) (.tmp 52) _ rfl wb wb.heap.size wb.heap.size 5 .u8 1 Try.underlying31 info_u8 _ _ rfl ow1 _ A1 _ c1 bg1 rfl rfl hr1 (by simp; omega) (by omega) bw1 (Nat.le_refl _) bw1.size ?_; intro v2 w2 ow2 bw2; have y2 := (kb.below bw2 hgl).cell 2)
        | (at_builtin; refine wpList_append_int _ rfl (.tmp 54) (.tmp 58) _ rfl wb wb.heap.size wb.heap.size 5 .u8 1 Try.underlying31 info_u8 _ _ rfl ow3 _ A3 _ c3 bg2 rfl rfl hr3 (by simp; omega) (by omega) bw3 (Nat.le_refl _) bw3.size ?_; intro v4 w4 ow4 bw4; have y5 := (kb.below bw4 hgl).cell 5; have hR4 := hR.below bw4 (by omega))
        | (at_builtin; refine wpList_append_int _ rfl (.tmp 60) (.tmp 62) _ rfl wb wb.heap.size wb.heap.size 5 .u8 1 Try.underlying31 info_u8 _ _ rfl ow4 _ A _ c data rfl rfl hR4 (by simp; omega) (by omega) bw4 (Nat.le_refl _) bw4.size ?_; intro v5 w5 ow5 bw5))
      go_ret2
      rw [HBB.out]
      exact ⟨_, rfl, ow5.base_ hbw.size, below_then hbw bw5⟩
  · have HE2 : E = 1 := by rw [HE.out, HH.out, decide_eq_false hh, if_neg (by simp)]
    subst HE2
    have HBB := Lib.hid (HB.out.trans (if_neg (by omega)))
    have hcase : st < 0 ∨ (0 ≤ st ∧ 4 ≤ st) ∨ (0 ≤ st ∧ st < 4 ∧ at_ < 0) ∨ (0 ≤ st ∧ st < 4 ∧ 0 ≤ at_ ∧ 1125899906842624 < at_) ∨ (0 ≤ st ∧ st < 4 ∧ 0 ≤ at_ ∧ at_ ≤ 1125899906842624 ∧ ln < 0) ∨
        (0 ≤ st ∧ st < 4 ∧ 0 ≤ at_ ∧ at_ ≤ 1125899906842624 ∧ 0 ≤ ln ∧ 1125899906842624 < ln) := by omega
    clear hh HB HE HH HBy
    rcases hcase with h | h | h | h | h | h
    all_goals
      go_enter Try.func45, Try.ntmps45
      go_wp2
      go_ret2
      rw [HBB.out]
      exact ⟨_, rfl, OwnI.nil_ _ _ _ _, below_alloc (Below.refl _ _) _⟩
end Go.Proofs.Ytdnkdjaokmibjaa
