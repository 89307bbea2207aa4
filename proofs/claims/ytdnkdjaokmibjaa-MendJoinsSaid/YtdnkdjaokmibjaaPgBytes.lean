/- page.mostBody, page.Bytes. -/
import Derived.Test.YtdnkdjaokmibjaaPgSplitL
import Derived.BigQuiet
import Derived.Deep.QuietTactic
set_option linter.unusedSimpArgs false
set_option linter.unusedVariables false
namespace Go.Proofs.Ytdnkdjaokmibjaa
open Go.RowKit

theorem mostbody_any (g : Bool) (w : World) : Calls Try.prog 47 #[.bool g] w fun e w' => e = .returned (.int .i64 (mostB g)) ∧ w = w' := by
  cases g
  all_goals
    go_enter Try.func47, Try.ntmps47
    go_wp2
    go_ret
    exact ⟨rfl, rfl⟩
theorem big4_any (n : Int) (h0 : 0 ≤ n) (h1 : n ≤ 4294967295) (w : World) :
    Calls Try.prog 49 #[.int .u64 n, .int .i64 4] w fun e w' => ∃ v, e = .returned v ∧ OwnI w' w.heap.size 5 .u8 v (bg n 4) ∧ Below w.heap.size w w' := big_any n h0 (by omega) 4 (by omega) (by omega) w

set_option maxHeartbeats 4000000 in
set_option maxRecDepth 100000 in
theorem pgbytes_any (p : Pg) (A : Option Addr) (c : Nat) (hw : p.wf) (w : World) (hr : RdI w w.heap.size .u8 A p.body) :
    Calls Try.prog 24 #[p.val A c] w fun e w' => ∃ v, e = .returned (.tuple #[v, .int .i64 (pgE p)]) ∧ OwnI w' w.heap.size 5 .u8 v (pgB p) ∧ Below w.heap.size w w' := by
  have HB := Lib.hid (show pgB p = if pgE p = 0 then pgBytes p else [] from rfl)
  have HE := Lib.hid (show pgE p = if pgOk p = true then 0 else 1 from rfl)
  have HO := Lib.hid (show pgOk p = decide (0 ≤ p.seq ∧ p.seq ≤ 2147483647 ∧ 1 ≤ p.body.length ∧ (p.body.length : Int) ≤ mostB p.guard) from rfl)
  have HBy := Lib.hid (show pgBytes p = pgHead p ++ bg (crc (pgHead p)) 4 from rfl)
  have HH := Lib.hid (show pgHead p = [75, 80, fl p.first 1 + fl p.last 2 + fl p.guard 4] ++ bg p.seq 4 ++ [(p.body.length : Int)] ++ p.body from rfl)
  have HHb := Lib.hid (fun h => pgHead_bytes (p := p) h hw.bytes)
  have HHl := Lib.hid (pgHead_len p)
  have HM := Lib.hid (fun W => mostbody_any p.guard W)
  have hm := mostB_le p.guard
  have hbd := crc_bd (pgHead p)
  generalize pgB p = B at *
  generalize pgE p = E at *
  generalize pgOk p = O at *
  generalize pgBytes p = BY at *
  generalize pgHead p = H at *
  obtain ⟨⟨s1, s2⟩, hlen, hby⟩ := hw
  obtain ⟨seq, first, last, guard, body⟩ := p
  simp only at *
  generalize mostB guard = M at *
  by_cases hh : 0 ≤ seq ∧ seq ≤ 2147483647 ∧ 1 ≤ body.length ∧ (body.length : Int) ≤ M
  · have hO : O = true := HO.out.trans (decide_eq_true hh)
    subst hO
    have HE2 : E = 0 := by rw [HE.out, if_pos rfl]
    subst HE2
    obtain ⟨h1, h2, h3, h4⟩ := hh
    have q1 : decide (seq < 0) = false := by simp; omega
    have q2 : decide (2147483647 < seq) = false := by simp; omega
    have q3 : decide ((body.length : Int) < 1) = false := by simp; omega
    have q4 : decide (M < (body.length : Int)) = false := by simp; omega
    have HBB := Lib.hid ((HB.out.trans (if_pos rfl)).trans HBy.out)
    have ho1 := or_flags first last
    have ho2 := or_flags3 first last guard
    have w1 : IntKind.u8.wrap (body.length : Int) = body.length := by rw [IntKind.wrap_u8]; omega
    have HB1 := Lib.hid (fun W => big4_any seq (by omega) (by omega) W)
    have HB2 := Lib.hid (fun W => big4_any (crc H) (by omega) (by omega) W)
    obtain ⟨bg1, hbg1⟩ : ∃ l, l = bg seq 4 := ⟨_, rfl⟩
    obtain ⟨bg2, hbg2⟩ : ∃ l, l = bg (crc H) 4 := ⟨_, rfl⟩
    have hl1 : bg1.length = 4 := by rw [hbg1, bg_len]
    have hl2 : bg2.length = 4 := by rw [hbg2, bg_len]
    rw [← hbg1] at HB1 HH
    rw [← hbg2] at HB2 HBB
    have hl1' : bg1.length ≤ 4 := by omega
    have hl2' : bg2.length ≤ 4 := by omega
    have hl3 : body.length ≤ 255 := by omega
    have hHl : H.length ≤ 300 := by have := HHl.out; omega
    have HT := Lib.hid (fun (w : World) (B : Nat) (A : Option Addr) (c : Nat) (hr : RdI w B .u8 A H) => thirtytwo_any (c := c) (HHb.out (by first | rfl | trivial)) hr (by omega))
    generalize crc H = C at *
    have HR := Lib.hid hr
    clear hr hby HB HBy hbg1 hbg2 hl1 hl2 HO HE
    go_enter Try.func24, Try.ntmps24
    go_wp2
    have kb := Blk.new w 33 #[.int .i64 seq, .bool first, .bool last, .bool guard, .slice A body.length c]
    have hbw : Below w.heap.size w (w.alloc (.cells #[.int .i64 seq, .bool first, .bool last, .bool guard, .slice A body.length c] 33)) := below_alloc (Below.refl _ _) _
    have hR := HR.out.alloc (Nat.le_refl _) (.cells #[.int .i64 seq, .bool first, .bool last, .bool guard, .slice A body.length c] 33)
    generalize w.alloc (.cells #[.int .i64 seq, .bool first, .bool last, .bool guard, .slice A body.length c] 33) = wb at *
    have hgl := kb.lt
    have x0 := kb.cell 0
    have x1 := kb.cell 1
    have x2 := kb.cell 2
    have x3 := kb.cell 3
    have x4 := kb.cell 4
    go_quiet ((go_at_call 47; with_reducible exact quiet_left (HM.out _)))
    have kb := kb.drewN nq
    have hbw := below_drewN hbw nq
    have hR := hR.drewN nq
    clear x0 x1 x2 x3 x4
    generalize wb.drewN nq = wy at *
    have hgl := kb.lt
    have x1 := kb.cell 1
    have x2 := kb.cell 2
    have x3 := kb.cell 3
    have F1 := Lib.hid (fun W => flag_any first 1 W)
    have F2 := Lib.hid (fun W => flag_any last 2 W)
    have F3 := Lib.hid (fun W => flag_any guard 4 W)
    go_wp2
    go_quiet (first
      | (go_at_call 48; with_reducible exact quiet_left (F1.out _))
      | (go_at_call 48; with_reducible exact quiet_left (F2.out _))
      | (go_at_call 48; with_reducible exact quiet_left (F3.out _)))
    have kb := kb.drewN nq
    have hbw := below_drewN hbw nq
    have hR := hR.drewN nq
    clear x1 x2 x3
    generalize wy.drewN nq = wz at *
    have hgl := kb.lt
    have x0 := kb.cell 0
    have ow0 := OwnI.lit wz wz.heap.size 5 .u8 [75, 80, fl first 1 + fl last 2 + fl guard 4] #[.int .u8 75, .int .u8 80, .int .u8 (fl first 1 + fl last 2 + fl guard 4)] rfl (Nat.le_refl _) (by simp [maxLen])
    have bw0 : Below wz.heap.size wz (wz.alloc (.cells #[.int .u8 75, .int .u8 80, .int .u8 (fl first 1 + fl last 2 + fl guard 4)] 5)) := below_alloc (Below.refl _ _) _
    have h0 := ((kb.below bw0 hgl).cell 0)
    go_wp2_with (first
      | (go_at_call 49; (with_reducible refine (HB1.out _).mono ?_); rintro e w1 ⟨v1, rfl, hown1, hb1⟩; have bw1 := below_then bw0 hb1; have ow1 := ow0.below hb1; have hown1 := hown1.base_ bw0.size; obtain ⟨A1, c1, rfl, hc1, hr1, _⟩ := hown1.form)
      | (at_builtin; refine wpList_append_int _ rfl (.tmp 42) (.tmp 46) _ rfl wz wz.heap.size wz.heap.size 5 .u8 1 Try.underlying31 info_u8 _ _ rfl ow1 _ A1 _ c1 bg1 rfl rfl hr1 (by simp; omega) (by omega) bw1 (Nat.le_refl _) bw1.size ?_; intro v2 w2 ow2 bw2; have y4 := (kb.below bw2 hgl).cell 4)
      | (at_builtin; refine wpList_push_int _ rfl (.tmp 48) (.tmp 53) _ rfl wz wz.heap.size wz.heap.size 5 .u8 1 Try.underlying31 info_u8 _ _ rfl ow2 _ 1 (body.length : Int) rfl rfl (by rw [List.length_append]; simp only [List.length_cons, List.length_nil]; omega) (by omega) bw2 (Nat.le_refl _) bw2.size ?_; intro v3 w3 ow3 bw3; have y5 := (kb.below bw3 hgl).cell 4; have hR3 := hR.below bw3 (by omega))
      | (at_builtin; refine wpList_append_int _ rfl (.tmp 55) (.tmp 57) _ rfl wz wz.heap.size wz.heap.size 5 .u8 1 Try.underlying31 info_u8 _ _ rfl ow3 _ A _ c body rfl rfl hR3 (by simp; omega) (by omega) bw3 (Nat.le_refl _) bw3.size ?_; intro v4 w4 ow4 bw4; rw [← HH.out] at ow4; obtain ⟨A4, c4, rfl, hc4, hr4, _⟩ := ow4.form)
      | (go_at_call 50; (with_reducible refine (HT.out _ _ _ _ hr4).mono ?_); rintro e w5 ⟨rfl, rfl⟩)
      | (go_at_call 49; (with_reducible refine (HB2.out _).mono ?_); rintro e w6 ⟨v6, rfl, hown6, hb6⟩; have bw6 := below_then bw4 hb6; have ow6 := ow4.below hb6; have hown6 := hown6.base_ bw4.size; obtain ⟨A6, c6, rfl, hc6, hr6, _⟩ := hown6.form)
      | (at_builtin; refine wpList_append_int _ rfl (.tmp 59) (.tmp 63) _ rfl wz wz.heap.size wz.heap.size 5 .u8 1 Try.underlying31 info_u8 _ _ rfl ow6 _ A6 _ c6 bg2 rfl rfl hr6 (by first | omega | (simp only [List.length_append, List.length_cons, List.length_nil]; omega) | (simp; omega)) (by omega) bw6 (Nat.le_refl _) bw6.size ?_; intro v7 w7 ow7 bw7))
    go_ret2
    rw [HBB.out]
    exact ⟨_, rfl, ow7.base_ hbw.size, below_then hbw bw7⟩
  · have hO : O = false := HO.out.trans (decide_eq_false hh)
    subst hO
    have HE2 : E = 1 := by rw [HE.out, if_neg (by simp)]
    subst HE2
    have HBB := Lib.hid (HB.out.trans (if_neg (by omega)))
    have hcase : seq < 0 ∨ (0 ≤ seq ∧ 2147483647 < seq) ∨ (0 ≤ seq ∧ seq ≤ 2147483647 ∧ body.length < 1) ∨ (0 ≤ seq ∧ seq ≤ 2147483647 ∧ 1 ≤ body.length ∧ M < (body.length : Int)) := by omega
    clear hh HB HE HO HBy HH HHb HHl hr
    rcases hcase with h | ⟨h1, h2⟩ | ⟨h1, h2, h3⟩ | ⟨h1, h2, h3, h4⟩
    · have q1 : decide (seq < 0) = true := by simp; omega
      go_enter Try.func24, Try.ntmps24
      go_wp2
      have kb := Blk.new w 33 #[.int .i64 seq, .bool first, .bool last, .bool guard, .slice A body.length c]
      have hbw : Below w.heap.size w (w.alloc (.cells #[.int .i64 seq, .bool first, .bool last, .bool guard, .slice A body.length c] 33)) := below_alloc (Below.refl _ _) _
      generalize w.alloc (.cells #[.int .i64 seq, .bool first, .bool last, .bool guard, .slice A body.length c] 33) = wb at *
      have x0 := kb.cell 0
      have x3 := kb.cell 3
      have x4 := kb.cell 4
      go_quiet ((go_at_call 47; with_reducible exact quiet_left (HM.out _)))
      go_wp2
      go_ret2
      rw [HBB.out]
      exact ⟨_, rfl, OwnI.nil_ _ _ _ _, below_drewN hbw _⟩
    · have q1 : decide (seq < 0) = false := by simp; omega
      have q2 : decide (2147483647 < seq) = true := by simp; omega
      go_enter Try.func24, Try.ntmps24
      go_wp2
      have kb := Blk.new w 33 #[.int .i64 seq, .bool first, .bool last, .bool guard, .slice A body.length c]
      have hbw : Below w.heap.size w (w.alloc (.cells #[.int .i64 seq, .bool first, .bool last, .bool guard, .slice A body.length c] 33)) := below_alloc (Below.refl _ _) _
      generalize w.alloc (.cells #[.int .i64 seq, .bool first, .bool last, .bool guard, .slice A body.length c] 33) = wb at *
      have x0 := kb.cell 0
      have x3 := kb.cell 3
      have x4 := kb.cell 4
      go_quiet ((go_at_call 47; with_reducible exact quiet_left (HM.out _)))
      go_wp2
      go_ret2
      rw [HBB.out]
      exact ⟨_, rfl, OwnI.nil_ _ _ _ _, below_drewN hbw _⟩
    · have q1 : decide (seq < 0) = false := by simp; omega
      have q2 : decide (2147483647 < seq) = false := by simp; omega
      have q3 : decide ((body.length : Int) < 1) = true := by simp; omega
      go_enter Try.func24, Try.ntmps24
      go_wp2
      have kb := Blk.new w 33 #[.int .i64 seq, .bool first, .bool last, .bool guard, .slice A body.length c]
      have hbw : Below w.heap.size w (w.alloc (.cells #[.int .i64 seq, .bool first, .bool last, .bool guard, .slice A body.length c] 33)) := below_alloc (Below.refl _ _) _
      generalize w.alloc (.cells #[.int .i64 seq, .bool first, .bool last, .bool guard, .slice A body.length c] 33) = wb at *
      have x0 := kb.cell 0
      have x3 := kb.cell 3
      have x4 := kb.cell 4
      go_quiet ((go_at_call 47; with_reducible exact quiet_left (HM.out _)))
      go_wp2
      go_ret2
      rw [HBB.out]
      exact ⟨_, rfl, OwnI.nil_ _ _ _ _, below_drewN hbw _⟩
    · have q1 : decide (seq < 0) = false := by simp; omega
      have q2 : decide (2147483647 < seq) = false := by simp; omega
      have q3 : decide ((body.length : Int) < 1) = false := by simp; omega
      have q4 : decide (M < (body.length : Int)) = true := by simp; omega
      go_enter Try.func24, Try.ntmps24
      go_wp2
      have kb := Blk.new w 33 #[.int .i64 seq, .bool first, .bool last, .bool guard, .slice A body.length c]
      have hbw : Below w.heap.size w (w.alloc (.cells #[.int .i64 seq, .bool first, .bool last, .bool guard, .slice A body.length c] 33)) := below_alloc (Below.refl _ _) _
      generalize w.alloc (.cells #[.int .i64 seq, .bool first, .bool last, .bool guard, .slice A body.length c] 33) = wb at *
      have x0 := kb.cell 0
      have x3 := kb.cell 3
      have x4 := kb.cell 4
      go_quiet ((go_at_call 47; with_reducible exact quiet_left (HM.out _)))
      go_wp2
      go_ret2
      rw [HBB.out]
      exact ⟨_, rfl, OwnI.nil_ _ _ _ _, below_drewN hbw _⟩
end Go.Proofs.Ytdnkdjaokmibjaa
