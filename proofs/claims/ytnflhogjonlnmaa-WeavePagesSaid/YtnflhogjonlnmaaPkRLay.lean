/- The reference's PageLay. -/
import Derived.Test.YtnflhogjonlnmaaR2Big
import Derived.Test.YtnflhogjonlnmaaPkLayL
import Derived.Deep.RegionHeld3
set_option linter.unusedSimpArgs false
set_option linter.unusedVariables false
namespace Go.Proofs.Ytnflhogjonlnmaa
open Go.RowKit

def streamB (n : Int) : Bool := decide (0 ≤ n ∧ n < 4)
def timedB (n : Int) : Bool := decide (0 ≤ n ∧ n ≤ 1125899906842624)
theorem stream_any (n : Int) (w : World) : Calls Try.prog 73 #[.int .i64 n] w fun e w' => e = .returned (.bool (streamB n)) ∧ w = w' := by
  by_cases h0 : 0 ≤ n
  · by_cases h4 : n < 4
    · have HF := Lib.hid (show streamB n = true by simp [streamB, h0, h4])
      go_enter Try.func73, Try.ntmps73
      go_wp2
      go_ret
      exact ⟨by rw [HF.out]; rfl, rfl⟩
    · have HF := Lib.hid (show streamB n = false by simp [streamB]; omega)
      go_enter Try.func73, Try.ntmps73
      go_wp2
      go_ret
      exact ⟨by rw [HF.out]; rfl, rfl⟩
  · have HF := Lib.hid (show streamB n = false by simp [streamB]; omega)
    go_enter Try.func73, Try.ntmps73
    go_wp2
    go_ret
    exact ⟨by rw [HF.out]; rfl, rfl⟩
theorem timed_any (n : Int) (w : World) : Calls Try.prog 60 #[.int .i64 n] w fun e w' => e = .returned (.bool (timedB n)) ∧ w = w' := by
  by_cases h0 : 0 ≤ n
  · by_cases h4 : n ≤ 1125899906842624
    · have HF := Lib.hid (show timedB n = true by simp [timedB, h0, h4])
      go_enter Try.func60, Try.ntmps60
      go_wp2
      go_ret
      exact ⟨by rw [HF.out]; rfl, rfl⟩
    · have HF := Lib.hid (show timedB n = false by simp [timedB]; omega)
      go_enter Try.func60, Try.ntmps60
      go_wp2
      go_ret
      exact ⟨by rw [HF.out]; rfl, rfl⟩
  · have HF := Lib.hid (show timedB n = false by simp [timedB]; omega)
    go_enter Try.func60, Try.ntmps60
    go_wp2
    go_ret
    exact ⟨by rw [HF.out]; rfl, rfl⟩
theorem flags4 (a b : Bool) : fl a 1 + fl b 2 = (if b then (if a then 1 else 0) + 2 else (if a then 1 else 0)) := by cases a <;> cases b <;> rfl

set_option maxHeartbeats 8000000 in
set_option maxRecDepth 100000 in
theorem rlay_any (p : Pk) (A : Option Addr) (c : Nat) (hw : p.wf) (w : World) (hr : RdI w w.heap.size .u8 A p.data) :
    Calls Try.prog 61 #[p.val A c] w fun e w' => ∃ v, e = .returned (.tuple #[v, .int .i64 (layE p)]) ∧ OwnI w' w.heap.size 5 .u8 v (layB p) ∧ Below w.heap.size w w' := by
  have HB := Lib.hid (show layB p = if layE p = 0 then p.bytes else [] from rfl)
  have HE := Lib.hid (show layE p = if p.head = true then (if 65536 < p.data.length then 4 else 0) else 1 from rfl)
  have HH := Lib.hid (show p.head = (streamB p.st && (timedB p.at_ && timedB p.ln)) by
    rw [Bool.eq_iff_iff]; simp [Pk.head, streamB, timedB]; omega)
  have HBy := Lib.hid (show p.bytes = [p.st, fl p.key 1 + fl p.hid 2] ++ bg p.at_ 8 ++ bg p.ln 8 ++ p.data from rfl)
  have HS := Lib.hid (fun W => stream_any p.st W)
  have HT1 := Lib.hid (fun W => timed_any p.at_ W)
  have HT2 := Lib.hid (fun W => timed_any p.ln W)
  have HSt := Lib.hid (show streamB p.st = true → 0 ≤ p.st ∧ p.st < 4 by simp [streamB])
  have HT1t := Lib.hid (show timedB p.at_ = true → 0 ≤ p.at_ ∧ p.at_ ≤ 1125899906842624 by simp [timedB])
  have HT2t := Lib.hid (show timedB p.ln = true → 0 ≤ p.ln ∧ p.ln ≤ 1125899906842624 by simp [timedB])
  generalize layB p = B at *
  generalize layE p = E at *
  obtain ⟨⟨s1, s2⟩, ⟨a1, a2⟩, ⟨l1, l2⟩, hlen, hby⟩ := hw
  obtain ⟨st, at_, ln, key, hid, data⟩ := p
  dsimp only at *
  generalize streamB st = b1 at *
  generalize timedB at_ = b2 at *
  generalize timedB ln = b3 at *
  by_cases hbs : b1 = true ∧ b2 = true ∧ b3 = true
  · obtain ⟨rfl, rfl, rfl⟩ := hbs
    obtain ⟨h1, h2⟩ := HSt.out rfl
    obtain ⟨h3, h4⟩ := HT1t.out rfl
    obtain ⟨h5, h6⟩ := HT2t.out rfl
    by_cases hd : 65536 < data.length
    · have HE2 : E = 4 := by rw [HE.out, HH.out]; simp [hd]
      subst HE2
      have hd2 : (65536 : Int) < data.length := by omega
      go_enter Try.func61, Try.ntmps61
      go_wp2_with (first
        | (go_at_call 73; (with_reducible refine (HS.out _).mono ?_); rintro e w1 ⟨rfl, rfl⟩)
        | (go_at_call 60; (with_reducible refine (HT1.out _).mono ?_); rintro e w1 ⟨rfl, rfl⟩)
        | (go_at_call 60; (with_reducible refine (HT2.out _).mono ?_); rintro e w1 ⟨rfl, rfl⟩))
      go_ret2
      rw [HB.out]
      exact ⟨_, rfl, OwnI.nil_ _ _ _ _, below_alloc (Below.refl _ _) _⟩
    · have HE2 : E = 0 := by rw [HE.out, HH.out]; simp [hd]
      subst HE2
      have HBB := Lib.hid ((HB.out.trans (if_pos rfl)).trans HBy.out)
      have w1 : IntKind.u8.wrap st = st := by rw [IntKind.wrap_u8]; omega
      have wa : IntKind.u64.wrap at_ = at_ := by rw [IntKind.wrap_u64]; omega
      have wl : IntKind.u64.wrap ln = ln := by rw [IntKind.wrap_u64]; omega
      have HB1 := Lib.hid (fun W => r2big_any at_ (by omega) (by omega) 8 (by omega) W)
      have HB2 := Lib.hid (fun W => r2big_any ln (by omega) (by omega) 8 (by omega) W)
      simp only [show ((8 : Nat) : Int) = 8 from rfl] at HB1 HB2
      obtain ⟨bg1, hbg1⟩ : ∃ l, l = bg at_ 8 := ⟨_, rfl⟩
      obtain ⟨bg2, hbg2⟩ : ∃ l, l = bg ln 8 := ⟨_, rfl⟩
      have hl1 : bg1.length = 8 := by rw [hbg1, bg_len]
      have hl2 : bg2.length = 8 := by rw [hbg2, bg_len]
      rw [← hbg1] at HB1 HBB
      rw [← hbg2] at HB2 HBB
      have hl1' : bg1.length ≤ 8 := by omega
      have hl2' : bg2.length ≤ 8 := by omega
      clear hbg1 hbg2 hl1 hl2
      have HR := Lib.hid hr
      have hd2 : decide (65536 < (data.length : Int)) = false := by simp; omega
      have hd3 : (data.length : Int) ≤ 65536 := by omega
      have HG : ∀ F, F = fl key 1 + fl hid 2 → Hid (B = [st, F] ++ bg1 ++ bg2 ++ data) := fun F h => by rw [h]; exact HBB
      clear hr hby HB HBy HE HBB
      cases key <;> cases hid
      case false.false =>
        have HF := HG 0 rfl
        clear HG
        go_enter Try.func61, Try.ntmps61
        go_wp2_with (first
          | (go_at_call 73; (with_reducible refine (HS.out _).mono ?_); rintro e w1 ⟨rfl, rfl⟩)
          | (go_at_call 60; (with_reducible refine (HT1.out _).mono ?_); rintro e w1 ⟨rfl, rfl⟩)
          | (go_at_call 60; (with_reducible refine (HT2.out _).mono ?_); rintro e w1 ⟨rfl, rfl⟩))
        have kb := (Blk.new w 40 #[.int .i64 st, .int .i64 at_, .int .i64 ln, .bool false, .bool false, .slice A data.length c])
        have hbw : Below w.heap.size w (w.alloc (.cells #[.int .i64 st, .int .i64 at_, .int .i64 ln, .bool false, .bool false, .slice A data.length c] 40)) := below_alloc (Below.refl _ _) _
        have hR := HR.out.alloc (Nat.le_refl _) (.cells #[.int .i64 st, .int .i64 at_, .int .i64 ln, .bool false, .bool false, .slice A data.length c] 40)
        have hsz : (w.alloc (.cells #[.int .i64 st, .int .i64 at_, .int .i64 ln, .bool false, .bool false, .slice A data.length c] 40)).heap.size = w.heap.size + 1 := by simp
        generalize w.alloc (.cells #[.int .i64 st, .int .i64 at_, .int .i64 ln, .bool false, .bool false, .slice A data.length c] 40) = wb at *
        have hgl := kb.lt
        have ow0 := OwnI.lit wb wb.heap.size 5 .u8 [st, 0] #[.int .u8 st, .int .u8 0] rfl (Nat.le_refl _) (by simp [maxLen])
        have bw0 : Below wb.heap.size wb (wb.alloc (.cells #[.int .u8 st, .int .u8 0] 5)) := below_alloc (Below.refl _ _) _
        rw [hsz] at ow0
        have hZ := Lib.hid hsz
        clear hsz
        generalize wb.alloc (.cells #[.int .u8 st, .int .u8 0] 5) = wc at *
        have x1 := (kb.below bw0 hgl).cell 1
        have x2 := (kb.below bw0 hgl).cell 2
        refine wp_region_held_drew (S := (fun w' => w'.cell? ⟨w.heap.size, 1, none⟩ = some (.int .i64 at_) ∧ w'.cell? ⟨w.heap.size, 2, none⟩ = some (.int .i64 ln))) (by kernel_rfl) ?_ (fun hHeld => ?_)
        focus exact ⟨x1, x2⟩
        refine wpAnyH_take (i := 0) (v := ?_) rfl (by kernel_rfl) (by kernel_rfl) (by kernel_rfl) (fun _ _ _ h => h) (Or.inl ⟨by kernel_rfl, ?_⟩) (by assumption) ?_
        rotate_left
        focus
          intro w9 hSw
          (try dsimp only at hSw)
          go_simp
          (try with_reducible rfl)
        (try simp only [Act.put, List.getElem_toArray, List.getElem_cons_succ, List.getElem_cons_zero, List.setIfInBounds_toArray, List.set_cons_zero, List.set_cons_succ])
        refine wpAnyH_take (i := 1) (v := ?_) rfl (by kernel_rfl) (by kernel_rfl) (by kernel_rfl) (fun _ _ _ h => h) (Or.inl ⟨by kernel_rfl, ?_⟩) (by assumption) ?_
        rotate_left
        focus
          intro w9 hSw
          (try dsimp only at hSw)
          go_simp
          (try with_reducible rfl)
        (try simp only [Act.put, List.getElem_toArray, List.getElem_cons_succ, List.getElem_cons_zero, List.setIfInBounds_toArray, List.set_cons_zero, List.set_cons_succ])
        refine wpAnyH_take (i := 2) (v := ?_) rfl (by kernel_rfl) (by kernel_rfl) (by kernel_rfl) (fun _ _ _ h => h) (Or.inl ⟨by kernel_rfl, ?_⟩) (by assumption) ?_
        rotate_left
        focus
          intro w9 hSw
          (try dsimp only at hSw)
          go_simp
          (try with_reducible rfl)
        (try simp only [Act.put, List.getElem_toArray, List.getElem_cons_succ, List.getElem_cons_zero, List.setIfInBounds_toArray, List.set_cons_zero, List.set_cons_succ])
        refine wpAnyH_take (i := 3) (v := ?_) rfl (by kernel_rfl) (by kernel_rfl) (by kernel_rfl) (fun _ _ _ h => h) (Or.inl ⟨by kernel_rfl, ?_⟩) (by assumption) ?_
        rotate_left
        focus
          intro w9 hSw
          (try dsimp only at hSw)
          go_simp
          (try with_reducible rfl)
        (try simp only [Act.put, List.getElem_toArray, List.getElem_cons_succ, List.getElem_cons_zero, List.setIfInBounds_toArray, List.set_cons_zero, List.set_cons_succ])
        refine wpAnyH_take (i := 6) (v := ?_) rfl (by kernel_rfl) (by kernel_rfl) (by kernel_rfl) (fun _ _ _ h => h) (Or.inl ⟨by kernel_rfl, ?_⟩) (by assumption) ?_
        rotate_left
        focus
          intro w9 hSw
          (try dsimp only at hSw)
          go_simp
          (try with_reducible rfl)
        (try simp only [Act.put, List.getElem_toArray, List.getElem_cons_succ, List.getElem_cons_zero, List.setIfInBounds_toArray, List.set_cons_zero, List.set_cons_succ])
        refine wpAnyH_take (i := 7) (v := ?_) rfl (by kernel_rfl) (by kernel_rfl) (by kernel_rfl) (fun _ _ _ h => h) (Or.inl ⟨by kernel_rfl, ?_⟩) (by assumption) ?_
        rotate_left
        focus
          intro w9 hSw
          (try dsimp only at hSw)
          go_simp
          (try with_reducible rfl)
        (try simp only [Act.put, List.getElem_toArray, List.getElem_cons_succ, List.getElem_cons_zero, List.setIfInBounds_toArray, List.set_cons_zero, List.set_cons_succ])
        refine wpAnyH_take (i := 8) (v := ?_) rfl (by kernel_rfl) (by kernel_rfl) (by kernel_rfl) (fun _ _ _ h => h) (Or.inl ⟨by kernel_rfl, ?_⟩) (by assumption) ?_
        rotate_left
        focus
          intro w9 hSw
          (try dsimp only at hSw)
          go_simp
          (try with_reducible rfl)
        (try simp only [Act.put, List.getElem_toArray, List.getElem_cons_succ, List.getElem_cons_zero, List.setIfInBounds_toArray, List.set_cons_zero, List.set_cons_succ])
        refine wpAnyH_ready (rs := [4]) (by kernel_rfl) (by simp) (AllReadyH.cons rfl (fun K hK => ?_) AllReadyH.nil)
        go_simp
        go_at_call 74
        refine (HB1.out _).mono ?_
        rintro e w1 ⟨v1, rfl, hown1, hb1⟩
        have bw1 := below_then bw0 (below_undr hb1)
        have ow1 := ow0.below (below_undr hb1)
        have hown1 := hown1.base_ (base' := wb.heap.size) bw0.size
        obtain ⟨A1, c1, rfl, hc1, hr1, _⟩ := hown1.form
        refine hK.out _ _ ?_ (fun hHeld => ?_)
        focus exact ⟨(kb.below bw1 hgl).cell 1, (kb.below bw1 hgl).cell 2⟩
        clear hK K
        (try simp only [Act.put, List.getElem_toArray, List.getElem_cons_succ, List.getElem_cons_zero, List.setIfInBounds_toArray, List.set_cons_zero, List.set_cons_succ])
        refine wpAnyH_ready (rs := [5]) (by kernel_rfl) (by simp) (AllReadyH.cons rfl (fun K hK => ?_) AllReadyH.nil)
        refine step_append_int _ (by rfl) (.tmp 38) (.tmp 42) _ (by rfl) wb wb.heap.size wb.heap.size 5 .u8 1 Try.underlying38 info_u8 _ [st, 0] (by rfl) (by rw [hZ.out]; exact ow1) _ A1 _ c1 bg1 (by rfl) (by rfl) (by exact hr1) (by first | omega | (simp only [List.length_append, List.length_cons, List.length_nil]; omega) | (simp; omega)) (by omega) (by exact bw1) (Nat.le_refl _) (by exact bw1.size) ?_
        intro v2 w2 ow2 bw2 _ _
        refine hK.out _ _ ?_ (fun hHeld => ?_)
        focus exact ⟨(kb.below bw2 hgl).cell 1, (kb.below bw2 hgl).cell 2⟩
        clear hK K
        (try simp only [Act.put, List.getElem_toArray, List.getElem_cons_succ, List.getElem_cons_zero, List.setIfInBounds_toArray, List.set_cons_zero, List.set_cons_succ])
        refine wpAnyH_ready (rs := [9]) (by kernel_rfl) (by simp) (AllReadyH.cons rfl (fun K hK => ?_) AllReadyH.nil)
        go_simp
        go_at_call 74
        refine (HB2.out _).mono ?_
        rintro e w3 ⟨v3, rfl, hown3, hb3⟩
        have bw3 := below_then bw2 hb3
        have ow3 := ow2.below hb3
        have hown3 := hown3.base_ (base' := wb.heap.size) bw2.size
        obtain ⟨A3, c3, rfl, hc3, hr3, _⟩ := hown3.form
        refine hK.out _ _ ?_ (fun hHeld => ?_)
        focus exact ⟨(kb.below bw3 hgl).cell 1, (kb.below bw3 hgl).cell 2⟩
        clear hK K
        (try simp only [Act.put, List.getElem_toArray, List.getElem_cons_succ, List.getElem_cons_zero, List.setIfInBounds_toArray, List.set_cons_zero, List.set_cons_succ])
        refine wpAnyH_ready (rs := [10]) (by kernel_rfl) (by simp) (AllReadyH.cons rfl (fun K hK => ?_) AllReadyH.nil)
        refine step_append_int _ (by rfl) (.tmp 43) (.tmp 47) _ (by rfl) wb wb.heap.size wb.heap.size 5 .u8 1 Try.underlying38 info_u8 _ ([st, 0] ++ bg1) (by rfl) (by exact ow3) _ A3 _ c3 bg2 (by rfl) (by rfl) (by exact hr3) (by first | omega | (simp only [List.length_append, List.length_cons, List.length_nil]; omega) | (simp; omega)) (by omega) (by exact bw3) (Nat.le_refl _) (by exact bw3.size) ?_
        intro v4 w4 ow4 bw4 _ _
        refine hK.out _ _ ?_ (fun hHeld => ?_)
        focus exact ⟨(kb.below bw4 hgl).cell 1, (kb.below bw4 hgl).cell 2⟩
        clear hK K
        (try simp only [Act.put, List.getElem_toArray, List.getElem_cons_succ, List.getElem_cons_zero, List.setIfInBounds_toArray, List.set_cons_zero, List.set_cons_succ])
        refine wpAnyH_take (i := 11) (v := ?_) rfl (by kernel_rfl) (by kernel_rfl) (by kernel_rfl) (fun _ _ _ h => h) (Or.inl ⟨by kernel_rfl, ?_⟩) (by assumption) ?_
        rotate_left
        focus
          intro w9 hSw
          (try dsimp only at hSw)
          go_simp
          (try with_reducible rfl)
        (try simp only [Act.put, List.getElem_toArray, List.getElem_cons_succ, List.getElem_cons_zero, List.setIfInBounds_toArray, List.set_cons_zero, List.set_cons_succ])
        refine wpAnyH_done (by kernel_rfl) ?_ _
        (try simp only [Act.put, List.getElem_toArray, List.getElem_cons_succ, List.getElem_cons_zero, List.setIfInBounds_toArray, List.set_cons_zero, List.set_cons_succ])
        have y5 := (kb.below bw4 hgl).cell 5
        have hR4 := hR.below bw4 (by omega)
        go_wp2_with (first
            | (at_builtin; refine wpList_append_int _ rfl (.tmp 49) (.tmp 51) _ rfl wb wb.heap.size wb.heap.size 5 .u8 1 Try.underlying38 info_u8 _ _ rfl ow4 _ A _ c data rfl rfl hR4 (by first | omega | (simp only [List.length_append, List.length_cons, List.length_nil]; omega) | (simp; omega)) (by omega) bw4 (Nat.le_refl _) bw4.size ?_; intro v5 w5 ow5 bw5))
        go_ret2
        rw [HF.out]
        exact ⟨_, rfl, ow5.base_ hbw.size, below_then hbw bw5⟩
      case false.true =>
        have HF := HG 2 rfl
        clear HG
        go_enter Try.func61, Try.ntmps61
        go_wp2_with (first
          | (go_at_call 73; (with_reducible refine (HS.out _).mono ?_); rintro e w1 ⟨rfl, rfl⟩)
          | (go_at_call 60; (with_reducible refine (HT1.out _).mono ?_); rintro e w1 ⟨rfl, rfl⟩)
          | (go_at_call 60; (with_reducible refine (HT2.out _).mono ?_); rintro e w1 ⟨rfl, rfl⟩))
        have kb := (Blk.new w 40 #[.int .i64 st, .int .i64 at_, .int .i64 ln, .bool false, .bool true, .slice A data.length c])
        have hbw : Below w.heap.size w (w.alloc (.cells #[.int .i64 st, .int .i64 at_, .int .i64 ln, .bool false, .bool true, .slice A data.length c] 40)) := below_alloc (Below.refl _ _) _
        have hR := HR.out.alloc (Nat.le_refl _) (.cells #[.int .i64 st, .int .i64 at_, .int .i64 ln, .bool false, .bool true, .slice A data.length c] 40)
        have hsz : (w.alloc (.cells #[.int .i64 st, .int .i64 at_, .int .i64 ln, .bool false, .bool true, .slice A data.length c] 40)).heap.size = w.heap.size + 1 := by simp
        generalize w.alloc (.cells #[.int .i64 st, .int .i64 at_, .int .i64 ln, .bool false, .bool true, .slice A data.length c] 40) = wb at *
        have hgl := kb.lt
        have ow0 := OwnI.lit wb wb.heap.size 5 .u8 [st, 2] #[.int .u8 st, .int .u8 2] rfl (Nat.le_refl _) (by simp [maxLen])
        have bw0 : Below wb.heap.size wb (wb.alloc (.cells #[.int .u8 st, .int .u8 2] 5)) := below_alloc (Below.refl _ _) _
        rw [hsz] at ow0
        have hZ := Lib.hid hsz
        clear hsz
        generalize wb.alloc (.cells #[.int .u8 st, .int .u8 2] 5) = wc at *
        have x1 := (kb.below bw0 hgl).cell 1
        have x2 := (kb.below bw0 hgl).cell 2
        refine wp_region_held_drew (S := (fun w' => w'.cell? ⟨w.heap.size, 1, none⟩ = some (.int .i64 at_) ∧ w'.cell? ⟨w.heap.size, 2, none⟩ = some (.int .i64 ln))) (by kernel_rfl) ?_ (fun hHeld => ?_)
        focus exact ⟨x1, x2⟩
        refine wpAnyH_take (i := 0) (v := ?_) rfl (by kernel_rfl) (by kernel_rfl) (by kernel_rfl) (fun _ _ _ h => h) (Or.inl ⟨by kernel_rfl, ?_⟩) (by assumption) ?_
        rotate_left
        focus
          intro w9 hSw
          (try dsimp only at hSw)
          go_simp
          (try with_reducible rfl)
        (try simp only [Act.put, List.getElem_toArray, List.getElem_cons_succ, List.getElem_cons_zero, List.setIfInBounds_toArray, List.set_cons_zero, List.set_cons_succ])
        refine wpAnyH_take (i := 1) (v := ?_) rfl (by kernel_rfl) (by kernel_rfl) (by kernel_rfl) (fun _ _ _ h => h) (Or.inl ⟨by kernel_rfl, ?_⟩) (by assumption) ?_
        rotate_left
        focus
          intro w9 hSw
          (try dsimp only at hSw)
          go_simp
          (try with_reducible rfl)
        (try simp only [Act.put, List.getElem_toArray, List.getElem_cons_succ, List.getElem_cons_zero, List.setIfInBounds_toArray, List.set_cons_zero, List.set_cons_succ])
        refine wpAnyH_take (i := 2) (v := ?_) rfl (by kernel_rfl) (by kernel_rfl) (by kernel_rfl) (fun _ _ _ h => h) (Or.inl ⟨by kernel_rfl, ?_⟩) (by assumption) ?_
        rotate_left
        focus
          intro w9 hSw
          (try dsimp only at hSw)
          go_simp
          (try with_reducible rfl)
        (try simp only [Act.put, List.getElem_toArray, List.getElem_cons_succ, List.getElem_cons_zero, List.setIfInBounds_toArray, List.set_cons_zero, List.set_cons_succ])
        refine wpAnyH_take (i := 3) (v := ?_) rfl (by kernel_rfl) (by kernel_rfl) (by kernel_rfl) (fun _ _ _ h => h) (Or.inl ⟨by kernel_rfl, ?_⟩) (by assumption) ?_
        rotate_left
        focus
          intro w9 hSw
          (try dsimp only at hSw)
          go_simp
          (try with_reducible rfl)
        (try simp only [Act.put, List.getElem_toArray, List.getElem_cons_succ, List.getElem_cons_zero, List.setIfInBounds_toArray, List.set_cons_zero, List.set_cons_succ])
        refine wpAnyH_take (i := 6) (v := ?_) rfl (by kernel_rfl) (by kernel_rfl) (by kernel_rfl) (fun _ _ _ h => h) (Or.inl ⟨by kernel_rfl, ?_⟩) (by assumption) ?_
        rotate_left
        focus
          intro w9 hSw
          (try dsimp only at hSw)
          go_simp
          (try with_reducible rfl)
        (try simp only [Act.put, List.getElem_toArray, List.getElem_cons_succ, List.getElem_cons_zero, List.setIfInBounds_toArray, List.set_cons_zero, List.set_cons_succ])
        refine wpAnyH_take (i := 7) (v := ?_) rfl (by kernel_rfl) (by kernel_rfl) (by kernel_rfl) (fun _ _ _ h => h) (Or.inl ⟨by kernel_rfl, ?_⟩) (by assumption) ?_
        rotate_left
        focus
          intro w9 hSw
          (try dsimp only at hSw)
          go_simp
          (try with_reducible rfl)
        (try simp only [Act.put, List.getElem_toArray, List.getElem_cons_succ, List.getElem_cons_zero, List.setIfInBounds_toArray, List.set_cons_zero, List.set_cons_succ])
        refine wpAnyH_take (i := 8) (v := ?_) rfl (by kernel_rfl) (by kernel_rfl) (by kernel_rfl) (fun _ _ _ h => h) (Or.inl ⟨by kernel_rfl, ?_⟩) (by assumption) ?_
        rotate_left
        focus
          intro w9 hSw
          (try dsimp only at hSw)
          go_simp
          (try with_reducible rfl)
        (try simp only [Act.put, List.getElem_toArray, List.getElem_cons_succ, List.getElem_cons_zero, List.setIfInBounds_toArray, List.set_cons_zero, List.set_cons_succ])
        refine wpAnyH_ready (rs := [4]) (by kernel_rfl) (by simp) (AllReadyH.cons rfl (fun K hK => ?_) AllReadyH.nil)
        go_simp
        go_at_call 74
        refine (HB1.out _).mono ?_
        rintro e w1 ⟨v1, rfl, hown1, hb1⟩
        have bw1 := below_then bw0 (below_undr hb1)
        have ow1 := ow0.below (below_undr hb1)
        have hown1 := hown1.base_ (base' := wb.heap.size) bw0.size
        obtain ⟨A1, c1, rfl, hc1, hr1, _⟩ := hown1.form
        refine hK.out _ _ ?_ (fun hHeld => ?_)
        focus exact ⟨(kb.below bw1 hgl).cell 1, (kb.below bw1 hgl).cell 2⟩
        clear hK K
        (try simp only [Act.put, List.getElem_toArray, List.getElem_cons_succ, List.getElem_cons_zero, List.setIfInBounds_toArray, List.set_cons_zero, List.set_cons_succ])
        refine wpAnyH_ready (rs := [5]) (by kernel_rfl) (by simp) (AllReadyH.cons rfl (fun K hK => ?_) AllReadyH.nil)
        refine step_append_int _ (by rfl) (.tmp 38) (.tmp 42) _ (by rfl) wb wb.heap.size wb.heap.size 5 .u8 1 Try.underlying38 info_u8 _ [st, 2] (by rfl) (by rw [hZ.out]; exact ow1) _ A1 _ c1 bg1 (by rfl) (by rfl) (by exact hr1) (by first | omega | (simp only [List.length_append, List.length_cons, List.length_nil]; omega) | (simp; omega)) (by omega) (by exact bw1) (Nat.le_refl _) (by exact bw1.size) ?_
        intro v2 w2 ow2 bw2 _ _
        refine hK.out _ _ ?_ (fun hHeld => ?_)
        focus exact ⟨(kb.below bw2 hgl).cell 1, (kb.below bw2 hgl).cell 2⟩
        clear hK K
        (try simp only [Act.put, List.getElem_toArray, List.getElem_cons_succ, List.getElem_cons_zero, List.setIfInBounds_toArray, List.set_cons_zero, List.set_cons_succ])
        refine wpAnyH_ready (rs := [9]) (by kernel_rfl) (by simp) (AllReadyH.cons rfl (fun K hK => ?_) AllReadyH.nil)
        go_simp
        go_at_call 74
        refine (HB2.out _).mono ?_
        rintro e w3 ⟨v3, rfl, hown3, hb3⟩
        have bw3 := below_then bw2 hb3
        have ow3 := ow2.below hb3
        have hown3 := hown3.base_ (base' := wb.heap.size) bw2.size
        obtain ⟨A3, c3, rfl, hc3, hr3, _⟩ := hown3.form
        refine hK.out _ _ ?_ (fun hHeld => ?_)
        focus exact ⟨(kb.below bw3 hgl).cell 1, (kb.below bw3 hgl).cell 2⟩
        clear hK K
        (try simp only [Act.put, List.getElem_toArray, List.getElem_cons_succ, List.getElem_cons_zero, List.setIfInBounds_toArray, List.set_cons_zero, List.set_cons_succ])
        refine wpAnyH_ready (rs := [10]) (by kernel_rfl) (by simp) (AllReadyH.cons rfl (fun K hK => ?_) AllReadyH.nil)
        refine step_append_int _ (by rfl) (.tmp 43) (.tmp 47) _ (by rfl) wb wb.heap.size wb.heap.size 5 .u8 1 Try.underlying38 info_u8 _ ([st, 2] ++ bg1) (by rfl) (by exact ow3) _ A3 _ c3 bg2 (by rfl) (by rfl) (by exact hr3) (by first | omega | (simp only [List.length_append, List.length_cons, List.length_nil]; omega) | (simp; omega)) (by omega) (by exact bw3) (Nat.le_refl _) (by exact bw3.size) ?_
        intro v4 w4 ow4 bw4 _ _
        refine hK.out _ _ ?_ (fun hHeld => ?_)
        focus exact ⟨(kb.below bw4 hgl).cell 1, (kb.below bw4 hgl).cell 2⟩
        clear hK K
        (try simp only [Act.put, List.getElem_toArray, List.getElem_cons_succ, List.getElem_cons_zero, List.setIfInBounds_toArray, List.set_cons_zero, List.set_cons_succ])
        refine wpAnyH_take (i := 11) (v := ?_) rfl (by kernel_rfl) (by kernel_rfl) (by kernel_rfl) (fun _ _ _ h => h) (Or.inl ⟨by kernel_rfl, ?_⟩) (by assumption) ?_
        rotate_left
        focus
          intro w9 hSw
          (try dsimp only at hSw)
          go_simp
          (try with_reducible rfl)
        (try simp only [Act.put, List.getElem_toArray, List.getElem_cons_succ, List.getElem_cons_zero, List.setIfInBounds_toArray, List.set_cons_zero, List.set_cons_succ])
        refine wpAnyH_done (by kernel_rfl) ?_ _
        (try simp only [Act.put, List.getElem_toArray, List.getElem_cons_succ, List.getElem_cons_zero, List.setIfInBounds_toArray, List.set_cons_zero, List.set_cons_succ])
        have y5 := (kb.below bw4 hgl).cell 5
        have hR4 := hR.below bw4 (by omega)
        go_wp2_with (first
            | (at_builtin; refine wpList_append_int _ rfl (.tmp 49) (.tmp 51) _ rfl wb wb.heap.size wb.heap.size 5 .u8 1 Try.underlying38 info_u8 _ _ rfl ow4 _ A _ c data rfl rfl hR4 (by first | omega | (simp only [List.length_append, List.length_cons, List.length_nil]; omega) | (simp; omega)) (by omega) bw4 (Nat.le_refl _) bw4.size ?_; intro v5 w5 ow5 bw5))
        go_ret2
        rw [HF.out]
        exact ⟨_, rfl, ow5.base_ hbw.size, below_then hbw bw5⟩
      case true.false =>
        have HF := HG 1 rfl
        clear HG
        go_enter Try.func61, Try.ntmps61
        go_wp2_with (first
          | (go_at_call 73; (with_reducible refine (HS.out _).mono ?_); rintro e w1 ⟨rfl, rfl⟩)
          | (go_at_call 60; (with_reducible refine (HT1.out _).mono ?_); rintro e w1 ⟨rfl, rfl⟩)
          | (go_at_call 60; (with_reducible refine (HT2.out _).mono ?_); rintro e w1 ⟨rfl, rfl⟩))
        have kb := (Blk.new w 40 #[.int .i64 st, .int .i64 at_, .int .i64 ln, .bool true, .bool false, .slice A data.length c])
        have hbw : Below w.heap.size w (w.alloc (.cells #[.int .i64 st, .int .i64 at_, .int .i64 ln, .bool true, .bool false, .slice A data.length c] 40)) := below_alloc (Below.refl _ _) _
        have hR := HR.out.alloc (Nat.le_refl _) (.cells #[.int .i64 st, .int .i64 at_, .int .i64 ln, .bool true, .bool false, .slice A data.length c] 40)
        have hsz : (w.alloc (.cells #[.int .i64 st, .int .i64 at_, .int .i64 ln, .bool true, .bool false, .slice A data.length c] 40)).heap.size = w.heap.size + 1 := by simp
        generalize w.alloc (.cells #[.int .i64 st, .int .i64 at_, .int .i64 ln, .bool true, .bool false, .slice A data.length c] 40) = wb at *
        have hgl := kb.lt
        have ow0 := OwnI.lit wb wb.heap.size 5 .u8 [st, 1] #[.int .u8 st, .int .u8 1] rfl (Nat.le_refl _) (by simp [maxLen])
        have bw0 : Below wb.heap.size wb (wb.alloc (.cells #[.int .u8 st, .int .u8 1] 5)) := below_alloc (Below.refl _ _) _
        rw [hsz] at ow0
        have hZ := Lib.hid hsz
        clear hsz
        generalize wb.alloc (.cells #[.int .u8 st, .int .u8 1] 5) = wc at *
        have x1 := (kb.below bw0 hgl).cell 1
        have x2 := (kb.below bw0 hgl).cell 2
        refine wp_region_held_drew (S := (fun w' => w'.cell? ⟨w.heap.size, 1, none⟩ = some (.int .i64 at_) ∧ w'.cell? ⟨w.heap.size, 2, none⟩ = some (.int .i64 ln))) (by kernel_rfl) ?_ (fun hHeld => ?_)
        focus exact ⟨x1, x2⟩
        refine wpAnyH_take (i := 0) (v := ?_) rfl (by kernel_rfl) (by kernel_rfl) (by kernel_rfl) (fun _ _ _ h => h) (Or.inl ⟨by kernel_rfl, ?_⟩) (by assumption) ?_
        rotate_left
        focus
          intro w9 hSw
          (try dsimp only at hSw)
          go_simp
          (try with_reducible rfl)
        (try simp only [Act.put, List.getElem_toArray, List.getElem_cons_succ, List.getElem_cons_zero, List.setIfInBounds_toArray, List.set_cons_zero, List.set_cons_succ])
        refine wpAnyH_take (i := 1) (v := ?_) rfl (by kernel_rfl) (by kernel_rfl) (by kernel_rfl) (fun _ _ _ h => h) (Or.inl ⟨by kernel_rfl, ?_⟩) (by assumption) ?_
        rotate_left
        focus
          intro w9 hSw
          (try dsimp only at hSw)
          go_simp
          (try with_reducible rfl)
        (try simp only [Act.put, List.getElem_toArray, List.getElem_cons_succ, List.getElem_cons_zero, List.setIfInBounds_toArray, List.set_cons_zero, List.set_cons_succ])
        refine wpAnyH_take (i := 2) (v := ?_) rfl (by kernel_rfl) (by kernel_rfl) (by kernel_rfl) (fun _ _ _ h => h) (Or.inl ⟨by kernel_rfl, ?_⟩) (by assumption) ?_
        rotate_left
        focus
          intro w9 hSw
          (try dsimp only at hSw)
          go_simp
          (try with_reducible rfl)
        (try simp only [Act.put, List.getElem_toArray, List.getElem_cons_succ, List.getElem_cons_zero, List.setIfInBounds_toArray, List.set_cons_zero, List.set_cons_succ])
        refine wpAnyH_take (i := 3) (v := ?_) rfl (by kernel_rfl) (by kernel_rfl) (by kernel_rfl) (fun _ _ _ h => h) (Or.inl ⟨by kernel_rfl, ?_⟩) (by assumption) ?_
        rotate_left
        focus
          intro w9 hSw
          (try dsimp only at hSw)
          go_simp
          (try with_reducible rfl)
        (try simp only [Act.put, List.getElem_toArray, List.getElem_cons_succ, List.getElem_cons_zero, List.setIfInBounds_toArray, List.set_cons_zero, List.set_cons_succ])
        refine wpAnyH_take (i := 6) (v := ?_) rfl (by kernel_rfl) (by kernel_rfl) (by kernel_rfl) (fun _ _ _ h => h) (Or.inl ⟨by kernel_rfl, ?_⟩) (by assumption) ?_
        rotate_left
        focus
          intro w9 hSw
          (try dsimp only at hSw)
          go_simp
          (try with_reducible rfl)
        (try simp only [Act.put, List.getElem_toArray, List.getElem_cons_succ, List.getElem_cons_zero, List.setIfInBounds_toArray, List.set_cons_zero, List.set_cons_succ])
        refine wpAnyH_take (i := 7) (v := ?_) rfl (by kernel_rfl) (by kernel_rfl) (by kernel_rfl) (fun _ _ _ h => h) (Or.inl ⟨by kernel_rfl, ?_⟩) (by assumption) ?_
        rotate_left
        focus
          intro w9 hSw
          (try dsimp only at hSw)
          go_simp
          (try with_reducible rfl)
        (try simp only [Act.put, List.getElem_toArray, List.getElem_cons_succ, List.getElem_cons_zero, List.setIfInBounds_toArray, List.set_cons_zero, List.set_cons_succ])
        refine wpAnyH_take (i := 8) (v := ?_) rfl (by kernel_rfl) (by kernel_rfl) (by kernel_rfl) (fun _ _ _ h => h) (Or.inl ⟨by kernel_rfl, ?_⟩) (by assumption) ?_
        rotate_left
        focus
          intro w9 hSw
          (try dsimp only at hSw)
          go_simp
          (try with_reducible rfl)
        (try simp only [Act.put, List.getElem_toArray, List.getElem_cons_succ, List.getElem_cons_zero, List.setIfInBounds_toArray, List.set_cons_zero, List.set_cons_succ])
        refine wpAnyH_ready (rs := [4]) (by kernel_rfl) (by simp) (AllReadyH.cons rfl (fun K hK => ?_) AllReadyH.nil)
        go_simp
        go_at_call 74
        refine (HB1.out _).mono ?_
        rintro e w1 ⟨v1, rfl, hown1, hb1⟩
        have bw1 := below_then bw0 (below_undr hb1)
        have ow1 := ow0.below (below_undr hb1)
        have hown1 := hown1.base_ (base' := wb.heap.size) bw0.size
        obtain ⟨A1, c1, rfl, hc1, hr1, _⟩ := hown1.form
        refine hK.out _ _ ?_ (fun hHeld => ?_)
        focus exact ⟨(kb.below bw1 hgl).cell 1, (kb.below bw1 hgl).cell 2⟩
        clear hK K
        (try simp only [Act.put, List.getElem_toArray, List.getElem_cons_succ, List.getElem_cons_zero, List.setIfInBounds_toArray, List.set_cons_zero, List.set_cons_succ])
        refine wpAnyH_ready (rs := [5]) (by kernel_rfl) (by simp) (AllReadyH.cons rfl (fun K hK => ?_) AllReadyH.nil)
        refine step_append_int _ (by rfl) (.tmp 38) (.tmp 42) _ (by rfl) wb wb.heap.size wb.heap.size 5 .u8 1 Try.underlying38 info_u8 _ [st, 1] (by rfl) (by rw [hZ.out]; exact ow1) _ A1 _ c1 bg1 (by rfl) (by rfl) (by exact hr1) (by first | omega | (simp only [List.length_append, List.length_cons, List.length_nil]; omega) | (simp; omega)) (by omega) (by exact bw1) (Nat.le_refl _) (by exact bw1.size) ?_
        intro v2 w2 ow2 bw2 _ _
        refine hK.out _ _ ?_ (fun hHeld => ?_)
        focus exact ⟨(kb.below bw2 hgl).cell 1, (kb.below bw2 hgl).cell 2⟩
        clear hK K
        (try simp only [Act.put, List.getElem_toArray, List.getElem_cons_succ, List.getElem_cons_zero, List.setIfInBounds_toArray, List.set_cons_zero, List.set_cons_succ])
        refine wpAnyH_ready (rs := [9]) (by kernel_rfl) (by simp) (AllReadyH.cons rfl (fun K hK => ?_) AllReadyH.nil)
        go_simp
        go_at_call 74
        refine (HB2.out _).mono ?_
        rintro e w3 ⟨v3, rfl, hown3, hb3⟩
        have bw3 := below_then bw2 hb3
        have ow3 := ow2.below hb3
        have hown3 := hown3.base_ (base' := wb.heap.size) bw2.size
        obtain ⟨A3, c3, rfl, hc3, hr3, _⟩ := hown3.form
        refine hK.out _ _ ?_ (fun hHeld => ?_)
        focus exact ⟨(kb.below bw3 hgl).cell 1, (kb.below bw3 hgl).cell 2⟩
        clear hK K
        (try simp only [Act.put, List.getElem_toArray, List.getElem_cons_succ, List.getElem_cons_zero, List.setIfInBounds_toArray, List.set_cons_zero, List.set_cons_succ])
        refine wpAnyH_ready (rs := [10]) (by kernel_rfl) (by simp) (AllReadyH.cons rfl (fun K hK => ?_) AllReadyH.nil)
        refine step_append_int _ (by rfl) (.tmp 43) (.tmp 47) _ (by rfl) wb wb.heap.size wb.heap.size 5 .u8 1 Try.underlying38 info_u8 _ ([st, 1] ++ bg1) (by rfl) (by exact ow3) _ A3 _ c3 bg2 (by rfl) (by rfl) (by exact hr3) (by first | omega | (simp only [List.length_append, List.length_cons, List.length_nil]; omega) | (simp; omega)) (by omega) (by exact bw3) (Nat.le_refl _) (by exact bw3.size) ?_
        intro v4 w4 ow4 bw4 _ _
        refine hK.out _ _ ?_ (fun hHeld => ?_)
        focus exact ⟨(kb.below bw4 hgl).cell 1, (kb.below bw4 hgl).cell 2⟩
        clear hK K
        (try simp only [Act.put, List.getElem_toArray, List.getElem_cons_succ, List.getElem_cons_zero, List.setIfInBounds_toArray, List.set_cons_zero, List.set_cons_succ])
        refine wpAnyH_take (i := 11) (v := ?_) rfl (by kernel_rfl) (by kernel_rfl) (by kernel_rfl) (fun _ _ _ h => h) (Or.inl ⟨by kernel_rfl, ?_⟩) (by assumption) ?_
        rotate_left
        focus
          intro w9 hSw
          (try dsimp only at hSw)
          go_simp
          (try with_reducible rfl)
        (try simp only [Act.put, List.getElem_toArray, List.getElem_cons_succ, List.getElem_cons_zero, List.setIfInBounds_toArray, List.set_cons_zero, List.set_cons_succ])
        refine wpAnyH_done (by kernel_rfl) ?_ _
        (try simp only [Act.put, List.getElem_toArray, List.getElem_cons_succ, List.getElem_cons_zero, List.setIfInBounds_toArray, List.set_cons_zero, List.set_cons_succ])
        have y5 := (kb.below bw4 hgl).cell 5
        have hR4 := hR.below bw4 (by omega)
        go_wp2_with (first
            | (at_builtin; refine wpList_append_int _ rfl (.tmp 49) (.tmp 51) _ rfl wb wb.heap.size wb.heap.size 5 .u8 1 Try.underlying38 info_u8 _ _ rfl ow4 _ A _ c data rfl rfl hR4 (by first | omega | (simp only [List.length_append, List.length_cons, List.length_nil]; omega) | (simp; omega)) (by omega) bw4 (Nat.le_refl _) bw4.size ?_; intro v5 w5 ow5 bw5))
        go_ret2
        rw [HF.out]
        exact ⟨_, rfl, ow5.base_ hbw.size, below_then hbw bw5⟩
      case true.true =>
        have HF := HG 3 rfl
        clear HG
        go_enter Try.func61, Try.ntmps61
        go_wp2_with (first
          | (go_at_call 73; (with_reducible refine (HS.out _).mono ?_); rintro e w1 ⟨rfl, rfl⟩)
          | (go_at_call 60; (with_reducible refine (HT1.out _).mono ?_); rintro e w1 ⟨rfl, rfl⟩)
          | (go_at_call 60; (with_reducible refine (HT2.out _).mono ?_); rintro e w1 ⟨rfl, rfl⟩))
        have kb := (Blk.new w 40 #[.int .i64 st, .int .i64 at_, .int .i64 ln, .bool true, .bool true, .slice A data.length c])
        have hbw : Below w.heap.size w (w.alloc (.cells #[.int .i64 st, .int .i64 at_, .int .i64 ln, .bool true, .bool true, .slice A data.length c] 40)) := below_alloc (Below.refl _ _) _
        have hR := HR.out.alloc (Nat.le_refl _) (.cells #[.int .i64 st, .int .i64 at_, .int .i64 ln, .bool true, .bool true, .slice A data.length c] 40)
        have hsz : (w.alloc (.cells #[.int .i64 st, .int .i64 at_, .int .i64 ln, .bool true, .bool true, .slice A data.length c] 40)).heap.size = w.heap.size + 1 := by simp
        generalize w.alloc (.cells #[.int .i64 st, .int .i64 at_, .int .i64 ln, .bool true, .bool true, .slice A data.length c] 40) = wb at *
        have hgl := kb.lt
        have ow0 := OwnI.lit wb wb.heap.size 5 .u8 [st, 3] #[.int .u8 st, .int .u8 3] rfl (Nat.le_refl _) (by simp [maxLen])
        have bw0 : Below wb.heap.size wb (wb.alloc (.cells #[.int .u8 st, .int .u8 3] 5)) := below_alloc (Below.refl _ _) _
        rw [hsz] at ow0
        have hZ := Lib.hid hsz
        clear hsz
        generalize wb.alloc (.cells #[.int .u8 st, .int .u8 3] 5) = wc at *
        have x1 := (kb.below bw0 hgl).cell 1
        have x2 := (kb.below bw0 hgl).cell 2
        refine wp_region_held_drew (S := (fun w' => w'.cell? ⟨w.heap.size, 1, none⟩ = some (.int .i64 at_) ∧ w'.cell? ⟨w.heap.size, 2, none⟩ = some (.int .i64 ln))) (by kernel_rfl) ?_ (fun hHeld => ?_)
        focus exact ⟨x1, x2⟩
        refine wpAnyH_take (i := 0) (v := ?_) rfl (by kernel_rfl) (by kernel_rfl) (by kernel_rfl) (fun _ _ _ h => h) (Or.inl ⟨by kernel_rfl, ?_⟩) (by assumption) ?_
        rotate_left
        focus
          intro w9 hSw
          (try dsimp only at hSw)
          go_simp
          (try with_reducible rfl)
        (try simp only [Act.put, List.getElem_toArray, List.getElem_cons_succ, List.getElem_cons_zero, List.setIfInBounds_toArray, List.set_cons_zero, List.set_cons_succ])
        refine wpAnyH_take (i := 1) (v := ?_) rfl (by kernel_rfl) (by kernel_rfl) (by kernel_rfl) (fun _ _ _ h => h) (Or.inl ⟨by kernel_rfl, ?_⟩) (by assumption) ?_
        rotate_left
        focus
          intro w9 hSw
          (try dsimp only at hSw)
          go_simp
          (try with_reducible rfl)
        (try simp only [Act.put, List.getElem_toArray, List.getElem_cons_succ, List.getElem_cons_zero, List.setIfInBounds_toArray, List.set_cons_zero, List.set_cons_succ])
        refine wpAnyH_take (i := 2) (v := ?_) rfl (by kernel_rfl) (by kernel_rfl) (by kernel_rfl) (fun _ _ _ h => h) (Or.inl ⟨by kernel_rfl, ?_⟩) (by assumption) ?_
        rotate_left
        focus
          intro w9 hSw
          (try dsimp only at hSw)
          go_simp
          (try with_reducible rfl)
        (try simp only [Act.put, List.getElem_toArray, List.getElem_cons_succ, List.getElem_cons_zero, List.setIfInBounds_toArray, List.set_cons_zero, List.set_cons_succ])
        refine wpAnyH_take (i := 3) (v := ?_) rfl (by kernel_rfl) (by kernel_rfl) (by kernel_rfl) (fun _ _ _ h => h) (Or.inl ⟨by kernel_rfl, ?_⟩) (by assumption) ?_
        rotate_left
        focus
          intro w9 hSw
          (try dsimp only at hSw)
          go_simp
          (try with_reducible rfl)
        (try simp only [Act.put, List.getElem_toArray, List.getElem_cons_succ, List.getElem_cons_zero, List.setIfInBounds_toArray, List.set_cons_zero, List.set_cons_succ])
        refine wpAnyH_take (i := 6) (v := ?_) rfl (by kernel_rfl) (by kernel_rfl) (by kernel_rfl) (fun _ _ _ h => h) (Or.inl ⟨by kernel_rfl, ?_⟩) (by assumption) ?_
        rotate_left
        focus
          intro w9 hSw
          (try dsimp only at hSw)
          go_simp
          (try with_reducible rfl)
        (try simp only [Act.put, List.getElem_toArray, List.getElem_cons_succ, List.getElem_cons_zero, List.setIfInBounds_toArray, List.set_cons_zero, List.set_cons_succ])
        refine wpAnyH_take (i := 7) (v := ?_) rfl (by kernel_rfl) (by kernel_rfl) (by kernel_rfl) (fun _ _ _ h => h) (Or.inl ⟨by kernel_rfl, ?_⟩) (by assumption) ?_
        rotate_left
        focus
          intro w9 hSw
          (try dsimp only at hSw)
          go_simp
          (try with_reducible rfl)
        (try simp only [Act.put, List.getElem_toArray, List.getElem_cons_succ, List.getElem_cons_zero, List.setIfInBounds_toArray, List.set_cons_zero, List.set_cons_succ])
        refine wpAnyH_take (i := 8) (v := ?_) rfl (by kernel_rfl) (by kernel_rfl) (by kernel_rfl) (fun _ _ _ h => h) (Or.inl ⟨by kernel_rfl, ?_⟩) (by assumption) ?_
        rotate_left
        focus
          intro w9 hSw
          (try dsimp only at hSw)
          go_simp
          (try with_reducible rfl)
        (try simp only [Act.put, List.getElem_toArray, List.getElem_cons_succ, List.getElem_cons_zero, List.setIfInBounds_toArray, List.set_cons_zero, List.set_cons_succ])
        refine wpAnyH_ready (rs := [4]) (by kernel_rfl) (by simp) (AllReadyH.cons rfl (fun K hK => ?_) AllReadyH.nil)
        go_simp
        go_at_call 74
        refine (HB1.out _).mono ?_
        rintro e w1 ⟨v1, rfl, hown1, hb1⟩
        have bw1 := below_then bw0 (below_undr hb1)
        have ow1 := ow0.below (below_undr hb1)
        have hown1 := hown1.base_ (base' := wb.heap.size) bw0.size
        obtain ⟨A1, c1, rfl, hc1, hr1, _⟩ := hown1.form
        refine hK.out _ _ ?_ (fun hHeld => ?_)
        focus exact ⟨(kb.below bw1 hgl).cell 1, (kb.below bw1 hgl).cell 2⟩
        clear hK K
        (try simp only [Act.put, List.getElem_toArray, List.getElem_cons_succ, List.getElem_cons_zero, List.setIfInBounds_toArray, List.set_cons_zero, List.set_cons_succ])
        refine wpAnyH_ready (rs := [5]) (by kernel_rfl) (by simp) (AllReadyH.cons rfl (fun K hK => ?_) AllReadyH.nil)
        refine step_append_int _ (by rfl) (.tmp 38) (.tmp 42) _ (by rfl) wb wb.heap.size wb.heap.size 5 .u8 1 Try.underlying38 info_u8 _ [st, 3] (by rfl) (by rw [hZ.out]; exact ow1) _ A1 _ c1 bg1 (by rfl) (by rfl) (by exact hr1) (by first | omega | (simp only [List.length_append, List.length_cons, List.length_nil]; omega) | (simp; omega)) (by omega) (by exact bw1) (Nat.le_refl _) (by exact bw1.size) ?_
        intro v2 w2 ow2 bw2 _ _
        refine hK.out _ _ ?_ (fun hHeld => ?_)
        focus exact ⟨(kb.below bw2 hgl).cell 1, (kb.below bw2 hgl).cell 2⟩
        clear hK K
        (try simp only [Act.put, List.getElem_toArray, List.getElem_cons_succ, List.getElem_cons_zero, List.setIfInBounds_toArray, List.set_cons_zero, List.set_cons_succ])
        refine wpAnyH_ready (rs := [9]) (by kernel_rfl) (by simp) (AllReadyH.cons rfl (fun K hK => ?_) AllReadyH.nil)
        go_simp
        go_at_call 74
        refine (HB2.out _).mono ?_
        rintro e w3 ⟨v3, rfl, hown3, hb3⟩
        have bw3 := below_then bw2 hb3
        have ow3 := ow2.below hb3
        have hown3 := hown3.base_ (base' := wb.heap.size) bw2.size
        obtain ⟨A3, c3, rfl, hc3, hr3, _⟩ := hown3.form
        refine hK.out _ _ ?_ (fun hHeld => ?_)
        focus exact ⟨(kb.below bw3 hgl).cell 1, (kb.below bw3 hgl).cell 2⟩
        clear hK K
        (try simp only [Act.put, List.getElem_toArray, List.getElem_cons_succ, List.getElem_cons_zero, List.setIfInBounds_toArray, List.set_cons_zero, List.set_cons_succ])
        refine wpAnyH_ready (rs := [10]) (by kernel_rfl) (by simp) (AllReadyH.cons rfl (fun K hK => ?_) AllReadyH.nil)
        refine step_append_int _ (by rfl) (.tmp 43) (.tmp 47) _ (by rfl) wb wb.heap.size wb.heap.size 5 .u8 1 Try.underlying38 info_u8 _ ([st, 3] ++ bg1) (by rfl) (by exact ow3) _ A3 _ c3 bg2 (by rfl) (by rfl) (by exact hr3) (by first | omega | (simp only [List.length_append, List.length_cons, List.length_nil]; omega) | (simp; omega)) (by omega) (by exact bw3) (Nat.le_refl _) (by exact bw3.size) ?_
        intro v4 w4 ow4 bw4 _ _
        refine hK.out _ _ ?_ (fun hHeld => ?_)
        focus exact ⟨(kb.below bw4 hgl).cell 1, (kb.below bw4 hgl).cell 2⟩
        clear hK K
        (try simp only [Act.put, List.getElem_toArray, List.getElem_cons_succ, List.getElem_cons_zero, List.setIfInBounds_toArray, List.set_cons_zero, List.set_cons_succ])
        refine wpAnyH_take (i := 11) (v := ?_) rfl (by kernel_rfl) (by kernel_rfl) (by kernel_rfl) (fun _ _ _ h => h) (Or.inl ⟨by kernel_rfl, ?_⟩) (by assumption) ?_
        rotate_left
        focus
          intro w9 hSw
          (try dsimp only at hSw)
          go_simp
          (try with_reducible rfl)
        (try simp only [Act.put, List.getElem_toArray, List.getElem_cons_succ, List.getElem_cons_zero, List.setIfInBounds_toArray, List.set_cons_zero, List.set_cons_succ])
        refine wpAnyH_done (by kernel_rfl) ?_ _
        (try simp only [Act.put, List.getElem_toArray, List.getElem_cons_succ, List.getElem_cons_zero, List.setIfInBounds_toArray, List.set_cons_zero, List.set_cons_succ])
        have y5 := (kb.below bw4 hgl).cell 5
        have hR4 := hR.below bw4 (by omega)
        go_wp2_with (first
            | (at_builtin; refine wpList_append_int _ rfl (.tmp 49) (.tmp 51) _ rfl wb wb.heap.size wb.heap.size 5 .u8 1 Try.underlying38 info_u8 _ _ rfl ow4 _ A _ c data rfl rfl hR4 (by first | omega | (simp only [List.length_append, List.length_cons, List.length_nil]; omega) | (simp; omega)) (by omega) bw4 (Nat.le_refl _) bw4.size ?_; intro v5 w5 ow5 bw5))
        go_ret2
        rw [HF.out]
        exact ⟨_, rfl, ow5.base_ hbw.size, below_then hbw bw5⟩
  · have HE2 : E = 1 := by rw [HE.out, HH.out]; cases b1 <;> cases b2 <;> cases b3 <;> simp_all
    subst HE2
    clear HE HH HBy HSt HT1t HT2t
    have HBB := Lib.hid (HB.out.trans (if_neg (by omega)))
    clear HB
    cases b1
    · clear hbs
      go_enter Try.func61, Try.ntmps61
      go_wp2_with (first
        | (go_at_call 73; (with_reducible refine (HS.out _).mono ?_); rintro e w1 ⟨rfl, rfl⟩))
      go_ret2
      rw [HBB.out]
      exact ⟨_, rfl, OwnI.nil_ _ _ _ _, below_alloc (Below.refl _ _) _⟩
    · cases b2
      · clear hbs
        go_enter Try.func61, Try.ntmps61
        go_wp2_with (first
          | (go_at_call 73; (with_reducible refine (HS.out _).mono ?_); rintro e w1 ⟨rfl, rfl⟩)
          | (go_at_call 60; (with_reducible refine (HT1.out _).mono ?_); rintro e w1 ⟨rfl, rfl⟩))
        go_ret2
        rw [HBB.out]
        exact ⟨_, rfl, OwnI.nil_ _ _ _ _, below_alloc (Below.refl _ _) _⟩
      · cases b3
        · clear hbs
          go_enter Try.func61, Try.ntmps61
          go_wp2_with (first
            | (go_at_call 73; (with_reducible refine (HS.out _).mono ?_); rintro e w1 ⟨rfl, rfl⟩)
            | (go_at_call 60; (with_reducible refine (HT1.out _).mono ?_); rintro e w1 ⟨rfl, rfl⟩)
            | (go_at_call 60; (with_reducible refine (HT2.out _).mono ?_); rintro e w1 ⟨rfl, rfl⟩))
          go_ret2
          rw [HBB.out]
          exact ⟨_, rfl, OwnI.nil_ _ _ _ _, below_alloc (Below.refl _ _) _⟩
        · exact absurd ⟨rfl, rfl, rfl⟩ hbs
end Go.Proofs.Ytnflhogjonlnmaa
