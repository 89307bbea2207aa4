/- The reference's PageBytes. -/
import Derived.Test.YtdnkdjaokmibjaaPgSplitL
import Derived.Test.YtdnkdjaokmibjaaPkVal
import Derived.Test.YtdnkdjaokmibjaaR2Big
import Derived.Test.YtdnkdjaokmibjaaSums
import Derived.Test.YtdnkdjaokmibjaaOwnLit
import Derived.Deep.DeepCutAuto
import Derived.Deep.RegionHeld3
set_option linter.unusedSimpArgs false
set_option linter.unusedVariables false
namespace Go.Proofs.Ytdnkdjaokmibjaa
open Go.RowKit

def bodiedB (n : Int) (g : Bool) : Bool := decide (1 ≤ n ∧ n ≤ mostB g)
theorem bodied_any (n : Int) (g : Bool) (w : World) : Calls Try.prog 76 #[.int .i64 n, .bool g] w fun e w' => e = .returned (.bool (bodiedB n g)) ∧ w = w' := by
  by_cases h1 : 1 ≤ n
  · by_cases h2 : n ≤ 252
    · have HF := Lib.hid (show bodiedB n g = true by simp only [bodiedB, decide_eq_true_eq]; have := mostB_le g; omega)
      cases g
      all_goals
        go_enter Try.func76, Try.ntmps76
        go_wp2
        go_ret
        exact ⟨by rw [HF.out]; rfl, rfl⟩
    · have h2' : decide (n ≤ 252) = false := decide_eq_false h2
      cases g with
      | false =>
        have HF := Lib.hid (show bodiedB n false = false by simp only [bodiedB, decide_eq_false_iff_not, mostB]; simp; omega)
        go_enter Try.func76, Try.ntmps76
        go_wp2
        go_ret
        exact ⟨by rw [HF.out]; rfl, rfl⟩
      | true =>
        by_cases h3 : n ≤ 255
        · have HF := Lib.hid (show bodiedB n true = true by simp only [bodiedB, decide_eq_true_eq, mostB]; simp; omega)
          go_enter Try.func76, Try.ntmps76
          go_wp2
          go_ret
          exact ⟨by rw [HF.out]; rfl, rfl⟩
        · have HF := Lib.hid (show bodiedB n true = false by simp only [bodiedB, decide_eq_false_iff_not, mostB]; simp; omega)
          have h3' : decide (n ≤ 255) = false := decide_eq_false h3
          go_enter Try.func76, Try.ntmps76
          go_wp2
          go_ret
          exact ⟨by rw [HF.out]; rfl, rfl⟩
  · have HF := Lib.hid (show bodiedB n g = false by simp only [bodiedB, decide_eq_false_iff_not]; omega)
    have h1' : decide (1 ≤ n) = false := decide_eq_false h1
    go_enter Try.func76, Try.ntmps76
    go_wp2
    go_ret
    exact ⟨by rw [HF.out]; rfl, rfl⟩
theorem pgmarks_any (p : Pg) (A : Option Addr) (c : Nat) (w : World) : Calls Try.prog 77 #[p.val A c] w fun e w' => e = .returned (.int .i64 (fl p.first 1 + fl p.last 2)) ∧ Below w.heap.size w w' := by
  obtain ⟨seq, first, last, guard, body⟩ := p
  cases first <;> cases last
  all_goals
    go_enter Try.func77, Try.ntmps77
    go_wp2
    go_ret
    exact ⟨rfl, below_alloc (Below.refl _ _) _⟩
theorem r2big4_any (n : Int) (h0 : 0 ≤ n) (h1 : n ≤ 4294967295) (w : World) :
    Calls Try.prog 78 #[.int .u64 n, .int .i64 4] w fun e w' => ∃ v, e = .returned v ∧ OwnI w' w.heap.size 5 .u8 v (bg n 4) ∧ Below w.heap.size w w' := r2big_any n h0 (by omega) 4 (by omega) w

set_option maxHeartbeats 4000000 in
set_option maxRecDepth 100000 in
theorem rpgbytes_any (p : Pg) (A : Option Addr) (c : Nat) (hw : p.wf) (w : World) (hr : RdI w w.heap.size .u8 A p.body) :
    Calls Try.prog 58 #[p.val A c] w fun e w' => ∃ v, e = .returned (.tuple #[v, .int .i64 (pgE p)]) ∧ OwnI w' w.heap.size 5 .u8 v (pgB p) ∧ Below w.heap.size w w' := by
  have HB := Lib.hid (show pgB p = if pgE p = 0 then pgBytes p else [] from rfl)
  have HE := Lib.hid (show pgE p = if pgOk p = true then 0 else 1 from rfl)
  have HO := Lib.hid (show pgOk p = (decide (0 ≤ p.seq ∧ p.seq ≤ 2147483647) && bodiedB (p.body.length : Int) p.guard) by
    rw [Bool.eq_iff_iff]; simp only [pgOk, bodiedB, Bool.and_eq_true, decide_eq_true_eq]; omega)
  have HBy := Lib.hid (show pgBytes p = pgHead p ++ bg (crc (pgHead p)) 4 from rfl)
  have HH := Lib.hid (show pgHead p = [75, 80, fl p.first 1 + fl p.last 2 + fl p.guard 4] ++ bg p.seq 4 ++ [(p.body.length : Int)] ++ p.body from rfl)
  have HHb := Lib.hid (fun h => pgHead_bytes (p := p) h hw.bytes)
  have HHl := Lib.hid (pgHead_len p)
  have HBd := Lib.hid (fun W => bodied_any (p.body.length : Int) p.guard W)
  have HMk := Lib.hid (fun W => pgmarks_any p A c W)
  have hbl := Lib.hid (show bodiedB (p.body.length : Int) p.guard = true → p.body.length ≤ 255 from fun h => by
    simp only [bodiedB, decide_eq_true_eq] at h; have := mostB_le p.guard; omega)
  have hfb := Lib.hid (pgFlags_bd p)
  have hbd := crc_bd (pgHead p)
  generalize pgB p = B at *
  generalize pgE p = E at *
  generalize pgOk p = O at *
  generalize pgBytes p = BY at *
  generalize pgHead p = H at *
  obtain ⟨⟨s1, s2⟩, hlen, hby⟩ := hw
  obtain ⟨seq, first, last, guard, body⟩ := p
  simp only at *
  generalize hbo : bodiedB (body.length : Int) guard = bo at *
  clear hbo
  by_cases hs : 0 ≤ seq ∧ seq ≤ 2147483647
  · obtain ⟨h1, h2⟩ := hs
    have q1 : decide (seq < 0) = false := by simp; omega
    have q2 : decide (2147483647 < seq) = false := by simp; omega
    cases bo with
    | false =>
      have hO : O = false := by rw [HO.out]; simp
      subst hO
      have HE2 : E = 1 := by rw [HE.out, if_neg (by simp)]
      subst HE2
      have HBB := Lib.hid (HB.out.trans (if_neg (by omega)))
      clear HB HE HO HBy HH HHb HHl hr HMk
      go_enter Try.func58, Try.ntmps58
      go_wp2_with (first
        | (go_at_call 76; (with_reducible refine (HBd.out _).mono ?_); rintro e w1 ⟨rfl, rfl⟩))
      go_ret2
      rw [HBB.out]
      exact ⟨_, rfl, OwnI.nil_ _ _ _ _, below_alloc (Below.refl _ _) _⟩
    | true =>
      have hO : O = true := by rw [HO.out, decide_eq_true ⟨h1, h2⟩]; rfl
      subst hO
      have HE2 : E = 0 := by rw [HE.out, if_pos rfl]
      subst HE2
      have HBB := Lib.hid ((HB.out.trans (if_pos rfl)).trans HBy.out)
      have hl3 := hbl.out rfl
      have w1 : IntKind.u8.wrap (body.length : Int) = body.length := by rw [IntKind.wrap_u8]; omega
      have w2 : IntKind.u64.wrap seq = seq := by rw [IntKind.wrap_u64]; omega
      have w3 : IntKind.u64.wrap (crc H) = crc H := by rw [IntKind.wrap_u64]; omega
      have HB1 := Lib.hid (fun W => r2big4_any seq (by omega) (by omega) W)
      have HB2 := Lib.hid (fun W => r2big4_any (crc H) (by omega) (by omega) W)
      obtain ⟨bg1, hbg1⟩ : ∃ l, l = bg seq 4 := ⟨_, rfl⟩
      obtain ⟨bg2, hbg2⟩ : ∃ l, l = bg (crc H) 4 := ⟨_, rfl⟩
      have hl1 : bg1.length = 4 := by rw [hbg1, bg_len]
      have hl2 : bg2.length = 4 := by rw [hbg2, bg_len]
      rw [← hbg1] at HB1 HH
      rw [← hbg2] at HB2 HBB
      have hl1' : bg1.length ≤ 4 := by omega
      have hl2' : bg2.length ≤ 4 := by omega
      have hHl : H.length ≤ 300 := by have := HHl.out; omega
      have HT := Lib.hid (fun (w : World) (B : Nat) (A : Option Addr) (c : Nat) (hr : RdI w B .u8 A H) => rthirtytwo_any (c := c) (HHb.out (by first | rfl | trivial)) hr (by omega))
      generalize crc H = C at *
      have HR := Lib.hid hr
      clear hr hby HB HBy hbg1 hbg2 hl1 hl2 HO HE hbl
      go_enter Try.func58, Try.ntmps58
      go_upto_region 3 with (first
        | (go_at_call 76; (with_reducible refine (HBd.out _).mono ?_); rintro e w1 ⟨rfl, rfl⟩))
      have kb := Blk.new w 33 #[.int .i64 seq, .bool first, .bool last, .bool guard, .slice A body.length c]
      have hbw : Below w.heap.size w (w.alloc (.cells #[.int .i64 seq, .bool first, .bool last, .bool guard, .slice A body.length c] 33)) := below_alloc (Below.refl _ _) _
      have hR := HR.out.alloc (Nat.le_refl _) (.cells #[.int .i64 seq, .bool first, .bool last, .bool guard, .slice A body.length c] 33)
      generalize w.alloc (.cells #[.int .i64 seq, .bool first, .bool last, .bool guard, .slice A body.length c] 33) = wb at *
      have hgl := kb.lt
      have x0 := kb.cell 0
      have x1 := kb.cell 1
      have x2 := kb.cell 2
      have x3 := kb.cell 3
      have x4 := kb.cell 4
      go_upto_region 4 with (first
        | (go_at_call 77; (with_reducible refine (HMk.out _).mono ?_); rintro e wc ⟨rfl, hbc⟩))
      clear x0 x1 x2 x3 x4
      have kc := kb.below hbc hgl
      have hbwc := below_then hbw hbc
      have hRc := hR.below hbc hbw.size
      have hglc := kc.lt
      have y0 := kc.cell 0
      have y3 := kc.cell 3
      have y4 := kc.cell 4
      obtain ⟨F, hF⟩ : ∃ F, F = fl first 1 + fl last 2 + fl guard 4 := ⟨_, rfl⟩
      have hFb : 0 ≤ F ∧ F ≤ 7 := by rw [hF]; exact hfb.out
      rw [← hF] at HH
      obtain ⟨wd, rfl⟩ : ∃ wd : World, wd = wc := ⟨_, rfl⟩
      go_upto_if 26 with (fail)
      go_cut [4] (fun v wx => v = .int .i64 F ∧ wd = wx)
      case first =>
        cases guard with
        | true =>
          have hF' : fl first 1 + fl last 2 + 4 = F := by rw [hF]; rfl
          clear hF
          cases first <;> cases last
          all_goals
            go_wp2
            go_meet
            exact ⟨by rw [← hF'], rfl⟩
        | false =>
          have hF' : fl first 1 + fl last 2 = F := by rw [hF]; simp [fl]
          clear hF
          go_wp2
          go_meet
          exact ⟨by rw [hF'], rfl⟩
      case rest =>
      obtain ⟨rfl, rfl⟩ := hcut
      clear hF
      have wF : IntKind.u8.wrap F = F := by rw [IntKind.wrap_u8]; omega
      have ow0 := OwnI.lit wd wd.heap.size 5 .u8 [75, 80, F] #[.int .u8 75, .int .u8 80, .int .u8 F] rfl (Nat.le_refl _) (by simp [maxLen])
      have bw0 : Below wd.heap.size wd (wd.alloc (.cells #[.int .u8 75, .int .u8 80, .int .u8 F] 5)) := below_alloc (Below.refl _ _) _
      have h0 := ((kc.below bw0 hglc).cell 0)
      go_upto_region 7 with (first
        | (go_at_call 78; (with_reducible refine (HB1.out _).mono ?_); rintro e w1 ⟨v1, rfl, hown1, hb1⟩; have bw1 := below_then bw0 hb1; have ow1 := ow0.below hb1; have hown1 := hown1.base_ bw0.size; obtain ⟨A1, c1, rfl, hc1, hr1, _⟩ := hown1.form)
        | (at_builtin; refine wpList_append_int _ rfl (.tmp 31) (.tmp 35) _ rfl wd wd.heap.size wd.heap.size 5 .u8 1 Try.underlying31 info_u8 _ _ rfl ow1 _ A1 _ c1 bg1 rfl rfl hr1 (by simp; omega) (by omega) bw1 (Nat.le_refl _) bw1.size ?_; intro v2 w2 ow2 bw2))
      clear y0 y3 y4 h0
      have k2 := kc.below bw2 hglc
      have hR2 := hRc.below bw2 hbwc.size
      have hgl2 := k2.lt
      have x4 := k2.cell 4
      have bl : Below w2.heap.size w2 (w2.alloc (.cells #[.int .u8 (body.length : Int)] 5)).drew := (below_alloc (Below.refl _ _) _).drew
      have rl : RdI (w2.alloc (.cells #[.int .u8 (body.length : Int)] 5)).drew (w2.heap.size + 1) .u8 (some ⟨w2.heap.size, 0, none⟩) [(body.length : Int)] := RdI.one w2 .u8 (body.length : Int) 5
      have hsl : (w2.alloc (.cells #[.int .u8 (body.length : Int)] 5)).drew.heap.size = w2.heap.size + 1 := by simp
      have hs2 := bw2.size
      have hsw := hbwc.size
      have xl := (k2.below bl hgl2).cell 4
      refine wp_region_held_drew (S := (fun w' => w'.cell? ⟨w.heap.size, 4, none⟩ = some (.slice A body.length c))) (by kernel_rfl) ?_ (fun hHeld => ?_)
      focus exact x4
      refine wpAnyH_take (i := 0) (v := ?_) rfl (by kernel_rfl) (by kernel_rfl) (by kernel_rfl) (fun _ _ _ h => h) (Or.inl ⟨by kernel_rfl, ?_⟩) (by assumption) ?_
      rotate_left
      focus
        intro w9 hSw
        (try dsimp only at hSw)
        go_simp
        (try with_reducible rfl)
      (try simp only [Act.put, List.getElem_toArray, List.getElem_cons_succ, List.getElem_cons_zero, List.setIfInBounds_toArray, List.set_cons_zero, List.set_cons_succ])
      refine wpAnyH_take (i := 1) (v := ?_) rfl (by kernel_rfl) (by kernel_rfl) (by kernel_rfl) (fun _ _ _ h => h) (Or.inl ⟨by kernel_rfl, ?_⟩) (by assumption) ?_
      rotate_left
      focus
        intro w9 hSw
        (try dsimp only at hSw)
        go_simp
        (try with_reducible rfl)
      (try simp only [Act.put, List.getElem_toArray, List.getElem_cons_succ, List.getElem_cons_zero, List.setIfInBounds_toArray, List.set_cons_zero, List.set_cons_succ])
      refine wpAnyH_take (i := 2) (v := ?_) rfl (by kernel_rfl) (by kernel_rfl) (by kernel_rfl) (fun _ _ _ h => h) (Or.inl ⟨by kernel_rfl, ?_⟩) (by assumption) ?_
      rotate_left
      focus
        intro w9 hSw
        (try dsimp only at hSw)
        go_simp
        (try with_reducible rfl)
      (try simp only [Act.put, List.getElem_toArray, List.getElem_cons_succ, List.getElem_cons_zero, List.setIfInBounds_toArray, List.set_cons_zero, List.set_cons_succ])
      refine wpAnyH_take (i := 3) (v := ?_) rfl (by kernel_rfl) (by kernel_rfl) (by kernel_rfl) (fun _ _ _ h => h) (Or.inl ⟨by kernel_rfl, ?_⟩) (by assumption) ?_
      rotate_left
      focus
        intro w9 hSw
        (try dsimp only at hSw)
        go_simp
        (try with_reducible rfl)
      (try simp only [Act.put, List.getElem_toArray, List.getElem_cons_succ, List.getElem_cons_zero, List.setIfInBounds_toArray, List.set_cons_zero, List.set_cons_succ])
      refine wpAnyH_take (i := 4) (v := ?_) rfl (by kernel_rfl) (by kernel_rfl) (by kernel_rfl) (fun _ _ _ h => h) (Or.inl ⟨by kernel_rfl, ?_⟩) (by assumption) ?_
      rotate_left
      focus
        intro w9 hSw
        (try dsimp only at hSw)
        go_simp
        (try with_reducible rfl)
      (try simp only [Act.put, List.getElem_toArray, List.getElem_cons_succ, List.getElem_cons_zero, List.setIfInBounds_toArray, List.set_cons_zero, List.set_cons_succ])
      refine wpAnyH_take (i := 7) (v := ?_) rfl (by kernel_rfl) (by kernel_rfl) (by kernel_rfl) (fun _ _ _ h => h) (Or.inl ⟨by kernel_rfl, ?_⟩) (by assumption) ?_
      rotate_left
      focus
        intro w9 hSw
        (try dsimp only at hSw)
        go_simp
        (try with_reducible rfl)
      (try simp only [Act.put, List.getElem_toArray, List.getElem_cons_succ, List.getElem_cons_zero, List.setIfInBounds_toArray, List.set_cons_zero, List.set_cons_succ])
      refine wpAnyH_take (i := 8) (v := ?_) rfl (by kernel_rfl) (by kernel_rfl) (by kernel_rfl) (fun _ _ _ h => h) (Or.inl ⟨by kernel_rfl, ?_⟩) (by assumption) ?_
      rotate_left
      focus
        intro w9 hSw
        (try dsimp only at hSw)
        go_simp
        (try with_reducible rfl)
      (try simp only [Act.put, List.getElem_toArray, List.getElem_cons_succ, List.getElem_cons_zero, List.setIfInBounds_toArray, List.set_cons_zero, List.set_cons_succ])
      refine wpAnyH_ready (rs := [5]) (by kernel_rfl) (by simp) (AllReadyH.cons rfl (fun K hK => ?_) AllReadyH.nil)
      go_simp
      refine hK.out _ _ ?_ (fun hHeld => ?_)
      focus exact xl
      clear hK K
      (try simp only [Act.put, List.getElem_toArray, List.getElem_cons_succ, List.getElem_cons_zero, List.setIfInBounds_toArray, List.set_cons_zero, List.set_cons_succ])
      have hglw : w.heap.size < wd.heap.size := hglc
      generalize hw3 : (w2.alloc (.cells #[.int .u8 (body.length : Int)] 5)).drew = w3 at *
      clear hw3
      have own3 := ow2.below bl
      refine wpAnyH_ready (rs := [6]) (by kernel_rfl) (by simp) (AllReadyH.cons rfl (fun K hK => ?_) AllReadyH.nil)
      refine step_append_int _ (by rfl) (.tmp 37) (.tmp 42) _ (by rfl) w3 wd.heap.size wd.heap.size 5 .u8 1 Try.underlying31 info_u8 _ ([75, 80, F] ++ bg1) (by rfl) (by exact own3) _ (some ⟨w2.heap.size, 0, none⟩) _ 1 [(body.length : Int)] (by rfl) (by rfl) (by exact rl) (by simp; omega) (by omega) (by exact Below.refl _ _) (Nat.le_refl _) (by omega) ?_
      intro v4 w4 ow4 bw4 hg4 _
      have xm := (bw4.cell (p := ⟨w.heap.size, 4, none⟩) hglw).trans xl
      have hR4 := (hR2.below bl (by omega)).below bw4 hsw
      have hs4 := bw4.size
      refine hK.out _ _ ?_ (fun hHeld => ?_)
      focus exact xm
      clear hK K
      (try simp only [Act.put, List.getElem_toArray, List.getElem_cons_succ, List.getElem_cons_zero, List.setIfInBounds_toArray, List.set_cons_zero, List.set_cons_succ])
      refine wpAnyH_ready (rs := [9]) (by kernel_rfl) (by simp) (AllReadyH.cons rfl (fun K hK => ?_) AllReadyH.nil)
      refine step_append_int _ (by rfl) (.tmp 43) (.tmp 45) _ (by rfl) w4 wd.heap.size wd.heap.size 5 .u8 1 Try.underlying31 info_u8 _ ([75, 80, F] ++ bg1 ++ [(body.length : Int)]) (by rfl) (by exact ow4) _ A _ c body (by rfl) (by rfl) (by exact hR4) (by simp; omega) (by omega) (by exact Below.refl _ _) (Nat.le_refl _) (by omega) ?_
      intro v5 w5 ow5 bw5 hg5 _
      rw [← HH.out] at ow5
      obtain ⟨A5, c5, rfl, hc5, hr5, _⟩ := ow5.form
      have xn := (bw5.cell (p := ⟨w.heap.size, 4, none⟩) hglw).trans xm
      refine hK.out _ _ ?_ (fun hHeld => ?_)
      focus exact xn
      clear hK K
      (try simp only [Act.put, List.getElem_toArray, List.getElem_cons_succ, List.getElem_cons_zero, List.setIfInBounds_toArray, List.set_cons_zero, List.set_cons_succ])
      refine wpAnyH_take (i := 10) (v := ?_) rfl (by kernel_rfl) (by kernel_rfl) (by kernel_rfl) (fun _ _ _ h => h) (Or.inl ⟨by kernel_rfl, ?_⟩) (by assumption) ?_
      rotate_left
      focus
        intro w9 hSw
        (try dsimp only at hSw)
        go_simp
        (try with_reducible rfl)
      (try simp only [Act.put, List.getElem_toArray, List.getElem_cons_succ, List.getElem_cons_zero, List.setIfInBounds_toArray, List.set_cons_zero, List.set_cons_succ])
      refine wpAnyH_done (by kernel_rfl) ?_ _
      (try simp only [Act.put, List.getElem_toArray, List.getElem_cons_succ, List.getElem_cons_zero, List.setIfInBounds_toArray, List.set_cons_zero, List.set_cons_succ])
      have bz5 : Below wd.heap.size wd w5 := (bw2.trans (bl.mono (by omega))).trans (bw4.trans bw5)
      clear x4
      go_wp2_with (first
        | (go_at_call 79; (with_reducible refine (HT.out _ _ _ _ hr5).mono ?_); rintro e w6 ⟨rfl, rfl⟩)
        | (go_at_call 78; (with_reducible refine (HB2.out _).mono ?_); rintro e w6 ⟨v6, rfl, hown6, hb6⟩; have bw6 := below_then bz5 hb6; have ow6 := ow5.below hb6; have hown6 := hown6.base_ bz5.size; obtain ⟨A6, c6, rfl, hc6, hr6, _⟩ := hown6.form)
        | (at_builtin; refine wpList_append_int _ rfl (.tmp 47) (.tmp 51) _ rfl wd wd.heap.size wd.heap.size 5 .u8 1 Try.underlying31 info_u8 _ _ rfl ow6 _ A6 _ c6 bg2 rfl rfl hr6 (by first | omega | (simp only [List.length_append, List.length_cons, List.length_nil]; omega) | (simp; omega)) (by omega) bw6 (Nat.le_refl _) bw6.size ?_; intro v7 w7 ow7 bw7))
      go_ret2
      rw [HBB.out]
      exact ⟨_, rfl, ow7.base_ hbwc.size, below_then hbwc bw7⟩
  · have hO : O = false := by rw [HO.out, decide_eq_false hs]; rfl
    subst hO
    have HE2 : E = 1 := by rw [HE.out, if_neg (by simp)]
    subst HE2
    have HBB := Lib.hid (HB.out.trans (if_neg (by omega)))
    clear HB HE HO HBy HH HHb HHl hr HMk
    by_cases h0 : seq < 0
    · clear hs
      go_enter Try.func58, Try.ntmps58
      go_wp2
      go_ret2
      rw [HBB.out]
      exact ⟨_, rfl, OwnI.nil_ _ _ _ _, below_alloc (Below.refl _ _) _⟩
    · have q1 : decide (seq < 0) = false := decide_eq_false h0
      have q2 : decide (2147483647 < seq) = true := by simp; omega
      clear hs h0
      go_enter Try.func58, Try.ntmps58
      go_wp2
      go_ret2
      rw [HBB.out]
      exact ⟨_, rfl, OwnI.nil_ _ _ _ _, below_alloc (Below.refl _ _) _⟩
end Go.Proofs.Ytdnkdjaokmibjaa
