/- weave.Weaver: Put. -/
import Derived.Test.YtnflhogjonlnmaaWvEar
import Derived.Test.YtnflhogjonlnmaaPkLay
import Derived.Test.YtnflhogjonlnmaaPicLast
import Derived.Deep.RegionHeld3
set_option linter.unusedSimpArgs false
set_option linter.unusedVariables false
namespace Go.Proofs.Ytnflhogjonlnmaa
open Go.RowKit

theorem wclone_any (p : Pk) (A : Option Addr) (c : Nat) (hl : p.data.length ≤ 1000000000) (w : World) (hr : RdI w w.heap.size .u8 A p.data) :
    Calls Try.prog 42 #[p.val A c] w fun e w' => ∃ A' c', e = .returned (p.val A' c') ∧ OwnI w' w.heap.size 5 .u8 (.slice A' p.data.length c') p.data ∧ p.data.length ≤ c' ∧ Below w.heap.size w w' := by
  obtain ⟨st, at_, ln, key, hid, data⟩ := p
  simp only at hl hr
  have HC := Lib.hid (fun W (hW : Below w.heap.size w W) => clone_any A c data (by omega) W w.heap.size (hr.below hW (Nat.le_refl _)) hW.size)
  clear hr
  go_enter Try.func42, Try.ntmps42
  go_upto_region 1 with fail
  have kb := (Blk.new w 40 #[.int .i64 st, .int .i64 at_, .int .i64 ln, .bool key, .bool hid, .slice A data.length c]).alloc (.cells #[.int .i64 0, .int .i64 0, .int .i64 0, .bool false, .bool false, .slice none 0 0] 40)
  have b1 := below_alloc (below_alloc (Below.refl w.heap.size w) (.cells #[.int .i64 st, .int .i64 at_, .int .i64 ln, .bool key, .bool hid, .slice A data.length c] 40)) (.cells #[.int .i64 0, .int .i64 0, .int .i64 0, .bool false, .bool false, .slice none 0 0] 40)
  have k2 := Blk.new (w.alloc (.cells #[.int .i64 st, .int .i64 at_, .int .i64 ln, .bool key, .bool hid, .slice A data.length c] 40)) 40 #[.int .i64 0, .int .i64 0, .int .i64 0, .bool false, .bool false, .slice none 0 0]
  rw [show (w.alloc (.cells #[.int .i64 st, .int .i64 at_, .int .i64 ln, .bool key, .bool hid, .slice A data.length c] 40)).heap.size = w.heap.size + 1 by simp] at k2
  generalize (w.alloc (.cells #[.int .i64 st, .int .i64 at_, .int .i64 ln, .bool key, .bool hid, .slice A data.length c] 40)).alloc (.cells #[.int .i64 0, .int .i64 0, .int .i64 0, .bool false, .bool false, .slice none 0 0] 40) = w1 at *
  have x5 := kb.cell 5
  have l1 := kb.lt
  have l2 := k2.lt
  go_upto_region 2 with (first
    | (go_at_call 55; (with_reducible refine (HC.out _ b1).mono ?_); rintro e w2 ⟨v2, rfl, ho2, hb2⟩; obtain ⟨A2, c2, rfl, hc2, _, _⟩ := ho2.form; have kb2 := kb.below hb2 l1; have f5 := kb2.frozen 5; have y5 := kb2.cell 5))
  have k22 := k2.below hb2 l2
  have kb3 := kb2.set_ 5 (.slice A2 data.length c2)
  have k23 := k22.far (p := ⟨w.heap.size, 5, none⟩) (by simp) (.slice A2 data.length c2)
  have b3 := below_put (off := 5) (u := .slice A2 data.length c2) (below_then b1 hb2) (Nat.le_refl _)
  have ho3 := own_put (off := 5) (u := .slice A2 data.length c2) ho2 l1
  generalize w2.setCell ⟨w.heap.size, 5, none⟩ (.slice A2 data.length c2) = w3 at *
  clear x5 y5 f5
  have x0 := kb3.cell 0
  have x1 := kb3.cell 1
  have x2 := kb3.cell 2
  have x3 := kb3.cell 3
  have x4 := kb3.cell 4
  have x5 := kb3.cell 5
  have f0 := k23.frozen 0
  have f1 := k23.frozen 1
  have f2 := k23.frozen 2
  have f3 := k23.frozen 3
  have f4 := k23.frozen 4
  have f5 := k23.frozen 5
  have y0 := k23.cell 0
  have y1 := k23.cell 1
  have y2 := k23.cell 2
  have y3 := k23.cell 3
  have y4 := k23.cell 4
  have y5 := k23.cell 5
  go_wp2
  have hle : w.heap.size ≤ w.heap.size + 1 := by omega
  have ho4 := own_put (off := 5) (u := .slice A2 data.length c2) (own_put (off := 4) (u := .bool hid) (own_put (off := 3) (u := .bool key) (own_put (off := 2) (u := .int .i64 ln) (own_put (off := 1) (u := .int .i64 at_) (own_put (off := 0) (u := .int .i64 st) ho3 l2) l2) l2) l2) l2) l2
  exact bodyPost_ret (v := Pk.val ⟨st, at_, ln, key, hid, data⟩ A2 c2) (by simp [results, Try.results42, go_sem, y0, y1, y2, y3, y4, y5]) rfl ⟨A2, c2, rfl, ho4.base_ b1.size, hc2, below_put (below_put (below_put (below_put (below_put (below_put b3 hle) hle) hle) hle) hle) hle⟩

/-- What Put leaves. -/
def WPutPost (w : World) (F D : Nat → Prop) (g : Nat) (s : Wv) (p : Pk) (e : Ending) (w' : World) : Prop :=
  ∃ F' D' : Nat → Prop, e = .returned (.int .i64 (s.putE p)) ∧ WvR w' F' D' g (s.put p) ∧ (∀ b, F b → F' b) ∧ (∀ b, F' b → F b ∨ w.heap.size ≤ b) ∧ (∀ b, D b → D' b) ∧ (∀ b, D' b → D b ∨ w.heap.size ≤ b) ∧ Mod F w w'
theorem wput_no {w w' : World} {F D : Nat → Prop} {g : Nat} {s : Wv} {p : Pk} {e : Ending} {E : Int} (hE : s.putE p = E) (h0 : E ≠ 0) (he : e = .returned (.int .i64 E)) (h : WvR w F D g s) (hb : Below w.heap.size w w') : WPutPost w F D g s p e w' :=
  ⟨F, D, by rw [hE]; exact he, by rw [Wv.put, if_neg (by rw [hE]; exact h0)]; exact h.below hb, fun _ h => h, fun _ h => .inl h, fun _ h => h, fun _ h => .inl h, Mod.of_fresh hb⟩

set_option maxHeartbeats 8000000 in
set_option maxRecDepth 100000 in
theorem wput_any {w : World} {F D : Nat → Prop} {g : Nat} {s : Wv} (h : WvR w F D g s) (p : Pk) (A : Option Addr) (c : Nat) (hw : p.wf) (hr : RdI w w.heap.size .u8 A p.data) :
    Calls Try.prog 18 #[.pointer (some ⟨g, 0, none⟩), p.val A c] w (WPutPost w F D g s p) := by
  have HNo := Lib.hid (fun (w' : World) (e : Ending) (E : Int) hE h0 he hb => wput_no (w' := w') (e := e) (E := E) (p := p) hE h0 he h hb)
  have HL := Lib.hid (fun W (hW : Below w.heap.size w W) => lay_any p A c hw W (RdI.more (RdI.below hr hW (Nat.le_refl _)) hW.size))
  have HCl := Lib.hid (fun W (hl : p.data.length ≤ 1000000000) (hW : Below w.heap.size w W) => wclone_any p A c hl W (RdI.more (RdI.below hr hW (Nat.le_refl _)) hW.size))
  have HH := Lib.hid h
  obtain ⟨gq, vs, hb, hq, hok⟩ := h
  have n1 := hok.n1
  have HK := Lib.hid (fun W (hW : Below w.heap.size w W) => hb.below hW hb.lt)
  have HQ := Lib.hid (fun W (hW : Below w.heap.size w W) => hq.below hW)
  have HE := Lib.hid (show s.putE p = if layE p ≠ 0 then 1 else if (s.qs.length : Int) ≤ p.st then 1 else if (quAt s.qs p.st.toNat).ended = true then 11 else if p.at_ < (quAt s.qs p.st.toNat).last then 12 else if 256 ≤ (quAt s.qs p.st.toNat).wait.length then 9 else 0 from rfl)
  have HWf := Lib.hid hw
  have HOk := Lib.hid hok
  clear hb hq hok hr hw
  by_cases hl : layE p = 0
  · have ht := lay_time hl
    have hdl := ht.2.2.2.2
    rw [hl] at HL
    have HE2 := Lib.hid (HE.out.trans (if_neg (by rw [hl]; simp)))
    obtain ⟨m, hm⟩ := Int.eq_ofNat_of_zero_le ht.1
    by_cases hn : (s.qs.length : Int) ≤ p.st
    · have HE3 := Lib.hid (HE2.out.trans (if_pos hn))
      clear HE HE2 hl
      obtain ⟨st, at_, ln, key, hid, data⟩ := p
      simp only at hn hm ht hdl
      subst hm
      have hn' : (s.qs.length : Int) ≤ (m : Int) := hn
      go_enter Try.func18, Try.ntmps18
      go_upto_region 2 with (first
        | (go_at_call 41; (with_reducible refine (HL.out _ (below_alloc (Below.refl _ _) _)).mono ?_); rintro e w1 ⟨v1, rfl, _, hb1⟩))
      have bb1 := below_then (below_alloc (Below.refl w.heap.size w) (.cells #[.int .i64 (m : Int), .int .i64 at_, .int .i64 ln, .bool key, .bool hid, .slice A data.length c] 40)) hb1
      have kp := (Blk.new w 40 #[.int .i64 (m : Int), .int .i64 at_, .int .i64 ln, .bool key, .bool hid, .slice A data.length c]).below hb1 (by simp)
      have x0 := kp.cell 0
      have c1 := (HK.out _ bb1).cell 1
      go_quiet (fail)
      go_wp2
      go_ret
      exact HNo.out _ _ 1 HE3.out (by omega) rfl (below_drewN bb1 _)
    · have hml : m < s.qs.length := by omega
      have HE3 := HE2.out.trans (if_neg hn)
      rw [hm, Int.toNat_natCast, quAt_get hml] at HE3
      have HPt := Lib.hid (show s.putE p = 0 → s.put p = ⟨s.most, s.qs.set m ⟨s.qs[m].wait ++ [p], p.at_, s.qs[m].ended⟩, s.top, s.late⟩ from fun h => by
        rw [Wv.put, if_pos h, hm, Int.toNat_natCast, quAt_get hml])
      have HPok := Lib.hid (put_ok_ (p := p) HOk.out)
      have hqo := HOk.out.qAt hml
      have hq1 := hqo.len
      have hq2 := hqo.l0
      have hq3 := hqo.l1
      have HE4 := Lib.hid HE3
      clear HE HE2 hl HE3 hqo
      obtain ⟨st, at_, ln, key, hid, data⟩ := p
      simp only at hn hm ht hdl
      subst hm
      have hn' : decide ((s.qs.length : Int) ≤ (m : Int)) = false := decide_eq_false hn
      clear hn
      go_enter Try.func18, Try.ntmps18
      go_upto_region 2 with (first
        | (go_at_call 41; (with_reducible refine (HL.out _ (below_alloc (Below.refl _ _) _)).mono ?_); rintro e w1 ⟨v1, rfl, _, hb1⟩))
      have bb1 := below_then (below_alloc (Below.refl w.heap.size w) (.cells #[.int .i64 (m : Int), .int .i64 at_, .int .i64 ln, .bool key, .bool hid, .slice A data.length c] 40)) hb1
      have kp := (Blk.new w 40 #[.int .i64 (m : Int), .int .i64 at_, .int .i64 ln, .bool key, .bool hid, .slice A data.length c]).below hb1 (by simp)
      have x0 := kp.cell 0
      have c1 := (HK.out _ bb1).cell 1
      go_quiet (fail)
      have bb2 := below_drewN bb1 nq
      have kp2 := kp.drewN nq
      clear x0 c1
      generalize w1.drewN nq = w2 at *
      have x0 := kp2.cell 0
      have c1 := (HK.out _ bb2).cell 1
      go_upto_region 4 with fail
      go_quiet (fail)
      have bb3 := below_drewN bb2 nq
      have kp3 := kp2.drewN nq
      clear x0 c1
      generalize w2.drewN nq = w3 at *
      obtain ⟨Aq, cq, hvq, hcq, _, e0, e1, e2, f0, f1, f2⟩ := (HQ.out _ bb3).q_at hml
      have x1 := kp3.cell 1
      by_cases hen : s.qs[m].ended = true
      · have HE5 := Lib.hid (HE4.out.trans (if_pos hen))
        rw [hen] at e2
        clear hen
        go_wp2
        go_ret
        exact HNo.out _ _ 11 HE5.out (by omega) rfl bb3
      · have HE5 := Lib.hid (HE4.out.trans (if_neg hen))
        have hen' : s.qs[m].ended = false := by simpa using hen
        rw [hen'] at e2
        have HEn := Lib.hid hen'
        clear hen hen'
        go_upto_region 7 with fail
        by_cases hal : at_ < s.qs[m].last
        · have HE6 := Lib.hid (HE5.out.trans (if_pos hal))
          generalize s.qs[m].last = la at *
          go_quiet (fail)
          go_wp2
          go_ret
          exact HNo.out _ _ 12 HE6.out (by omega) rfl (below_drewN bb3 _)
        · have HE6 := Lib.hid (HE5.out.trans (if_neg hal))
          have hal' : decide (at_ < s.qs[m].last) = false := decide_eq_false hal
          go_quiet (fail)
          have bb4 := below_drewN bb3 nq
          have kp4 := kp3.drewN nq
          clear x1 e0 e1 e2 f0 f1 f2
          generalize w3.drewN nq = w4 at *
          obtain ⟨Aq, cq, hvq, hcq, _, e0, e1, e2, f0, f1, f2⟩ := (HQ.out _ bb4).q_at hml
          by_cases h256 : 256 ≤ s.qs[m].wait.length
          · have HE7 := Lib.hid (HE6.out.trans (if_pos h256))
            have h256' : (256 : Int) ≤ (s.qs[m].wait.length : Int) := by omega
            go_wp2
            go_ret
            exact HNo.out _ _ 9 HE7.out (by omega) rfl bb4
          · have HE7 := Lib.hid (HE6.out.trans (if_neg h256))
            have h256' : decide ((256 : Int) ≤ (s.qs[m].wait.length : Int)) = false := decide_eq_false (by omega)
            go_upto_region 11 with fail
            have hq4 := HQ.out _ bb4
            have hgql := hq4.Flt _ hq4.gF.1
            have hpk := kp4.lt
            have hwl4 := bb4.size
            have hFw := HH.out.Flt
            have hownF : ∀ b, (vAt vs m).ownBlock = some b → F b ∧ b ≠ gq ∧ b ≠ g := hq4.inF m hml
            have ownq := hq4.own m hml
            rw [hvq] at ownq hownF
            have HQ4 := Lib.hid hq4
            have x0 := kp4.cell 0
            have x1 := kp4.cell 1
            have x2 := kp4.cell 2
            have x3 := kp4.cell 3
            have x4 := kp4.cell 4
            have x5 := kp4.cell 5
            have HVq := Lib.hid hvq
            have HF0 := Lib.hid f0
            clear hq4 hvq e1 e2 f0 f1 f2 h256
            generalize s.qs[m].wait = wt at *
            refine wp_region_last (S := (fun w' => w'.cell? ⟨gq, m * 3, none⟩ = some (.slice Aq wt.length cq) ∧ w'.cell? ⟨w.heap.size, 0, none⟩ = some (.int .i64 (m : Int)) ∧ w'.cell? ⟨w.heap.size, 1, none⟩ = some (.int .i64 at_) ∧ w'.cell? ⟨w.heap.size, 2, none⟩ = some (.int .i64 ln) ∧ w'.cell? ⟨w.heap.size, 3, none⟩ = some (.bool key) ∧ w'.cell? ⟨w.heap.size, 4, none⟩ = some (.bool hid) ∧ w'.cell? ⟨w.heap.size, 5, none⟩ = some (.slice A data.length c))) 11 _ (by simp only [List.pop_toArray, List.dropLast_cons_cons, List.dropLast_singleton]; rfl) (by kernel_rfl) (by kernel_rfl) (by kernel_rfl) (by kernel_rfl) (by kernel_rfl) ?_ (fun hHeld => ?_)
            focus exact ⟨e0, x0, x1, x2, x3, x4, x5⟩
            refine wpAnyH_take (i := 0) (v := ?_) rfl (by kernel_rfl) (by kernel_rfl) (by kernel_rfl) (fun _ _ _ h => h) (Or.inl ⟨by kernel_rfl, ?_⟩) (by assumption) ?_
            rotate_left
            focus
              intro w9 hSw
              (try dsimp only at hSw)
              go_simp
              (try with_reducible rfl)
            (try simp only [Act.put, List.getElem_toArray, List.getElem_cons_succ, List.getElem_cons_zero, List.setIfInBounds_toArray, List.set_cons_zero, List.set_cons_succ])
            refine wpAnyH_take (i := 1) (v := ?_) rfl (by kernel_rfl) (by kernel_rfl) (by kernel_rfl) (fun _ _ _ h => h) (Or.inl ⟨by kernel_rfl, ?_⟩) (by assumption) ?_
            rotate_left
            focus
              intro w9 hSw
              (try dsimp only at hSw)
              go_simp
              (try with_reducible rfl)
            (try simp only [Act.put, List.getElem_toArray, List.getElem_cons_succ, List.getElem_cons_zero, List.setIfInBounds_toArray, List.set_cons_zero, List.set_cons_succ])
            refine wpAnyH_take (i := 2) (v := ?_) rfl (by kernel_rfl) (by kernel_rfl) (by kernel_rfl) (fun _ _ _ h => h) (Or.inl ⟨by kernel_rfl, ?_⟩) (by assumption) ?_
            rotate_left
            focus
              intro w9 hSw
              (try dsimp only at hSw)
              go_simp
              (try with_reducible rfl)
            (try simp only [Act.put, List.getElem_toArray, List.getElem_cons_succ, List.getElem_cons_zero, List.setIfInBounds_toArray, List.set_cons_zero, List.set_cons_succ])
            refine wpAnyH_take (i := 3) (v := ?_) rfl (by kernel_rfl) (by kernel_rfl) (by kernel_rfl) (fun _ _ _ h => h) (Or.inl ⟨by kernel_rfl, ?_⟩) (by assumption) ?_
            rotate_left
            focus
              intro w9 hSw
              (try dsimp only at hSw)
              go_simp
              (try with_reducible rfl)
            (try simp only [Act.put, List.getElem_toArray, List.getElem_cons_succ, List.getElem_cons_zero, List.setIfInBounds_toArray, List.set_cons_zero, List.set_cons_succ])
            refine wpAnyH_take (i := 4) (v := ?_) rfl (by kernel_rfl) (by kernel_rfl) (by kernel_rfl) (fun _ _ _ h => h) (Or.inl ⟨by kernel_rfl, ?_⟩) (by assumption) ?_
            rotate_left
            focus
              intro w9 hSw
              (try dsimp only at hSw)
              go_simp
              (try with_reducible rfl)
            (try simp only [Act.put, List.getElem_toArray, List.getElem_cons_succ, List.getElem_cons_zero, List.setIfInBounds_toArray, List.set_cons_zero, List.set_cons_succ])
            refine wpAnyH_take (i := 5) (v := ?_) rfl (by kernel_rfl) (by kernel_rfl) (by kernel_rfl) (fun _ _ _ h => h) (Or.inl ⟨by kernel_rfl, ?_⟩) (by assumption) ?_
            rotate_left
            focus
              intro w9 hSw
              (try dsimp only at hSw)
              go_simp
              (try with_reducible rfl)
            (try simp only [Act.put, List.getElem_toArray, List.getElem_cons_succ, List.getElem_cons_zero, List.setIfInBounds_toArray, List.set_cons_zero, List.set_cons_succ])
            refine wpAnyH_ready (rs := [6]) (by kernel_rfl) (by simp) (AllReadyH.cons rfl (fun K hK => ?_) AllReadyH.nil)
            go_simp
            go_at_call 42
            refine (HCl.out _ (by omega) (bb4.drew)).mono ?_
            rintro e w5 ⟨A5, c5, rfl, ho5, hc5, hb5⟩
            have b45 := below_then (Below.refl w4.heap.size w4).drew hb5
            have kp5 := kp4.below b45 hpk
            have e05 := (b45.cell (p := ⟨gq, m * 3, none⟩) hgql).trans e0
            have hs45 := b45.size
            obtain ⟨_, _, hrd5⟩ := ho5.rds
            (try dsimp only at hrd5 hc5)
            refine hK.out _ _ ?_ (fun hHeld => ?_)
            focus exact ⟨e05, kp5.cell 0, kp5.cell 1, kp5.cell 2, kp5.cell 3, kp5.cell 4, kp5.cell 5⟩
            clear hK K
            (try simp only [Act.put, List.getElem_toArray, List.getElem_cons_succ, List.getElem_cons_zero, List.setIfInBounds_toArray, List.set_cons_zero, List.set_cons_succ])
            refine wpAnyH_ready (rs := [7]) (by kernel_rfl) (by simp) (AllReadyH.cons rfl (fun K hK => ?_) AllReadyH.nil)
            go_simp
            have bl5 : Below w5.heap.size w5 (w5.alloc (.cells #[.int .i64 (m : Int), .int .i64 at_, .int .i64 ln, .bool key, .bool hid, .slice A5 data.length c5] 40)) := below_alloc (Below.refl _ _) _
            have kl := kp5.below bl5 kp5.lt
            refine hK.out _ _ ?_ (fun hHeld => ?_)
            focus exact ⟨(bl5.cell (p := ⟨gq, m * 3, none⟩) (show gq < w5.heap.size by omega)).trans e05, kl.cell 0, kl.cell 1, kl.cell 2, kl.cell 3, kl.cell 4, kl.cell 5⟩
            clear hK K
            (try simp only [Act.put, List.getElem_toArray, List.getElem_cons_succ, List.getElem_cons_zero, List.setIfInBounds_toArray, List.set_cons_zero, List.set_cons_succ])
            have own5 := ownq.keep PkR.good (M := fun _ => False) (Mod.of_fresh b45) (fun _ _ _ h => h) (fun _ _ h => h)
            have hDl := HH.out.Dlt
            obtain ⟨l6, hl6⟩ : ∃ l6 : List Pk, l6 = wt ++ [⟨(m : Int), at_, ln, key, hid, data⟩] := ⟨_, rfl⟩
            have HL6 := Lib.hid hl6
            clear hl6
            refine wpAnyH_ready (rs := [8]) (by kernel_rfl) (by simp) (AllReadyH.cons rfl (fun K hK => ?_) AllReadyH.nil)
            refine step_push_G (by rfl) (.tmp 53) (.tmp 56) _ (by rfl) PkR.good w5 (.agg #[.int .i64 0, .int .i64 0, .int .i64 0, .bool false, .bool false, .slice none 0 0]) 56 Try.underlying49 info_pk (by rfl) (by omega) (by rfl) own5 (fun b => w4.heap.size ≤ b ∧ b < w5.heap.size) _ 1 [.int .i64 (m : Int), .int .i64 at_, .int .i64 ln, .bool key, .bool hid, .slice A5 data.length c5] ⟨(m : Int), at_, ln, key, hid, data⟩ (by rfl) (by rfl) ⟨A5, c5, rfl, hc5, hrd5.weak (fun b hb _ => ⟨hb.1, hb.2.1⟩), HWf.out⟩ (fun b => D b ∨ (w4.heap.size ≤ b ∧ b ≤ w5.heap.size)) (fun b hb _ => .inl hb) (fun b hb _ => .inr ⟨by have := hb.1; omega, by have := hb.2; omega⟩) (fun b hb hS => by have := hFw b (hownF b hb).1; have := hS.1; omega) (fun b hb => by rcases hb with hb | hb; have := (hDl b hb).1; omega; exact hb.2) (.inr ⟨by omega, Nat.le_refl _⟩) (by omega) (Nat.zero_le _) ?_
            intro v6 w6 ow6 hg6 hv6
            rw [← HL6.out] at ow6
            obtain ⟨A6, c6, rfl, hc6, _, _⟩ := ow6.form PkR.good
            have hM46 : Mod (fun b => (Value.slice Aq wt.length cq).ownBlock = some b) w4 w6 := (Mod.of_fresh (below_then b45 bl5)).then_ (Mod.of_grown hg6 (fun x e _ => e))
            have hng : ¬ (Value.slice Aq wt.length cq).ownBlock = some gq := fun e => (hownF gq e).2.1 rfl
            have hnw : ¬ (Value.slice Aq wt.length cq).ownBlock = some w.heap.size := fun e => by have := hFw _ (hownF _ e).1; omega
            have e06 := hM46.cell e0 hng
            have kp6 := kp4.mod hM46 hnw
            have xf : w6.frozen? ⟨gq, m * 3, none⟩ = false := (hM46.frozen (a := ⟨gq, m * 3, none⟩) hgql hng).trans HF0.out
            refine hK.out _ _ ?_ (fun hHeld => ?_)
            focus exact ⟨e06, kp6.cell 0, kp6.cell 1, kp6.cell 2, kp6.cell 3, kp6.cell 4, kp6.cell 5⟩
            clear hK K
            (try simp only [Act.put, List.getElem_toArray, List.getElem_cons_succ, List.getElem_cons_zero, List.setIfInBounds_toArray, List.set_cons_zero, List.set_cons_succ])
            refine wpAnyH_take (i := 9) (v := ?_) rfl (by kernel_rfl) (by kernel_rfl) (by kernel_rfl) (fun _ _ _ h => h) (Or.inl ⟨by kernel_rfl, ?_⟩) (by assumption) ?_
            rotate_left
            focus
              intro w9 hSw
              (try dsimp only at hSw)
              go_simp
              (try with_reducible rfl)
            (try simp only [Act.put, List.getElem_toArray, List.getElem_cons_succ, List.getElem_cons_zero, List.setIfInBounds_toArray, List.set_cons_zero, List.set_cons_succ])
            refine wpAnyH_take (i := 10) (v := ?_) rfl (by kernel_rfl) (by kernel_rfl) (by kernel_rfl) (fun _ _ _ h => h) (Or.inl ⟨by kernel_rfl, ?_⟩) (by assumption) ?_
            rotate_left
            focus
              intro w9 hSw
              (try dsimp only at hSw)
              go_simp
              (try with_reducible rfl)
            (try simp only [Act.put, List.getElem_toArray, List.getElem_cons_succ, List.getElem_cons_zero, List.setIfInBounds_toArray, List.set_cons_zero, List.set_cons_succ])
            refine wpAnyH_done (by kernel_rfl) (lastQ_step rfl (fun K hK => ?_)) _
            go_simp
            refine hK _ _ ?_
            clear hK K
            have hq4 := HQ4.out
            have hM46' : Mod (fun b => (vAt vs m).ownBlock = some b) w4 w6 := by rw [HVq.out]; exact hM46
            have hq7 := hq4.put0 hml hM46' ow6 (fun b hb => by
              rw [HVq.out]
              rcases hv6 with h9 | h9
              · exact .inl (h9 ▸ hb)
              · rw [h9] at hb; injection hb with hb; right; omega) (fun b hb => .inl hb) (fun b hb => by
              rcases hb with hb | hb
              · exact .inl hb
              · right
                refine ⟨hb.1, by have := hg6.size; simp at this; omega, fun e => ?_⟩
                rcases hv6 with h9 | h9
                · rw [h9] at e; have := hFw b (hownF b e).1; omega
                · rw [h9] at e; injection e with e; omega)
            have kg7 := (HK.out _ bb4).mod hM46 (fun e => (hownF g e).2.2 rfl)
            have kg7' := kg7.far (p := ⟨gq, m * 3, none⟩) (fun e => hq4.gF.2.2 e.symm) (.slice A6 l6.length c6)
            have kp7 := kp6.far (p := ⟨gq, m * 3, none⟩) (fun e => by have := hFw gq hq4.gF.1; simp only at e; omega) (.slice A6 l6.length c6)
            have hF4 := hq4.gF
            have hm7 : Mod F w (w6.setCell ⟨gq, m * 3, none⟩ (.slice A6 l6.length c6)) := mod_put (((Mod.of_fresh bb4).then_ (hM46.mono (fun b hb _ => (hownF b hb).1)))) (fun _ => hF4.1)
            generalize w6.setCell ⟨gq, m * 3, none⟩ (.slice A6 l6.length c6) = w7 at *
            have HV6 := Lib.hid hv6
            clear e0 e05 e06 x0 x1 x2 x3 x4 x5 kl kp5 kp6 xf hM46 hM46' own5 ownq ow6 bl5 hg6 hv6
            have hml7 : m < (s.qs.set m ⟨l6, s.qs[m].last, s.qs[m].ended⟩).length := by rw [List.length_set]; exact hml
            obtain ⟨_, _, _, _, _, _, e1, _, _, f1, _⟩ := hq7.q_at hml7
            have hq8 := hq7.put1 hml7 at_
            simp only [List.set_set, List.getElem_set_self] at hq8
            have x1 := kp7.cell 1
            have kg8 := kg7'.far (p := ⟨gq, m * 3 + 1, none⟩) (fun e => hF4.2.2 e.symm) (.int .i64 at_)
            have hm8 : Mod F w (w7.setCell ⟨gq, m * 3 + 1, none⟩ (.int .i64 at_)) := mod_put hm7 (fun _ => hF4.1)
            go_wp2
            go_ret
            have hE0 := HE7.out
            refine ⟨fun b => F b ∨ (Value.slice A6 l6.length c6).ownBlock = some b, fun b => D b ∨ (w4.heap.size ≤ b ∧ b ≤ w5.heap.size), by rw [hE0]; rfl, ⟨gq, vs.set m (.slice A6 l6.length c6), ?_, ?_, HPok.out⟩, fun b hb => .inl hb, ?_, fun b hb => .inl hb, ?_, hm8⟩
            · rw [HPt.out hE0]; simpa [List.length_set] using kg8
            · rw [HPt.out hE0, ← HL6.out]; exact hq8
            · intro b hb
              rcases hb with hb | hb
              · exact .inl hb
              · rcases HV6.out with h9 | h9
                · rw [h9] at hb; exact .inl (hownF b hb).1
                · rw [h9] at hb; injection hb with hb; right; omega
            · intro b hb
              rcases hb with hb | hb
              · exact .inl hb
              · right; have := hb.1; omega
  · have HE2 := Lib.hid (HE.out.trans (if_pos hl))
    generalize layE p = E at *
    obtain ⟨st, at_, ln, key, hid, data⟩ := p
    have hE' : (E != 0) = true := by rw [bne_iff_ne]; exact hl
    clear hl
    go_enter Try.func18, Try.ntmps18
    go_upto_region 2 with (first
      | (go_at_call 41; (with_reducible refine (HL.out _ (below_alloc (Below.refl _ _) _)).mono ?_); rintro e w1 ⟨v1, rfl, _, hb1⟩))
    have bb1 := below_then (below_alloc (Below.refl w.heap.size w) (.cells #[.int .i64 st, .int .i64 at_, .int .i64 ln, .bool key, .bool hid, .slice A data.length c] 40)) hb1
    have kp := (Blk.new w 40 #[.int .i64 st, .int .i64 at_, .int .i64 ln, .bool key, .bool hid, .slice A data.length c]).below hb1 (by simp)
    have x0 := kp.cell 0
    have c1 := (HK.out _ bb1).cell 1
    go_quiet (fail)
    go_wp2
    go_ret
    exact HNo.out _ _ 1 HE2.out (by omega) rfl (below_drewN bb1 _)
end Go.Proofs.Ytnflhogjonlnmaa
