/- The reference's Weaver: Put. -/
import Derived.Test.YtnflhogjonlnmaaRWvTk
import Derived.Test.YtnflhogjonlnmaaPkRLay
import Derived.Test.YtnflhogjonlnmaaPicLast
import Derived.Deep.RegionHeld3
import Derived.WalkSpells
set_option linter.unusedSimpArgs false
set_option linter.unusedVariables false
namespace Go.Proofs.Ytnflhogjonlnmaa
open Go.RowKit

section
variable {w w1 : World} {TQ TP : TypeId} {M F F' D D' : Nat → Prop} {ex gq : Nat} {vs : List Value} {qs : List Qu}
/-- Queue i's slice written anew: what lay in its own block may have turned on the way. -/
theorem QsM.putN (h : QsM w TQ TP F D ex gq vs qs) {i : Nat} (hi : i < qs.length) (hm : Mod (fun b => (vAt vs i).ownBlock = some b) w w1) {v : Value} {l : List Pk} (ho : OwnG PkR 6 TP w1 0 D' v l)
    (hv : ∀ b, v.ownBlock = some b → (vAt vs i).ownBlock = some b ∨ w.heap.size ≤ b) (hDD : ∀ b, D b → D' b) (hD' : ∀ b, D' b → D b ∨ (¬ F b ∧ b < w1.heap.size ∧ v.ownBlock ≠ some b)) :
    QsM (w1.setCell ⟨gq, i * 3, none⟩ v) TQ TP (fun b => F b ∨ v.ownBlock = some b) D' ex gq (vs.set i v) (qs.set i ⟨l, qs[i].last, qs[i].ended⟩) := by
  have hsz := hm.size
  have hil : i < vs.length := by rw [h.len]; exact hi
  have hgl := h.Flt _ h.gF.1
  have hel := h.Flt _ h.gF.2.1
  have hvl := ho.own_ge
  have hvx : ∀ b, v.ownBlock = some b → b ≠ gq ∧ b ≠ ex := fun b hb => by
    rcases hv b hb with h1 | h1
    · exact (h.inF i hi b h1).2
    · exact ⟨by omega, by omega⟩
  have hDg : ∀ b, D' b → b ≠ gq ∧ b ≠ ex ∧ b < w1.heap.size ∧ ¬ F b := fun b hb => by
    rcases hD' b hb with h1 | h1
    · have h2 := h.Dlt b h1
      exact ⟨fun e => h2.2 (by rw [e]; exact h.gF.1), fun e => h2.2 (by rw [e]; exact h.gF.2.1), by omega, h2.2⟩
    · exact ⟨fun e => h1.1 (by rw [e]; exact h.gF.1), fun e => h1.1 (by rw [e]; exact h.gF.2.1), h1.2.1, h1.1⟩
  have hmg : Mod (· = gq) w1 (w1.setCell ⟨gq, i * 3, none⟩ v) := mod_put (Mod.refl _ _) (fun _ => rfl)
  refine ⟨by rw [List.length_set, List.length_set]; exact h.len, ?_, ?_, ?_, ?_, ⟨.inl h.gF.1, .inl h.gF.2.1, h.gF.2.2⟩, ?_, ?_⟩
  · have hb1 := h.blk.mod hm (fun e => (h.inF i hi _ e).2.1 rfl)
    have := hb1.set_ (i * 3) v
    rwa [List.setIfInBounds_toArray, qCells_set0 v l h.len hi] at this
  · intro j hj
    rw [List.length_set] at hj
    rw [vAt_set hil, List.getElem_set]
    by_cases hij : i = j
    · subst hij
      rw [if_pos rfl, if_pos rfl]
      exact ho.keep PkR.good hmg (fun b hb _ he => (hDg b hb).1 he) (fun b hb he => (hvx b hb).1 he)
    · rw [if_neg hij, if_neg hij]
      have h1 := ((h.own j hj).keep PkR.good hm (fun b hb _ he => (h.Dlt b hb).2 (h.inF i hi b he).1) (fun b hb he => h.dis i j hi hj hij b he hb)).weak PkR.good (D' := D') (fun b hb _ => hDD b hb)
      exact h1.keep PkR.good hmg (fun b hb _ he => (hDg b hb).1 he) (fun b hb he => (h.inF j hj b hb).2.1 he)
  · intro j hj b hb
    rw [List.length_set] at hj
    rw [vAt_set hil] at hb
    split at hb
    · exact ⟨.inr hb, hvx b hb⟩
    · have := h.inF j hj b hb
      exact ⟨.inl this.1, this.2⟩
  · intro j k hj hk hjk b hb hb2
    rw [List.length_set] at hj hk
    rw [vAt_set hil] at hb hb2
    split at hb
    · rename_i hij
      subst hij
      rw [if_neg hjk] at hb2
      rcases hv b hb with h1 | h1
      · exact h.dis i k hi hk hjk b h1 hb2
      · have := h.Flt b (h.inF k hk b hb2).1; omega
    · split at hb2
      · rename_i hik
        subst hik
        rcases hv b hb2 with h1 | h1
        · exact h.dis j i hj hi hjk b hb h1
        · have := h.Flt b (h.inF j hj b hb).1; omega
      · exact h.dis j k hj hk hjk b hb hb2
  · intro b hb
    have : b < w1.heap.size := by
      rcases hb with hb | hb
      · have := h.Flt b hb; omega
      · exact (hvl b hb).2
    simpa [World.setCell] using this
  · intro b hb
    refine ⟨by simpa [World.setCell] using (hDg b hb).2.2.1, fun hf => ?_⟩
    rcases hf with hf | hf
    · exact (hDg b hb).2.2.2 hf
    · rcases hD' b hb with h1 | h1
      · rcases hv b hf with h2 | h2
        · exact (h.Dlt b h1).2 (h.inF i hi b h2).1
        · have := (h.Dlt b h1).1; omega
      · exact h1.2.2 hf
end

/-- What Put leaves. -/
def RPutPost (w : World) (F D : Nat → Prop) (g : Nat) (s : Wv) (p : Pk) (e : Ending) (w' : World) : Prop :=
  ∃ F' D' : Nat → Prop, e = .returned (.int .i64 (s.putE p)) ∧ RWvR w' F' D' g (s.put p) ∧ (∀ b, F b → F' b) ∧ (∀ b, F' b → F b ∨ w.heap.size ≤ b) ∧ (∀ b, D b → D' b) ∧ (∀ b, D' b → D b ∨ w.heap.size ≤ b) ∧ Mod F w w'
theorem rwput_no {w w' : World} {F D : Nat → Prop} {g : Nat} {s : Wv} {p : Pk} {e : Ending} {E : Int} (hE : s.putE p = E) (h0 : E ≠ 0) (he : e = .returned (.int .i64 E)) (h : RWvR w F D g s) (hb : Below w.heap.size w w') : RPutPost w F D g s p e w' :=
  ⟨F, D, by rw [hE]; exact he, by rw [Wv.put, if_neg (by rw [hE]; exact h0)]; exact h.below hb, fun _ h => h, fun _ h => .inl h, fun _ h => h, fun _ h => .inl h, Mod.of_fresh hb⟩

set_option maxHeartbeats 8000000 in
set_option maxRecDepth 100000 in
theorem rwput_any {w : World} {F D : Nat → Prop} {g : Nat} {s : Wv} (h : RWvR w F D g s) (p : Pk) (A : Option Addr) (c : Nat) (hw : p.wf) (hr : RdI w w.heap.size .u8 A p.data) :
    Calls Try.prog 36 #[.pointer (some ⟨g, 0, none⟩), p.val A c] w (RPutPost w F D g s p) := by
  have HNo := Lib.hid (fun (w' : World) (e : Ending) (E : Int) hE h0 he hb => rwput_no (w' := w') (e := e) (E := E) (p := p) hE h0 he h hb)
  have HL := Lib.hid (fun W (hW : Below w.heap.size w W) => rlay_any p A c hw W (RdI.more (RdI.below hr hW (Nat.le_refl _)) hW.size))
  have HR := Lib.hid hr
  have HH := Lib.hid h
  obtain ⟨gq, vs, hb, hq, hok⟩ := h
  have n1 := hok.n1
  have HK := Lib.hid (fun W (hW : Below w.heap.size w W) => hb.below hW hb.lt)
  have HQ := Lib.hid (fun W (hW : Below w.heap.size w W) => hq.below hW)
  have HE := Lib.hid (show s.putE p = if layE p ≠ 0 then 1 else if (s.qs.length : Int) ≤ p.st then 1 else if (quAt s.qs p.st.toNat).ended = true then 11 else if p.at_ < (quAt s.qs p.st.toNat).last then 12 else if 256 ≤ (quAt s.qs p.st.toNat).wait.length then 9 else 0 from rfl)
  have HWf := Lib.hid hw
  have HOk := Lib.hid hok
  clear hb hq hok hr hw
  by_cases hl : layE p = 0
  · have ht := lay_time hl
    have hdl := ht.2.2.2.2
    rw [hl] at HL
    have HE2 := Lib.hid (HE.out.trans (if_neg (by rw [hl]; simp)))
    obtain ⟨m, hm⟩ := Int.eq_ofNat_of_zero_le ht.1
    by_cases hn : (s.qs.length : Int) ≤ p.st
    · have HE3 := Lib.hid (HE2.out.trans (if_pos hn))
      clear HE HE2 hl
      obtain ⟨st, at_, ln, key, hid, data⟩ := p
      simp only at hn hm ht hdl
      subst hm
      have hn' : (s.qs.length : Int) ≤ (m : Int) := hn
      go_enter Try.func36, Try.ntmps36
      go_upto_region 2 with (first
        | (go_at_call 61; (with_reducible refine (HL.out _ (below_alloc (Below.refl _ _) _)).mono ?_); rintro e w1 ⟨v1, rfl, _, hb1⟩))
      have bb1 := below_then (below_alloc (Below.refl w.heap.size w) (.cells #[.int .i64 (m : Int), .int .i64 at_, .int .i64 ln, .bool key, .bool hid, .slice A data.length c] 40)) hb1
      have kp := (Blk.new w 40 #[.int .i64 (m : Int), .int .i64 at_, .int .i64 ln, .bool key, .bool hid, .slice A data.length c]).below hb1 (by simp)
      have x0 := kp.cell 0
      have c1 := (HK.out _ bb1).cell 0
      go_quiet (fail)
      go_wp2
      go_ret
      exact HNo.out _ _ 1 HE3.out (by omega) rfl (below_drewN bb1 _)
    · have hml : m < s.qs.length := by omega
      have HE3 := HE2.out.trans (if_neg hn)
      rw [hm, Int.toNat_natCast, quAt_get hml] at HE3
      have HPt := Lib.hid (show s.putE p = 0 → s.put p = ⟨s.most, s.qs.set m ⟨s.qs[m].wait ++ [p], p.at_, s.qs[m].ended⟩, s.top, s.late⟩ from fun h => by
        rw [Wv.put, if_pos h, hm, Int.toNat_natCast, quAt_get hml])
      have HPok := Lib.hid (put_ok_ (p := p) HOk.out)
      have hqo := HOk.out.qAt hml
      have hq1 := hqo.len
      have hq2 := hqo.l0
      have hq3 := hqo.l1
      have HE4 := Lib.hid HE3
      clear HE HE2 hl HE3 hqo
      obtain ⟨st, at_, ln, key, hid, data⟩ := p
      simp only at hn hm ht hdl
      subst hm
      have hn' : decide ((s.qs.length : Int) ≤ (m : Int)) = false := decide_eq_false hn
      clear hn
      go_enter Try.func36, Try.ntmps36
      go_upto_region 2 with (first
        | (go_at_call 61; (with_reducible refine (HL.out _ (below_alloc (Below.refl _ _) _)).mono ?_); rintro e w1 ⟨v1, rfl, _, hb1⟩))
      have bb1 := below_then (below_alloc (Below.refl w.heap.size w) (.cells #[.int .i64 (m : Int), .int .i64 at_, .int .i64 ln, .bool key, .bool hid, .slice A data.length c] 40)) hb1
      have kp := (Blk.new w 40 #[.int .i64 (m : Int), .int .i64 at_, .int .i64 ln, .bool key, .bool hid, .slice A data.length c]).below hb1 (by simp)
      have x0 := kp.cell 0
      have c1 := (HK.out _ bb1).cell 0
      go_quiet (fail)
      have bb2 := below_drewN bb1 nq
      have kp2 := kp.drewN nq
      clear x0 c1
      generalize w1.drewN nq = w2 at *
      have x0 := kp2.cell 0
      have c1 := (HK.out _ bb2).cell 0
      go_upto_region 4 with fail
      go_quiet (fail)
      have bb3 := below_drewN bb2 nq
      have kp3 := kp2.drewN nq
      clear x0 c1
      generalize w2.drewN nq = w3 at *
      obtain ⟨Aq, cq, hvq, hcq, _, e0, e1, e2, f0, f1, f2⟩ := (HQ.out _ bb3).q_at hml
      have x1 := kp3.cell 1
      by_cases hen : s.qs[m].ended = true
      · have HE5 := Lib.hid (HE4.out.trans (if_pos hen))
        rw [hen] at e2
        clear hen
        go_wp2
        go_ret
        exact HNo.out _ _ 11 HE5.out (by omega) rfl bb3
      · have HE5 := Lib.hid (HE4.out.trans (if_neg hen))
        have hen' : s.qs[m].ended = false := by simpa using hen
        rw [hen'] at e2
        have HEn := Lib.hid hen'
        clear hen hen'
        go_upto_region 7 with fail
        by_cases hal : at_ < s.qs[m].last
        · have HE6 := Lib.hid (HE5.out.trans (if_pos hal))
          generalize s.qs[m].last = la at *
          go_quiet (fail)
          go_wp2
          go_ret
          exact HNo.out _ _ 12 HE6.out (by omega) rfl (below_drewN bb3 _)
        · have HE6 := Lib.hid (HE5.out.trans (if_neg hal))
          have hal' : decide (at_ < s.qs[m].last) = false := decide_eq_false hal
          go_quiet (fail)
          have bb4 := below_drewN bb3 nq
          have kp4 := kp3.drewN nq
          clear x1 e0 e1 e2 f0 f1 f2
          generalize w3.drewN nq = w4 at *
          obtain ⟨Aq, cq, hvq, hcq, _, e0, e1, e2, f0, f1, f2⟩ := (HQ.out _ bb4).q_at hml
          by_cases h256 : 256 ≤ s.qs[m].wait.length
          · have HE7 := Lib.hid (HE6.out.trans (if_pos h256))
            have h256' : (256 : Int) ≤ (s.qs[m].wait.length : Int) := by omega
            go_wp2
            go_ret
            exact HNo.out _ _ 9 HE7.out (by omega) rfl bb4
          · have HE7 := Lib.hid (HE6.out.trans (if_neg h256))
            have h256' : decide ((256 : Int) ≤ (s.qs[m].wait.length : Int)) = false := decide_eq_false (by omega)
            have hpk := kp4.lt
            have hwl4 := bb4.size
            have x5 := kp4.cell 5
            clear e1 e2 f0 f1 f2
            go_upto_region 12 with (first
              | (at_builtin; (refine wpList_append_int _ rfl (.tmp 52) (.tmp 54) _ rfl w4 w4.heap.size w4.heap.size 5 .u8 1 Try.underlying38 info_u8 _ [] rfl (OwnI.empty _ _ _ _ (Nat.le_refl _)) _ A _ c data rfl rfl (RdI.alloc (RdI.below HR.out bb4 (Nat.le_refl _)) bb4.size _) (by simp; omega) (by omega) (below_alloc (Below.refl _ _) _) (Nat.le_refl _) (by simp) ?_); intro v5 w5 ow5 bw5; rw [List.nil_append] at ow5; obtain ⟨A5, c5, rfl, hc5, _, _⟩ := ow5.form; have kp5 := kp4.below bw5 hpk; have y5 := kp5.cell 5; have f5 := kp5.frozen 5))
            have bb5 := below_then bb4 bw5
            have hwl5 : w.heap.size < w4.heap.size := hpk
            have kp6 := kp5.set_ 5 (.slice A5 data.length c5)
            have bb7 := below_put (off := 5) (u := .slice A5 data.length c5) bb5 (Nat.le_refl _)
            have ho7 := own_put (off := 5) (u := .slice A5 data.length c5) ow5 hwl5
            have hs57 : w4.heap.size ≤ (w5.setCell ⟨w.heap.size, 5, none⟩ (.slice A5 data.length c5)).heap.size := by simpa [World.setCell] using bw5.size
            generalize w5.setCell ⟨w.heap.size, 5, none⟩ (.slice A5 data.length c5) = w7 at *
            have kp7 : Blk w7 w.heap.size 40 #[.int .i64 (m : Int), .int .i64 at_, .int .i64 ln, .bool key, .bool hid, .slice A5 data.length c5] := by simpa using kp6
            obtain ⟨_, _, hrd7⟩ := ho7.rds
            (try dsimp only at hrd7)
            have hq7 := HQ.out _ bb7
            obtain ⟨Aq, cq, hvq, hcq, _, e0, e1, e2, f0, f1, f2⟩ := hq7.q_at hml
            have hgql := hq7.Flt _ hq7.gF.1
            have hpk7 := kp7.lt
            have hwl7 := bb7.size
            have hFw := HH.out.Flt
            have hownF : ∀ b, (vAt vs m).ownBlock = some b → F b ∧ b ≠ gq ∧ b ≠ g := hq7.inF m hml
            have ownq := hq7.own m hml
            rw [hvq] at ownq hownF
            have HQ7 := Lib.hid hq7
            clear x5 y5 f5 kp5 kp6 ho7 ow5 bw5 bb5 kp4 bb4 bb3 bb2 bb1 kp3 kp2 kp
            have x0 := kp7.cell 0
            have x1 := kp7.cell 1
            have x2 := kp7.cell 2
            have x3 := kp7.cell 3
            have x4 := kp7.cell 4
            have x5 := kp7.cell 5
            have HVq := Lib.hid hvq
            have HF0 := Lib.hid f0
            clear hq7 hvq e1 e2 f0 f1 f2 h256
            generalize s.qs[m].wait = wt at *
            refine wp_region_held_drew (S := (fun w' => w'.cell? ⟨w.heap.size, 0, none⟩ = some (.int .i64 (m : Int)) ∧ w'.cell? ⟨w.heap.size, 1, none⟩ = some (.int .i64 at_) ∧ w'.cell? ⟨w.heap.size, 2, none⟩ = some (.int .i64 ln) ∧ w'.cell? ⟨w.heap.size, 3, none⟩ = some (.bool key) ∧ w'.cell? ⟨w.heap.size, 4, none⟩ = some (.bool hid) ∧ w'.cell? ⟨w.heap.size, 5, none⟩ = some (.slice A5 data.length c5))) (by kernel_rfl) ?_ (fun hHeld => ?_)
            focus exact ⟨x0, x1, x2, x3, x4, x5⟩
            have kp8 : Blk w7.drew w.heap.size 40 #[.int .i64 (m : Int), .int .i64 at_, .int .i64 ln, .bool key, .bool hid, .slice A5 data.length c5] := kp7.drewN 1
            have hq8 : QsM w7.drew 119 40 F D g gq vs s.qs := HQ7.out.drewN 1
            have hrd8 : RdS w7.drew (fun b => w4.heap.size ≤ b ∧ b < w7.heap.size) .u8 A5 data := (show RdS w7 (fun b => w4.heap.size ≤ b ∧ b < w7.heap.size) .u8 A5 data from hrd7.weak (fun b hb _ => ⟨hb.1, hb.2.1⟩))
            have own5 : OwnG PkR 6 40 w7.drew 0 D (.slice Aq wt.length cq) wt := ownq.keep PkR.good (M := fun _ => False) (Mod.refl _ _).drew (fun _ _ _ h => h) (fun _ _ h => h)
            have e8 : w7.drew.cell? ⟨gq, m * 3, none⟩ = some (.slice Aq wt.length cq) := e0
            have hf8 : w7.drew.frozen? ⟨gq, m * 3, none⟩ = false := HF0.out
            have bb8 : Below w.heap.size w w7.drew := bb7.drew
            rw [show w7.heap.size = w7.drew.heap.size from rfl] at *
            have HQ8 := Lib.hid hq8
            clear hq8 kp7 hrd7 ownq e0 HF0 bb7 x0 x1 x2 x3 x4 x5 HQ7
            generalize w7.drew = w8 at *
            have x0 := kp8.cell 0
            have x1 := kp8.cell 1
            have x2 := kp8.cell 2
            have x3 := kp8.cell 3
            have x4 := kp8.cell 4
            have x5 := kp8.cell 5
            refine wpAnyH_take (i := 0) (v := ?_) rfl (by kernel_rfl) (by kernel_rfl) (by kernel_rfl) (fun _ _ _ h => h) (Or.inl ⟨by kernel_rfl, ?_⟩) (by assumption) ?_
            rotate_left
            focus
              intro w9 hSw
              (try dsimp only at hSw)
              go_simp
              (try with_reducible rfl)
            (try simp only [Act.put, List.getElem_toArray, List.getElem_cons_succ, List.getElem_cons_zero, List.setIfInBounds_toArray, List.set_cons_zero, List.set_cons_succ])
            refine wpAnyH_take (i := 1) (v := ?_) rfl (by kernel_rfl) (by kernel_rfl) (by kernel_rfl) (fun _ _ _ h => h) (Or.inl ⟨by kernel_rfl, ?_⟩) (by assumption) ?_
            rotate_left
            focus
              intro w9 hSw
              (try dsimp only at hSw)
              go_simp
              (try with_reducible rfl)
            (try simp only [Act.put, List.getElem_toArray, List.getElem_cons_succ, List.getElem_cons_zero, List.setIfInBounds_toArray, List.set_cons_zero, List.set_cons_succ])
            refine wpAnyH_take (i := 2) (v := ?_) rfl (by kernel_rfl) (by kernel_rfl) (by kernel_rfl) (fun _ _ _ h => h) (Or.inl ⟨by kernel_rfl, ?_⟩) (by assumption) ?_
            rotate_left
            focus
              intro w9 hSw
              (try dsimp only at hSw)
              go_simp
              (try with_reducible rfl)
            (try simp only [Act.put, List.getElem_toArray, List.getElem_cons_succ, List.getElem_cons_zero, List.setIfInBounds_toArray, List.set_cons_zero, List.set_cons_succ])
            refine wpAnyH_take (i := 3) (v := ?_) rfl (by kernel_rfl) (by kernel_rfl) (by kernel_rfl) (fun _ _ _ h => h) (Or.inl ⟨by kernel_rfl, ?_⟩) (by assumption) ?_
            rotate_left
            focus
              intro w9 hSw
              (try dsimp only at hSw)
              go_simp
              (try with_reducible rfl)
            (try simp only [Act.put, List.getElem_toArray, List.getElem_cons_succ, List.getElem_cons_zero, List.setIfInBounds_toArray, List.set_cons_zero, List.set_cons_succ])
            refine wpAnyH_take (i := 4) (v := ?_) rfl (by kernel_rfl) (by kernel_rfl) (by kernel_rfl) (fun _ _ _ h => h) (Or.inl ⟨by kernel_rfl, ?_⟩) (by assumption) ?_
            rotate_left
            focus
              intro w9 hSw
              (try dsimp only at hSw)
              go_simp
              (try with_reducible rfl)
            (try simp only [Act.put, List.getElem_toArray, List.getElem_cons_succ, List.getElem_cons_zero, List.setIfInBounds_toArray, List.set_cons_zero, List.set_cons_succ])
            refine wpAnyH_take (i := 6) (v := ?_) rfl (by kernel_rfl) (by kernel_rfl) (by kernel_rfl) (fun _ _ _ h => h) (Or.inl ⟨by kernel_rfl, ?_⟩) (by assumption) ?_
            rotate_left
            focus
              intro w9 hSw
              (try dsimp only at hSw)
              go_simp
              (try with_reducible rfl)
            (try simp only [Act.put, List.getElem_toArray, List.getElem_cons_succ, List.getElem_cons_zero, List.setIfInBounds_toArray, List.set_cons_zero, List.set_cons_succ])
            refine wpAnyH_take (i := 9) (v := ?_) rfl (by kernel_rfl) (by kernel_rfl) (by kernel_rfl) (fun _ _ _ h => h) (Or.inl ⟨by kernel_rfl, ?_⟩) (by assumption) ?_
            rotate_left
            focus
              intro w9 hSw
              (try dsimp only at hSw)
              go_simp
              (try with_reducible rfl)
            (try simp only [Act.put, List.getElem_toArray, List.getElem_cons_succ, List.getElem_cons_zero, List.setIfInBounds_toArray, List.set_cons_zero, List.set_cons_succ])
            refine wpAnyH_take (i := 10) (v := ?_) rfl (by kernel_rfl) (by kernel_rfl) (by kernel_rfl) (fun _ _ _ h => h) (Or.inl ⟨by kernel_rfl, ?_⟩) (by assumption) ?_
            rotate_left
            focus
              intro w9 hSw
              (try dsimp only at hSw)
              go_simp
              (try with_reducible rfl)
            (try simp only [Act.put, List.getElem_toArray, List.getElem_cons_succ, List.getElem_cons_zero, List.setIfInBounds_toArray, List.set_cons_zero, List.set_cons_succ])
            refine wpAnyH_ready (rs := [5, 7]) (by kernel_rfl) (by simp) (AllReadyH.cons rfl (fun K hK => ?_) (AllReadyH.cons rfl (fun K hK => ?_) AllReadyH.nil))
            · go_simp
              refine hK.out _ _ ?_ (fun hHeld => ?_)
              focus exact ⟨x0, x1, x2, x3, x4, x5⟩
              clear hK K
              (try simp only [Act.put, List.getElem_toArray, List.getElem_cons_succ, List.getElem_cons_zero, List.setIfInBounds_toArray, List.set_cons_zero, List.set_cons_succ])
              refine wpAnyH_ready (rs := [7]) (by kernel_rfl) (by simp) (AllReadyH.cons rfl (fun K hK => ?_) AllReadyH.nil)
              go_simp
              have bl5 : Below w8.heap.size w8 (w8.alloc (.cells #[.int .i64 (m : Int), .int .i64 at_, .int .i64 ln, .bool key, .bool hid, .slice A5 data.length c5] 40)) := below_alloc (Below.refl _ _) _
              have kl := kp8.below bl5 kp8.lt
              refine hK.out _ _ ?_ (fun hHeld => ?_)
              focus exact ⟨kl.cell 0, kl.cell 1, kl.cell 2, kl.cell 3, kl.cell 4, kl.cell 5⟩
              clear hK K
              (try simp only [Act.put, List.getElem_toArray, List.getElem_cons_succ, List.getElem_cons_zero, List.setIfInBounds_toArray, List.set_cons_zero, List.set_cons_succ])
              have hDl := HH.out.Dlt
              obtain ⟨l6, hl6⟩ : ∃ l6 : List Pk, l6 = wt ++ [⟨(m : Int), at_, ln, key, hid, data⟩] := ⟨_, rfl⟩
              have HL6 := Lib.hid hl6
              clear hl6
              refine wpAnyH_ready (rs := [8]) (by kernel_rfl) (by simp) (AllReadyH.cons rfl (fun K hK => ?_) AllReadyH.nil)
              refine step_push_G (by rfl) (.tmp 62) (.tmp 64) _ (by rfl) PkR.good w8 (.agg #[.int .i64 0, .int .i64 0, .int .i64 0, .bool false, .bool false, .slice none 0 0]) 56 Try.underlying49 info_pk (by rfl) (by omega) (by rfl) own5 (fun b => w4.heap.size ≤ b ∧ b < w8.heap.size) _ 1 [.int .i64 (m : Int), .int .i64 at_, .int .i64 ln, .bool key, .bool hid, .slice A5 data.length c5] ⟨(m : Int), at_, ln, key, hid, data⟩ (by rfl) (by rfl) ⟨A5, c5, rfl, hc5, hrd8, HWf.out⟩ (fun b => D b ∨ (w4.heap.size ≤ b ∧ b ≤ w8.heap.size)) (fun b hb _ => .inl hb) (fun b hb _ => .inr ⟨by have := hb.1; omega, by have := hb.2; omega⟩) (fun b hb hS => by have := hFw b (hownF b hb).1; have := hS.1; omega) (fun b hb => by rcases hb with hb | hb; have := (hDl b hb).1; omega; exact hb.2) (.inr ⟨by omega, Nat.le_refl _⟩) (by omega) (Nat.zero_le _) ?_
              intro v6 w6 ow6 hg6 hv6
              rw [← HL6.out] at ow6
              obtain ⟨A6, c6, rfl, hc6, _, _⟩ := ow6.form PkR.good
              have hM6 : Mod (fun b => (Value.slice Aq wt.length cq).ownBlock = some b) w8 w6 := (Mod.of_fresh bl5).then_ (Mod.of_grown hg6 (fun x e _ => e))
              have hng : ¬ (Value.slice Aq wt.length cq).ownBlock = some gq := fun e => (hownF gq e).2.1 rfl
              have hnw : ¬ (Value.slice Aq wt.length cq).ownBlock = some w.heap.size := fun e => by have := hFw _ (hownF _ e).1; omega
              have e06 := hM6.cell e8 hng
              have kp6 := kp8.mod hM6 hnw
              have xf : w6.frozen? ⟨gq, m * 3, none⟩ = false := (hM6.frozen (a := ⟨gq, m * 3, none⟩) hgql hng).trans hf8
              refine hK.out _ _ ?_ (fun hHeld => ?_)
              focus exact ⟨kp6.cell 0, kp6.cell 1, kp6.cell 2, kp6.cell 3, kp6.cell 4, kp6.cell 5⟩
              clear hK K
              (try simp only [Act.put, List.getElem_toArray, List.getElem_cons_succ, List.getElem_cons_zero, List.setIfInBounds_toArray, List.set_cons_zero, List.set_cons_succ])
              refine wpAnyH_take (i := 11) (v := ?_) rfl (by kernel_rfl) (by kernel_rfl) (by kernel_rfl) (fun _ _ _ h => h) (Or.inl ⟨by kernel_rfl, ?_⟩) (by assumption) ?_
              rotate_left
              focus
                intro w9 hSw
                (try dsimp only at hSw)
                go_simp
                (try with_reducible rfl)
              (try simp only [Act.put, List.getElem_toArray, List.getElem_cons_succ, List.getElem_cons_zero, List.setIfInBounds_toArray, List.set_cons_zero, List.set_cons_succ])
              refine wpAnyH_take (i := 12) (v := ?_) rfl (by kernel_rfl) (by kernel_rfl) (by kernel_rfl) (fun _ _ _ h => h) (Or.inl ⟨by kernel_rfl, ?_⟩) (by assumption) ?_
              rotate_left
              focus
                intro w9 hSw
                (try dsimp only at hSw)
                go_simp
                (try with_reducible rfl)
              (try simp only [Act.put, List.getElem_toArray, List.getElem_cons_succ, List.getElem_cons_zero, List.setIfInBounds_toArray, List.set_cons_zero, List.set_cons_succ])
              refine wpAnyH_ready (rs := [13]) (by kernel_rfl) (by simp) (AllReadyH.cons rfl (fun K hK => ?_) AllReadyH.nil)
              go_simp
              have hq4 := HQ8.out
              have hM6' : Mod (fun b => (vAt vs m).ownBlock = some b) w8 w6 := by rw [HVq.out]; exact hM6
              have hq9 := hq4.putN hml hM6' ow6 (fun b hb => by
                rw [HVq.out]
                rcases hv6 with h9 | h9
                · exact .inl (h9 ▸ hb)
                · rw [h9] at hb; injection hb with hb; right; omega) (fun b hb => .inl hb) (fun b hb => by
                rcases hb with hb | hb
                · exact .inl hb
                · right
                  refine ⟨fun hf => by have := hFw b hf; omega, by have := hg6.size; simp at this; omega, fun e => ?_⟩
                  rcases hv6 with h9 | h9
                  · rw [h9] at e; have := hFw b (hownF b e).1; omega
                  · rw [h9] at e; injection e with e; omega)
              have kg7 := (HK.out _ bb8).mod hM6 (fun e => (hownF g e).2.2 rfl)
              have kg7' := kg7.far (p := ⟨gq, m * 3, none⟩) (fun e => hq4.gF.2.2 e.symm) (.slice A6 l6.length c6)
              have kp9 := kp6.far (p := ⟨gq, m * 3, none⟩) (fun e => by have := hFw gq hq4.gF.1; simp only at e; omega) (.slice A6 l6.length c6)
              have hF4 := hq4.gF
              have hm9 : Mod F w (w6.setCell ⟨gq, m * 3, none⟩ (.slice A6 l6.length c6)) := mod_put (((Mod.of_fresh bb8).then_ (hM6.mono (fun b hb _ => (hownF b hb).1)))) (fun _ => hF4.1)
              generalize w6.setCell ⟨gq, m * 3, none⟩ (.slice A6 l6.length c6) = w9 at *
              have HV6 := Lib.hid hv6
              refine hK.out _ _ ?_ (fun hHeld => ?_)
              focus exact ⟨kp9.cell 0, kp9.cell 1, kp9.cell 2, kp9.cell 3, kp9.cell 4, kp9.cell 5⟩
              clear hK K
              (try simp only [Act.put, List.getElem_toArray, List.getElem_cons_succ, List.getElem_cons_zero, List.setIfInBounds_toArray, List.set_cons_zero, List.set_cons_succ])
              have hml9 : m < (s.qs.set m ⟨l6, s.qs[m].last, s.qs[m].ended⟩).length := by rw [List.length_set]; exact hml
              obtain ⟨_, _, _, _, _, _, e1, _, _, f1, _⟩ := hq9.q_at hml9
              have hq10 := hq9.put1 hml9 at_
              simp only [List.set_set, List.getElem_set_self] at hq10
              have kg10 := kg7'.far (p := ⟨gq, m * 3 + 1, none⟩) (fun e => hF4.2.2 e.symm) (.int .i64 at_)
              have kp10 := kp9.far (p := ⟨gq, m * 3 + 1, none⟩) (fun e => by have := hFw gq hq4.gF.1; simp only at e; omega) (.int .i64 at_)
              have hm10 : Mod F w (w9.setCell ⟨gq, m * 3 + 1, none⟩ (.int .i64 at_)) := mod_put hm9 (fun _ => hF4.1)
              refine wpAnyH_take (i := 14) (v := ?_) rfl (by kernel_rfl) (by kernel_rfl) (by kernel_rfl) (fun _ _ _ h => h) (Or.inl ⟨by kernel_rfl, ?_⟩) (by assumption) ?_
              rotate_left
              focus
                intro w9 hSw
                (try dsimp only at hSw)
                go_simp
                (try with_reducible rfl)
              (try simp only [Act.put, List.getElem_toArray, List.getElem_cons_succ, List.getElem_cons_zero, List.setIfInBounds_toArray, List.set_cons_zero, List.set_cons_succ])
              refine wpAnyH_take (i := 15) (v := ?_) rfl (by kernel_rfl) (by kernel_rfl) (by kernel_rfl) (fun _ _ _ h => h) (Or.inl ⟨by kernel_rfl, ?_⟩) (by assumption) ?_
              rotate_left
              focus
                intro w9 hSw
                (try dsimp only at hSw)
                go_simp
                (try with_reducible rfl)
              (try simp only [Act.put, List.getElem_toArray, List.getElem_cons_succ, List.getElem_cons_zero, List.setIfInBounds_toArray, List.set_cons_zero, List.set_cons_succ])
              refine wpAnyH_ready (rs := [16]) (by kernel_rfl) (by simp) (AllReadyH.cons rfl (fun K hK => ?_) AllReadyH.nil)
              go_simp
              refine hK.out _ _ ?_ (fun hHeld => ?_)
              focus exact ⟨kp10.cell 0, kp10.cell 1, kp10.cell 2, kp10.cell 3, kp10.cell 4, kp10.cell 5⟩
              clear hK K
              (try simp only [Act.put, List.getElem_toArray, List.getElem_cons_succ, List.getElem_cons_zero, List.setIfInBounds_toArray, List.set_cons_zero, List.set_cons_succ])
              refine wpAnyH_done (by kernel_rfl) ?_ _
              (try simp only [Act.put, List.getElem_toArray, List.getElem_cons_succ, List.getElem_cons_zero, List.setIfInBounds_toArray, List.set_cons_zero, List.set_cons_succ])
              go_wp2
              go_ret
              have hE0 := HE7.out
              refine ⟨fun b => F b ∨ (Value.slice A6 l6.length c6).ownBlock = some b, fun b => D b ∨ (w4.heap.size ≤ b ∧ b ≤ w8.heap.size), by rw [hE0]; rfl, ⟨gq, vs.set m (.slice A6 l6.length c6), ?_, ?_, HPok.out⟩, fun b hb => .inl hb, ?_, fun b hb => .inl hb, ?_, hm10⟩
              · rw [HPt.out hE0]; simpa [List.length_set] using kg10
              · rw [HPt.out hE0, ← HL6.out]; exact hq10
              · intro b hb
                rcases hb with hb | hb
                · exact .inl hb
                · rcases HV6.out with h9 | h9
                  · rw [h9] at hb; exact .inl (hownF b hb).1
                  · rw [h9] at hb; injection hb with hb; right; omega
              · intro b hb
                rcases hb with hb | hb
                · exact .inl hb
                · right; have := hb.1; omega
            · go_simp
              have bl5 : Below w8.heap.size w8 (w8.alloc (.cells #[.int .i64 (m : Int), .int .i64 at_, .int .i64 ln, .bool key, .bool hid, .slice A5 data.length c5] 40)) := below_alloc (Below.refl _ _) _
              have kl := kp8.below bl5 kp8.lt
              have e85 := (bl5.cell (p := ⟨gq, m * 3, none⟩) hgql).trans e8
              refine hK.out _ _ ?_ (fun hHeld => ?_)
              focus exact ⟨kl.cell 0, kl.cell 1, kl.cell 2, kl.cell 3, kl.cell 4, kl.cell 5⟩
              clear hK K
              (try simp only [Act.put, List.getElem_toArray, List.getElem_cons_succ, List.getElem_cons_zero, List.setIfInBounds_toArray, List.set_cons_zero, List.set_cons_succ])
              refine wpAnyH_ready (rs := [5]) (by kernel_rfl) (by simp) (AllReadyH.cons rfl (fun K hK => ?_) AllReadyH.nil)
              go_simp
              refine hK.out _ _ ?_ (fun hHeld => ?_)
              focus exact ⟨kl.cell 0, kl.cell 1, kl.cell 2, kl.cell 3, kl.cell 4, kl.cell 5⟩
              clear hK K
              (try simp only [Act.put, List.getElem_toArray, List.getElem_cons_succ, List.getElem_cons_zero, List.setIfInBounds_toArray, List.set_cons_zero, List.set_cons_succ])
              have hDl := HH.out.Dlt
              obtain ⟨l6, hl6⟩ : ∃ l6 : List Pk, l6 = wt ++ [⟨(m : Int), at_, ln, key, hid, data⟩] := ⟨_, rfl⟩
              have HL6 := Lib.hid hl6
              clear hl6
              refine wpAnyH_ready (rs := [8]) (by kernel_rfl) (by simp) (AllReadyH.cons rfl (fun K hK => ?_) AllReadyH.nil)
              refine step_push_G (by rfl) (.tmp 62) (.tmp 64) _ (by rfl) PkR.good w8 (.agg #[.int .i64 0, .int .i64 0, .int .i64 0, .bool false, .bool false, .slice none 0 0]) 56 Try.underlying49 info_pk (by rfl) (by omega) (by rfl) own5 (fun b => w4.heap.size ≤ b ∧ b < w8.heap.size) _ 1 [.int .i64 (m : Int), .int .i64 at_, .int .i64 ln, .bool key, .bool hid, .slice A5 data.length c5] ⟨(m : Int), at_, ln, key, hid, data⟩ (by rfl) (by rfl) ⟨A5, c5, rfl, hc5, hrd8, HWf.out⟩ (fun b => D b ∨ (w4.heap.size ≤ b ∧ b ≤ w8.heap.size)) (fun b hb _ => .inl hb) (fun b hb _ => .inr ⟨by have := hb.1; omega, by have := hb.2; omega⟩) (fun b hb hS => by have := hFw b (hownF b hb).1; have := hS.1; omega) (fun b hb => by rcases hb with hb | hb; have := (hDl b hb).1; omega; exact hb.2) (.inr ⟨by omega, Nat.le_refl _⟩) (by omega) (Nat.zero_le _) ?_
              intro v6 w6 ow6 hg6 hv6
              rw [← HL6.out] at ow6
              obtain ⟨A6, c6, rfl, hc6, _, _⟩ := ow6.form PkR.good
              have hM6 : Mod (fun b => (Value.slice Aq wt.length cq).ownBlock = some b) w8 w6 := (Mod.of_fresh bl5).then_ (Mod.of_grown hg6 (fun x e _ => e))
              have hng : ¬ (Value.slice Aq wt.length cq).ownBlock = some gq := fun e => (hownF gq e).2.1 rfl
              have hnw : ¬ (Value.slice Aq wt.length cq).ownBlock = some w.heap.size := fun e => by have := hFw _ (hownF _ e).1; omega
              have e06 := hM6.cell e8 hng
              have kp6 := kp8.mod hM6 hnw
              have xf : w6.frozen? ⟨gq, m * 3, none⟩ = false := (hM6.frozen (a := ⟨gq, m * 3, none⟩) hgql hng).trans hf8
              refine hK.out _ _ ?_ (fun hHeld => ?_)
              focus exact ⟨kp6.cell 0, kp6.cell 1, kp6.cell 2, kp6.cell 3, kp6.cell 4, kp6.cell 5⟩
              clear hK K
              (try simp only [Act.put, List.getElem_toArray, List.getElem_cons_succ, List.getElem_cons_zero, List.setIfInBounds_toArray, List.set_cons_zero, List.set_cons_succ])
              refine wpAnyH_take (i := 11) (v := ?_) rfl (by kernel_rfl) (by kernel_rfl) (by kernel_rfl) (fun _ _ _ h => h) (Or.inl ⟨by kernel_rfl, ?_⟩) (by assumption) ?_
              rotate_left
              focus
                intro w9 hSw
                (try dsimp only at hSw)
                go_simp
                (try with_reducible rfl)
              (try simp only [Act.put, List.getElem_toArray, List.getElem_cons_succ, List.getElem_cons_zero, List.setIfInBounds_toArray, List.set_cons_zero, List.set_cons_succ])
              refine wpAnyH_take (i := 12) (v := ?_) rfl (by kernel_rfl) (by kernel_rfl) (by kernel_rfl) (fun _ _ _ h => h) (Or.inl ⟨by kernel_rfl, ?_⟩) (by assumption) ?_
              rotate_left
              focus
                intro w9 hSw
                (try dsimp only at hSw)
                go_simp
                (try with_reducible rfl)
              (try simp only [Act.put, List.getElem_toArray, List.getElem_cons_succ, List.getElem_cons_zero, List.setIfInBounds_toArray, List.set_cons_zero, List.set_cons_succ])
              refine wpAnyH_ready (rs := [13]) (by kernel_rfl) (by simp) (AllReadyH.cons rfl (fun K hK => ?_) AllReadyH.nil)
              go_simp
              have hq4 := HQ8.out
              have hM6' : Mod (fun b => (vAt vs m).ownBlock = some b) w8 w6 := by rw [HVq.out]; exact hM6
              have hq9 := hq4.putN hml hM6' ow6 (fun b hb => by
                rw [HVq.out]
                rcases hv6 with h9 | h9
                · exact .inl (h9 ▸ hb)
                · rw [h9] at hb; injection hb with hb; right; omega) (fun b hb => .inl hb) (fun b hb => by
                rcases hb with hb | hb
                · exact .inl hb
                · right
                  refine ⟨fun hf => by have := hFw b hf; omega, by have := hg6.size; simp at this; omega, fun e => ?_⟩
                  rcases hv6 with h9 | h9
                  · rw [h9] at e; have := hFw b (hownF b e).1; omega
                  · rw [h9] at e; injection e with e; omega)
              have kg7 := (HK.out _ bb8).mod hM6 (fun e => (hownF g e).2.2 rfl)
              have kg7' := kg7.far (p := ⟨gq, m * 3, none⟩) (fun e => hq4.gF.2.2 e.symm) (.slice A6 l6.length c6)
              have kp9 := kp6.far (p := ⟨gq, m * 3, none⟩) (fun e => by have := hFw gq hq4.gF.1; simp only at e; omega) (.slice A6 l6.length c6)
              have hF4 := hq4.gF
              have hm9 : Mod F w (w6.setCell ⟨gq, m * 3, none⟩ (.slice A6 l6.length c6)) := mod_put (((Mod.of_fresh bb8).then_ (hM6.mono (fun b hb _ => (hownF b hb).1)))) (fun _ => hF4.1)
              generalize w6.setCell ⟨gq, m * 3, none⟩ (.slice A6 l6.length c6) = w9 at *
              have HV6 := Lib.hid hv6
              refine hK.out _ _ ?_ (fun hHeld => ?_)
              focus exact ⟨kp9.cell 0, kp9.cell 1, kp9.cell 2, kp9.cell 3, kp9.cell 4, kp9.cell 5⟩
              clear hK K
              (try simp only [Act.put, List.getElem_toArray, List.getElem_cons_succ, List.getElem_cons_zero, List.setIfInBounds_toArray, List.set_cons_zero, List.set_cons_succ])
              have hml9 : m < (s.qs.set m ⟨l6, s.qs[m].last, s.qs[m].ended⟩).length := by rw [List.length_set]; exact hml
              obtain ⟨_, _, _, _, _, _, e1, _, _, f1, _⟩ := hq9.q_at hml9
              have hq10 := hq9.put1 hml9 at_
              simp only [List.set_set, List.getElem_set_self] at hq10
              have kg10 := kg7'.far (p := ⟨gq, m * 3 + 1, none⟩) (fun e => hF4.2.2 e.symm) (.int .i64 at_)
              have kp10 := kp9.far (p := ⟨gq, m * 3 + 1, none⟩) (fun e => by have := hFw gq hq4.gF.1; simp only at e; omega) (.int .i64 at_)
              have hm10 : Mod F w (w9.setCell ⟨gq, m * 3 + 1, none⟩ (.int .i64 at_)) := mod_put hm9 (fun _ => hF4.1)
              refine wpAnyH_take (i := 14) (v := ?_) rfl (by kernel_rfl) (by kernel_rfl) (by kernel_rfl) (fun _ _ _ h => h) (Or.inl ⟨by kernel_rfl, ?_⟩) (by assumption) ?_
              rotate_left
              focus
                intro w9 hSw
                (try dsimp only at hSw)
                go_simp
                (try with_reducible rfl)
              (try simp only [Act.put, List.getElem_toArray, List.getElem_cons_succ, List.getElem_cons_zero, List.setIfInBounds_toArray, List.set_cons_zero, List.set_cons_succ])
              refine wpAnyH_take (i := 15) (v := ?_) rfl (by kernel_rfl) (by kernel_rfl) (by kernel_rfl) (fun _ _ _ h => h) (Or.inl ⟨by kernel_rfl, ?_⟩) (by assumption) ?_
              rotate_left
              focus
                intro w9 hSw
                (try dsimp only at hSw)
                go_simp
                (try with_reducible rfl)
              (try simp only [Act.put, List.getElem_toArray, List.getElem_cons_succ, List.getElem_cons_zero, List.setIfInBounds_toArray, List.set_cons_zero, List.set_cons_succ])
              refine wpAnyH_ready (rs := [16]) (by kernel_rfl) (by simp) (AllReadyH.cons rfl (fun K hK => ?_) AllReadyH.nil)
              go_simp
              refine hK.out _ _ ?_ (fun hHeld => ?_)
              focus exact ⟨kp10.cell 0, kp10.cell 1, kp10.cell 2, kp10.cell 3, kp10.cell 4, kp10.cell 5⟩
              clear hK K
              (try simp only [Act.put, List.getElem_toArray, List.getElem_cons_succ, List.getElem_cons_zero, List.setIfInBounds_toArray, List.set_cons_zero, List.set_cons_succ])
              refine wpAnyH_done (by kernel_rfl) ?_ _
              (try simp only [Act.put, List.getElem_toArray, List.getElem_cons_succ, List.getElem_cons_zero, List.setIfInBounds_toArray, List.set_cons_zero, List.set_cons_succ])
              go_wp2
              go_ret
              have hE0 := HE7.out
              refine ⟨fun b => F b ∨ (Value.slice A6 l6.length c6).ownBlock = some b, fun b => D b ∨ (w4.heap.size ≤ b ∧ b ≤ w8.heap.size), by rw [hE0]; rfl, ⟨gq, vs.set m (.slice A6 l6.length c6), ?_, ?_, HPok.out⟩, fun b hb => .inl hb, ?_, fun b hb => .inl hb, ?_, hm10⟩
              · rw [HPt.out hE0]; simpa [List.length_set] using kg10
              · rw [HPt.out hE0, ← HL6.out]; exact hq10
              · intro b hb
                rcases hb with hb | hb
                · exact .inl hb
                · rcases HV6.out with h9 | h9
                  · rw [h9] at hb; exact .inl (hownF b hb).1
                  · rw [h9] at hb; injection hb with hb; right; omega
              · intro b hb
                rcases hb with hb | hb
                · exact .inl hb
                · right; have := hb.1; omega
  · have HE2 := Lib.hid (HE.out.trans (if_pos hl))
    generalize layE p = E at *
    obtain ⟨st, at_, ln, key, hid, data⟩ := p
    have hE' : (E != 0) = true := by rw [bne_iff_ne]; exact hl
    clear hl
    go_enter Try.func36, Try.ntmps36
    go_upto_region 2 with (first
      | (go_at_call 61; (with_reducible refine (HL.out _ (below_alloc (Below.refl _ _) _)).mono ?_); rintro e w1 ⟨v1, rfl, _, hb1⟩))
    have bb1 := below_then (below_alloc (Below.refl w.heap.size w) (.cells #[.int .i64 st, .int .i64 at_, .int .i64 ln, .bool key, .bool hid, .slice A data.length c] 40)) hb1
    have kp := (Blk.new w 40 #[.int .i64 st, .int .i64 at_, .int .i64 ln, .bool key, .bool hid, .slice A data.length c]).below hb1 (by simp)
    have x0 := kp.cell 0
    have c1 := (HK.out _ bb1).cell 0
    go_quiet (fail)
    go_wp2
    go_ret
    exact HNo.out _ _ 1 HE2.out (by omega) rfl (below_drewN bb1 _)
end Go.Proofs.Ytnflhogjonlnmaa
