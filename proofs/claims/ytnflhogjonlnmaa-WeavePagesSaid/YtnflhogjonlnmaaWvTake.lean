/- weave.Weaver: Take. -/
import Derived.Test.YtnflhogjonlnmaaWvEar
import Derived.Test.YtnflhogjonlnmaaPicLast
import Derived.Deep.RegionHeld3
import Derived.Lib.SlBytesConst
set_option linter.unusedSimpArgs false
set_option linter.unusedVariables false
namespace Go.Proofs.Ytnflhogjonlnmaa
open Go.RowKit

/-- slices.Clone, cell by cell. -/
theorem sclone_cells {cells : List Value} {n c : Nat} {ad : Addr} {w : World} (hr : Rd w w.heap.size 6 (some ad) n cells) (h1 : ∀ u ∈ cells, u.oneCell' = true) (hn : n ≤ 100000) :
    Calls Try.prog 47 #[.slice (some ad) n c] w fun e w' => ∃ v, e = .returned v ∧ w'.ownsRow w.heap.size 40 6 v n cells ∧ Below w.heap.size w w' := by
  obtain ⟨i0, hi0, hz0, hz1, hz2⟩ := infoG info_pk
  have hnil := Lib.run_eql_slice_nil (P := Try.prog) w 49 40 (some ad) n c 0 0 Try.underlying49
  simp only [Option.isNone_some] at hnil
  have HR := Lib.hid (hr.alloc (Nat.le_refl _) (.cells #[] 40))
  have H1 := Lib.hid h1
  have HI := Lib.hid hi0
  have HZ := Lib.hid (And.intro hz0 (And.intro hz1 hz2))
  clear hr h1 hi0 hz0 hz1 hz2
  go_enter Try.func47, Try.ntmps47
  go_wp2_with (first
    | (at_builtin; (refine wpList_plain rfl fun _ hK => wp_append_rd (w.alloc (.cells #[] 40)) (.tmp 5) (.tmp 6) _ rfl w.heap.size 40 i0 (.agg #[.int .i64 0, .int .i64 0, .int .i64 0, .bool false, .bool false, .slice none 0 0]) 6 56 Try.underlying49 HI.out HZ.out.1 HZ.out.2.1 HZ.out.2.2 rfl (by omega) _ 0 [] rfl (World.ownsRow_made w #[] 0 (Nat.le_refl _) (by simp [maxLen]) (by simp)) _ (some ad) n c cells rfl HR.out H1.out (by simp only [maxLen]; omega) (by omega) (by simp) ?_); intro v1 w1 ho1 hg1 hv1; refine hK _ _ ?_))
  go_ret
  rw [Nat.zero_add, List.nil_append] at ho1
  exact ⟨_, rfl, ho1, below_one (below_alloc (Below.refl _ _) _) hg1 (Nat.le_refl _)⟩
theorem Cells.tail {α : Type} {R : Rel α} {size : Nat} {w : World} {S : Nat → Prop} {cells : List Value} {x : α} {xs : List α} (h : Cells R size w S cells (x :: xs)) : Cells R size w S (cells.drop size) xs := by
  refine ⟨by rw [List.length_drop, h.1, List.length_cons, Nat.succ_mul]; omega, fun j hj => ?_⟩
  have := h.2 (j + 1) (by simpa using hj)
  rw [List.drop_drop]
  rwa [Nat.succ_mul, Nat.add_comm, List.getElem_cons_succ] at this

theorem Rd.slice_some {P : Program} {t e : TypeId} {size : Nat} {z : Option Value} {b : Nat} (ht : P.underlying t = some (.slice e)) (hi : (P.info? e).map (fun i => (i.zero, i.size, i.bytes)) = some (z, size, b))
    {w : World} {B n : Nat} {a : Addr} {xs : List Value} (h : Rd w B size (some a) n xs) {lo c : Nat} (h1 : lo ≤ n) (hc : n ≤ c) :
    ∃ a', (∀ w' : World, (Instr.slice t (.slice (some a) n c) (some (.int .i64 (lo : Int))) none none).run P w' = .ok (.slice (some a') (n - lo) (c - lo)) w') ∧ Rd w B size (some a') (n - lo) (xs.drop (lo * size)) := by
  obtain ⟨he, ht'⟩ := elem_of ht
  have hcut := Rd.cut h (k := lo) (cap := c) h1 hc
  by_cases hcl : c = lo
  · refine ⟨a, fun w' => ?_, by rwa [if_pos hcl] at hcut⟩
    rw [run_slice_l w' t (some a) n c ht' .i64 lo (by omega) (by omega), he, sizeOf_run hi]
    simp [sliced, hcl]
  · refine ⟨a.add (lo * size), fun w' => ?_, by rwa [if_neg hcl] at hcut⟩
    rw [run_slice_l w' t (some a) n c ht' .i64 lo (by omega) (by omega), he, sizeOf_run hi]
    simp [sliced, hcl]
theorem QsM.exMod {w w1 : World} {TQ TP : TypeId} {F D : Nat → Prop} {ex gq : Nat} {vs : List Value} {qs : List Qu} (h : QsM w TQ TP F D ex gq vs qs) (hm : Mod (· = ex) w w1) : QsM w1 TQ TP F D ex gq vs qs where
  len := h.len
  blk := h.blk.mod hm h.gF.2.2
  own := fun i hi => (h.own i hi).keep PkR.good hm (fun b hb _ he => (h.Dlt b hb).2 (by rw [he]; exact h.gF.2.1)) (fun b hb he => (h.inF i hi b hb).2.2 he)
  inF := h.inF
  dis := h.dis
  gF := h.gF
  Flt := fun b hb => Nat.lt_of_lt_of_le (h.Flt b hb) hm.size
  Dlt := fun b hb => ⟨Nat.lt_of_lt_of_le (h.Dlt b hb).1 hm.size, (h.Dlt b hb).2⟩

theorem QsM.head {w : World} {TQ TP : TypeId} {F D : Nat → Prop} {ex gq : Nat} {vs : List Value} {qs : List Qu} (h : QsM w TQ TP F D ex gq vs qs) {i : Nat} (hi : i < qs.length) {p : Pk} {l : List Pk} (hw : qs[i].wait = p :: l) :
    ∃ gb c A cd, vAt vs i = .slice (some ⟨gb, 0, none⟩) (l.length + 1) c ∧ F gb ∧ w.cell? ⟨gb, 0, none⟩ = some (.int .i64 p.st) ∧ w.cell? ⟨gb, 1, none⟩ = some (.int .i64 p.at_) ∧ w.cell? ⟨gb, 2, none⟩ = some (.int .i64 p.ln) ∧
      w.cell? ⟨gb, 3, none⟩ = some (.bool p.key) ∧ w.cell? ⟨gb, 4, none⟩ = some (.bool p.hid) ∧ w.cell? ⟨gb, 5, none⟩ = some (.slice A p.data.length cd) ∧ RdS w D .u8 A p.data ∧ p.data.length ≤ cd ∧ p.wf := by
  obtain ⟨cells, ho, hcs⟩ := h.own i hi
  rw [hw] at ho hcs
  obtain ⟨gb, cap, hv, _, _⟩ := World.ownsRow.form ho (by simp)
  rw [hv] at ho
  obtain ⟨A, cd, hcells, hcd, hr, hwf⟩ := hcs.2 0 (by simp)
  have hlen : cells.length = (l.length + 1) * 6 := hcs.1
  have hc : ∀ j u, (p.cells A cd)[j]? = some u → w.cell? ⟨gb, j, none⟩ = some u := fun j u hu => by
    have hu' := hu
    simp only [List.getElem_cons_zero] at hcells
    rw [← hcells, seg_get] at hu'
    split at hu'
    · rw [Nat.zero_mul, Nat.zero_add] at hu'
      exact (ho.cellAt j (by simp only [List.length_cons]; omega)).trans hu'
    · cases hu'
  exact ⟨gb, cap, A, cd, by rw [hv]; rfl, (h.inF i hi gb (by rw [hv]; rfl)).1, hc 0 _ rfl, hc 1 _ rfl, hc 2 _ rfl, hc 3 _ rfl, hc 4 _ rfl, hc 5 _ rfl, RdS.weak hr (fun b hb _ => hb.1), hcd, hwf⟩

/-- What Take leaves. -/
def WTakePost (w : World) (F D : Nat → Prop) (g : Nat) (s : Wv) (e : Ending) (w' : World) : Prop :=
  ∃ (F' : Nat → Prop) (A : Option Addr) (c : Nat), e = .returned (.tuple #[(s.take.1.getD pz).val A c, .bool s.take.1.isSome]) ∧ WvR w' F' D g s.take.2 ∧ (∀ b, F b → F' b) ∧ (∀ b, F' b → F b ∨ w.heap.size ≤ b) ∧ Mod F w w' ∧
    RdS w' D .u8 A (s.take.1.getD pz).data ∧ (s.take.1.getD pz).data.length ≤ c ∧ (s.take.1.getD pz).wf
theorem pz_wf : pz.wf := ⟨by simp [pz, i64B], by simp [pz, i64B], by simp [pz, i64B], by simp [pz], fun x hx => by simp [pz] at hx⟩
theorem wtake_no {w w' : World} {F D : Nat → Prop} {g : Nat} {s : Wv} {e : Ending} (ht : s.take = (none, s)) (he : e = .returned (.tuple #[pz.val none 0, .bool false])) (h : WvR w F D g s) (hb : Below w.heap.size w w') : WTakePost w F D g s e w' :=
  ⟨F, none, 0, by rw [ht]; exact he, by rw [ht]; exact h.below hb, fun _ h => h, fun _ h => .inl h, Mod.of_fresh hb, by rw [ht]; exact RdS.nil_, by rw [ht]; exact Nat.le_refl _, by rw [ht]; exact pz_wf⟩

set_option maxHeartbeats 8000000 in
set_option maxRecDepth 100000 in
theorem wtake_any {w : World} {F D : Nat → Prop} {g : Nat} {s : Wv} (h : WvR w F D g s) (hl0 : 0 ≤ s.late) (hl1 : s.late ≤ 4611686018427387904) :
    Calls Try.prog 20 #[.pointer (some ⟨g, 0, none⟩)] w (WTakePost w F D g s) := by
  have HNo := Lib.hid (fun (w' : World) (e : Ending) ht he hb => wtake_no (w' := w') (e := e) ht he h hb)
  have HEa := Lib.hid (fun W (hW : Below w.heap.size w W) => earliest_any (h.below hW))
  have HNx := Lib.hid (fun W (hW : Below w.heap.size w W) a st => isnext_any (h.below hW) a st)
  have HOv := Lib.hid (fun W (hW : Below w.heap.size w W) a a0 a1 => isover_any (h.below hW) a a0 a1)
  have HH := Lib.hid h
  obtain ⟨gq, vs, hb, hq, hok⟩ := h
  have n1 := hok.n1
  have HK := Lib.hid (fun W (hW : Below w.heap.size w W) => hb.below hW hb.lt)
  have HQ := Lib.hid (fun W (hW : Below w.heap.size w W) => hq.below hW)
  have HOk := Lib.hid hok
  have HTo := Lib.hid (take_ok_ hok)
  clear hb hq hok
  by_cases hf : firstQ (s.qs.map Qu.wait) < 0
  · have HT := Lib.hid (take_none hf)
    generalize firstQ (s.qs.map Qu.wait) = f at *
    go_enter Try.func20, Try.ntmps20
    go_upto_region 2 with (first
      | (go_at_call 44; (with_reducible refine (HEa.out _ (below_alloc (Below.refl _ _) _)).mono ?_); rintro e w1 ⟨rfl, hb1⟩))
    have b0 := below_alloc (Below.refl w.heap.size w) (.cells #[.int .i64 0, .int .i64 0, .int .i64 0, .bool false, .bool false, .slice none 0 0] 40)
    have k0 := (Blk.new w 40 #[.int .i64 0, .int .i64 0, .int .i64 0, .bool false, .bool false, .slice none 0 0]).below hb1 (by simp)
    have bb1 := below_then b0 hb1
    have f0 := k0.frozen 0
    have f1 := k0.frozen 1
    have f2 := k0.frozen 2
    have f3 := k0.frozen 3
    have f4 := k0.frozen 4
    have f5 := k0.frozen 5
    have y0 := k0.cell 0
    have y1 := k0.cell 1
    have y2 := k0.cell 2
    have y3 := k0.cell 3
    have y4 := k0.cell 4
    have y5 := k0.cell 5
    go_wp2
    have hle := Nat.le_refl w.heap.size
    exact bodyPost_ret (v := .tuple #[pz.val none 0, .bool false]) (by simp [results, Try.results20, go_sem, y0, y1, y2, y3, y4, y5, pz, Pk.val]) rfl (HNo.out _ _ HT.out rfl (below_put (below_put (below_put (below_put (below_put (below_put bb1 hle) hle) hle) hle) hle) hle))
  · obtain ⟨i, hi⟩ := Int.eq_ofNat_of_zero_le (show 0 ≤ firstQ (s.qs.map Qu.wait) by omega)
    obtain ⟨hil, p, l, hw⟩ := firstQ_at hi
    obtain ⟨gb, c0, Ad, cd, hv0, hFg, w0, w1', w2', w3', w4', w5', hRd, hcd, hwf⟩ := (HQ.out w (Below.refl _ _)).head hil hw
    have hgbl := HH.out.Flt gb hFg
    have hqo := HOk.out.qAt hil
    have hpt := hqo.at_ p (by rw [hw]; exact List.mem_cons_self ..)
    have hwl := hqo.len
    rw [hw, List.length_cons] at hwl
    have HTw := Lib.hid (take_wait hi hil hw)
    have HTs := Lib.hid (take_some hi hil hw)
    have HGo := Lib.hid (show goB s.qs s.most p.at_ i = (nextUp s.qs p.at_ i s.qs.length || overUp s.qs p.at_ s.most s.qs.length) from rfl)
    rw [hi] at HEa
    clear hqo hf hi
    have HNx' := Lib.hid (fun W (hW : Below w.heap.size w W) => HNx.out W hW p.at_ (i : Int))
    have HOv' := Lib.hid (fun W (hW : Below w.heap.size w W) => HOv.out W hW p.at_ hpt.1 hpt.2)
    clear HNx HOv
    generalize goB s.qs s.most p.at_ i = go at *
    generalize nextUp s.qs p.at_ i s.qs.length = nx at *
    generalize overUp s.qs p.at_ s.most s.qs.length = ov at *
    have HWt := Lib.hid hw
    go_enter Try.func20, Try.ntmps20
    go_upto_region 4 with (first
      | (go_at_call 44; (with_reducible refine (HEa.out _ (below_alloc (Below.refl _ _) _)).mono ?_); rintro e w1 ⟨rfl, hb1⟩))
    have b0 := below_alloc (Below.refl w.heap.size w) (.cells #[.int .i64 0, .int .i64 0, .int .i64 0, .bool false, .bool false, .slice none 0 0] 40)
    have k0 := (Blk.new w 40 #[.int .i64 0, .int .i64 0, .int .i64 0, .bool false, .bool false, .slice none 0 0]).below hb1 (by simp)
    have bb1 := below_then b0 hb1
    have c1 := (HK.out _ bb1).cell 1
    have hq1 := HQ.out _ bb1
    obtain ⟨Aq, cq, hvq, hcq, hrq, e0, _⟩ := hq1.q_at hil
    rw [hw] at hvq hcq hrq e0
    rw [hv0] at hvq
    injection hvq with hvq1 hvq2 hvq3
    clear hvq2 hvq3
    subst hvq1
    rw [List.length_cons] at e0
    have x0 := (bb1.cell (p := ⟨gb, 0, none⟩) hgbl).trans w0
    have x1 := (bb1.cell (p := ⟨gb, 1, none⟩) hgbl).trans w1'
    have x2 := (bb1.cell (p := ⟨gb, 2, none⟩) hgbl).trans w2'
    have x3 := (bb1.cell (p := ⟨gb, 3, none⟩) hgbl).trans w3'
    have x4 := (bb1.cell (p := ⟨gb, 4, none⟩) hgbl).trans w4'
    have x5 := (bb1.cell (p := ⟨gb, 5, none⟩) hgbl).trans w5'
    clear w0 w1' w2' w3' w4' w5' hv0 hrq
    go_upto_region 6 with fail
    have kp := Blk.new w1 40 #[.int .i64 p.st, .int .i64 p.at_, .int .i64 p.ln, .bool p.key, .bool p.hid, .slice Ad p.data.length cd]
    have b2' := below_alloc (Below.refl w1.heap.size w1) (.cells #[.int .i64 p.st, .int .i64 p.at_, .int .i64 p.ln, .bool p.key, .bool p.hid, .slice Ad p.data.length cd] 40)
    generalize w1.alloc (.cells #[.int .i64 p.st, .int .i64 p.at_, .int .i64 p.ln, .bool p.key, .bool p.hid, .slice Ad p.data.length cd] 40) = w2 at *
    have bb2 := below_then bb1 b2'
    have k02 := k0.below b2' k0.lt
    have y1 := kp.cell 1
    clear x0 x1 x2 x3 x4 x5 e0 c1
    have hkp := kp.lt
    go_cut [36] (fun v wc => v = .bool (!go) ∧ Below w2.heap.size w2 wc)
    case first =>
      cases nx with
      | true =>
        have hgo := HGo.out
        rw [Bool.true_or] at hgo
        subst hgo
        go_wp2_with (first
          | (go_at_call 45; (with_reducible refine (HNx'.out _ bb2).mono ?_); rintro e w3 ⟨rfl, hb3⟩))
        go_meet
        exact ⟨rfl, hb3⟩
      | false =>
        have hgo := HGo.out
        rw [Bool.false_or] at hgo
        subst hgo
        go_wp2_with (first
          | (go_at_call 45; (with_reducible refine (HNx'.out _ bb2).mono ?_); rintro e w3 ⟨rfl, hb3⟩; have y3 := (hb3.cell (p := ⟨w1.heap.size, 1, none⟩) hkp).trans y1)
          | (go_at_call 46; (with_reducible refine (HOv'.out _ (below_then bb2 hb3)).mono ?_); rintro e w4 ⟨rfl, hb4⟩))
        go_meet
        exact ⟨rfl, below_then hb3 hb4⟩
    case rest =>
    obtain ⟨rfl, hb3⟩ := hcut
    have bb3 := below_then bb2 hb3
    have k03 := k02.below hb3 k02.lt
    have kp3 := kp.below hb3 hkp
    have hrl := k03.lt
    have g0 := k03.frozen 0
    have g1 := k03.frozen 1
    have g2 := k03.frozen 2
    have g3 := k03.frozen 3
    have g4 := k03.frozen 4
    have g5 := k03.frozen 5
    have u0 := k03.cell 0
    have u1 := k03.cell 1
    have u2 := k03.cell 2
    have u3 := k03.cell 3
    have u4 := k03.cell 4
    have u5 := k03.cell 5
    cases go with
    | false =>
      have hT := HTw.out rfl
      have HT := Lib.hid hT
      clear hT y1
      go_wp2
      have hle := Nat.le_refl w.heap.size
      exact bodyPost_ret (v := .tuple #[pz.val none 0, .bool false]) (by simp [results, Try.results20, go_sem, u0, u1, u2, u3, u4, u5, pz, Pk.val]) rfl (HNo.out _ _ HT.out rfl (below_put (below_put (below_put (below_put (below_put (below_put bb3 hle) hle) hle) hle) hle) hle))
    | true =>
      have hT := HTs.out rfl
      have HT := Lib.hid hT
      clear hT y1 HTw HTs HEa HNx' HOv' HGo HNo
      have hq3 := HQ.out _ bb3
      obtain ⟨Aq3, cq3, hvq3, hcq3, _, e0, _, _, z0, _, _⟩ := hq3.q_at hil
      obtain ⟨cells, ho, hcs⟩ := hq3.own i hil
      rw [hw] at hvq3 hcq3 e0 ho hcs
      rw [hvq3] at ho hcs
      have hrd := Rd.of_own ho
      have h1c := hcs.oneCell PkR.good
      obtain ⟨aq, hAq, _, _⟩ := hrd.addr (by simp)
      subst hAq
      obtain ⟨a', hrun, hrd'⟩ := hrd.slice_some (lo := 1) (c := cq3) Try.underlying49 info_pk (by simp) hcq3
      rw [List.length_cons] at hrun hrd' e0
      simp only [Nat.add_sub_cancel, show ((1 : Nat) : Int) = 1 from rfl, Nat.one_mul] at hrun hrd'
      have hcl := hcs.tail
      have HCl := Lib.hid (sclone_cells (c := cq3 - 1) hrd' (fun u hu => h1c u (List.mem_of_mem_drop hu)) (by omega))
      have HTl := Lib.hid hcl
      have HVq := Lib.hid hvq3
      have HQ3 := Lib.hid hq3
      have hDl := HH.out.Dlt
      have hgql := hq3.Flt _ hq3.gF.1
      have hs3 := bb3.size
      clear hrd hrd' hcs ho hcl h1c hvq3 hq3
      go_upto_region 9 with (first
        | (go_at_call 47; (with_reducible refine HCl.out.mono ?_); rintro e w5 ⟨v5, rfl, ho5, hb5⟩; have hO5 : OwnG PkR 6 40 w5 wc.heap.size D v5 l := ⟨cells.drop 6, ho5, Cells.keep PkR.good (Cells.weak PkR.good HTl.out (S' := fun b => D b ∧ v5.ownBlock ≠ some b) (fun b hb hl => ⟨hb.1, fun e => by have := (World.ownsRow.lt ho5 b e).1; omega⟩)) (M := fun _ => False) (Mod.of_fresh hb5) (fun _ _ _ h => h)⟩; have HO5 := Lib.hid hO5; obtain ⟨A5, c5, rfl, _, _, hob5⟩ := hO5.form PkR.good; have e5 := (hb5.cell (p := ⟨gq, i * 3, none⟩) hgql).trans e0; have z5 : w5.frozen? ⟨gq, i * 3, none⟩ = false := (World.frozen?_of_block (hb5.block gq hgql)).trans z0; clear hO5))
      have hq6 := HQ3.out.put0 hil (w1 := w5) (D' := D) (v := .slice A5 l.length c5) (l := l) (Mod.of_fresh hb5) (HO5.out.base_ (Nat.zero_le _)) (fun b hb => .inr (hob5 b hb).1) (fun _ h => h) (fun b hb => .inl hb)
      have hF3 := HQ3.out.gF
      have hFw := HH.out.Flt
      have hgqw := hFw _ hF3.1
      have hgw := hFw _ hF3.2.1
      have hb5s := hb5.size
      have bb5 := below_then bb3 hb5
      have hs1 := bb1.size
      have kg6 := ((HK.out _ bb3).below hb5 (by omega)).far (p := ⟨gq, i * 3, none⟩) (fun e => hF3.2.2 e.symm) (.slice A5 l.length c5)
      have kp6 := (kp3.below hb5 kp3.lt).far (p := ⟨gq, i * 3, none⟩) (fun e => by have e' : w1.heap.size = gq := e; omega) (.slice A5 l.length c5)
      have k06 := (k03.below hb5 hrl).far (p := ⟨gq, i * 3, none⟩) (fun e => by have e' : w.heap.size = gq := e; omega) (.slice A5 l.length c5)
      have hm6 : Mod F w (w5.setCell ⟨gq, i * 3, none⟩ (.slice A5 l.length c5)) := mod_put (Mod.of_fresh bb5) (fun _ => hF3.1)
      have hF6 : ∀ b, (Value.slice A5 l.length c5).ownBlock = some b → w.heap.size < b := fun b hb => by have := (hob5 b hb).1; omega
      have HF6 := Lib.hid hF6
      clear hrun e0 z0 hF6 g0 g1 g2 g3 g4 g5 u0 u1 u2 u3 u4 u5 hob5
      generalize w5.setCell ⟨gq, i * 3, none⟩ (.slice A5 l.length c5) = w6 at *
      have HQ6 := Lib.hid hq6
      clear hq6
      have x1 := kp6.cell 1
      have c2 := kg6.cell 2
      obtain ⟨la', hla'⟩ : ∃ la' : Int, la' = if p.at_ < s.top then s.late + 1 else s.late := ⟨_, rfl⟩
      have HLa := Lib.hid hla'
      clear hla'
      go_quiet (fail)
      have kp7 := kp6.drewN nq
      have kg7 := kg6.drewN nq
      have k07 := k06.drewN nq
      have hm7 := hm6.drewN nq
      have hq7 := Lib.hid (HQ6.out.drewN nq)
      clear x1 c2 kp6 kg6 k06 hm6
      generalize w6.drewN nq = w7 at *
      have c3 := kg7.cell 3
      have f3 := kg7.frozen 3
      obtain ⟨w9, hw9⟩ : ∃ w9 : World, w9 = w7 := ⟨_, rfl⟩
      have HW9 := Lib.hid hw9
      clear hw9
      go_upto_if 53 with (fail)
      go_cut [5] (fun v wc => v = .pointer (some ⟨gq, i * 3, none⟩) ∧ Blk wc g 85 #[.int .i64 s.most, .slice (some ⟨gq, 0, none⟩) s.qs.length s.qs.length, .int .i64 s.top, .int .i64 la'] ∧ Mod (· = g) w7 wc)
      case first =>
        by_cases hlt : p.at_ < s.top
        · have hla := HLa.out.trans (if_pos hlt)
          subst hla
          go_wp2
          go_meet
          exact ⟨rfl, kg7.set_ 3 _, mod_put (Mod.refl _ _) (fun _ => rfl)⟩
        · have hla := HLa.out.trans (if_neg hlt)
          subst hla
          have hlt' : decide (p.at_ < s.top) = false := decide_eq_false hlt
          go_wp2
          go_meet
          exact ⟨rfl, kg7, Mod.refl _ _⟩
      case rest =>
      obtain ⟨rfl, kg8, hm78⟩ := hcut
      have hgx : ¬ w1.heap.size = g := fun e => by omega
      have hgr : ¬ w.heap.size = g := fun e => by omega
      have kp8 := kp7.mod hm78 hgx
      have k08 := k07.mod hm78 hgr
      have hq8 := hq7.out.exMod hm78
      have hm8 := hm7.then_ (hm78.mono (fun b hb _ => (by subst hb; exact hF3.2.1)))
      clear c3 f3 kp7 kg7 k07
      obtain ⟨mx, hmx⟩ : ∃ mx : Int, mx = max s.top p.at_ := ⟨_, rfl⟩
      have HMx := Lib.hid hmx
      clear hmx
      have c2 := kg8.cell 2
      have f2 := kg8.frozen 2
      have x1 := kp8.cell 1
      go_upto_region 11 with fail
      refine wp_region_last (S := (fun w' => w'.cell? ⟨g, 2, none⟩ = some (.int .i64 s.top) ∧ w'.cell? ⟨w1.heap.size, 1, none⟩ = some (.int .i64 p.at_))) 10 _ (by simp only [List.pop_toArray, List.dropLast_cons_cons, List.dropLast_singleton]; rfl) (by kernel_rfl) (by kernel_rfl) (by kernel_rfl) (by kernel_rfl) (by kernel_rfl) ?_ (fun hHeld => ?_)
      focus exact ⟨c2, x1⟩
      refine wpAnyH_take (i := 0) (v := ?_) rfl (by kernel_rfl) (by kernel_rfl) (by kernel_rfl) (fun _ _ _ h => h) (Or.inl ⟨by kernel_rfl, ?_⟩) (by assumption) ?_
      rotate_left
      focus
        intro w9 hSw
        (try dsimp only at hSw)
        go_simp
        (try with_reducible rfl)
      (try simp only [Act.put, List.getElem_toArray, List.getElem_cons_succ, List.getElem_cons_zero, List.setIfInBounds_toArray, List.set_cons_zero, List.set_cons_succ])
      refine wpAnyH_take (i := 1) (v := ?_) rfl (by kernel_rfl) (by kernel_rfl) (by kernel_rfl) (fun _ _ _ h => h) (Or.inl ⟨by kernel_rfl, ?_⟩) (by assumption) ?_
      rotate_left
      focus
        intro w9 hSw
        (try dsimp only at hSw)
        go_simp
        (try with_reducible rfl)
      (try simp only [Act.put, List.getElem_toArray, List.getElem_cons_succ, List.getElem_cons_zero, List.setIfInBounds_toArray, List.set_cons_zero, List.set_cons_succ])
      refine wpAnyH_take (i := 2) (v := ?_) rfl (by kernel_rfl) (by kernel_rfl) (by kernel_rfl) (fun _ _ _ h => h) (Or.inl ⟨by kernel_rfl, ?_⟩) (by assumption) ?_
      rotate_left
      focus
        intro w9 hSw
        (try dsimp only at hSw)
        go_simp
        (try with_reducible rfl)
      (try simp only [Act.put, List.getElem_toArray, List.getElem_cons_succ, List.getElem_cons_zero, List.setIfInBounds_toArray, List.set_cons_zero, List.set_cons_succ])
      refine wpAnyH_take (i := 3) (v := ?_) rfl (by kernel_rfl) (by kernel_rfl) (by kernel_rfl) (fun _ _ _ h => h) (Or.inl ⟨by kernel_rfl, ?_⟩) (by assumption) ?_
      rotate_left
      focus
        intro w9 hSw
        (try dsimp only at hSw)
        go_simp
        (try with_reducible rfl)
      (try simp only [Act.put, List.getElem_toArray, List.getElem_cons_succ, List.getElem_cons_zero, List.setIfInBounds_toArray, List.set_cons_zero, List.set_cons_succ])
      refine wpAnyH_take (i := 4) (v := ?_) rfl (by kernel_rfl) (by kernel_rfl) (by kernel_rfl) (fun _ _ _ h => h) (Or.inl ⟨by kernel_rfl, ?_⟩) (by assumption) ?_
      rotate_left
      focus
        intro w9 hSw
        (try dsimp only at hSw)
        go_simp
        (try with_reducible rfl)
      (try simp only [Act.put, List.getElem_toArray, List.getElem_cons_succ, List.getElem_cons_zero, List.setIfInBounds_toArray, List.set_cons_zero, List.set_cons_succ])
      refine wpAnyH_take (i := 5) (v := ?_) rfl (by kernel_rfl) (by kernel_rfl) (by kernel_rfl) (fun _ _ _ h => h) (Or.inl ⟨by kernel_rfl, ?_⟩) (by assumption) ?_
      rotate_left
      focus
        intro w9 hSw
        (try dsimp only at hSw)
        go_simp
        (try with_reducible rfl)
      (try simp only [Act.put, List.getElem_toArray, List.getElem_cons_succ, List.getElem_cons_zero, List.setIfInBounds_toArray, List.set_cons_zero, List.set_cons_succ])
      refine wpAnyH_take (i := 6) (v := ?_) rfl (by kernel_rfl) (by kernel_rfl) (by kernel_rfl) (fun _ _ _ h => h) (Or.inl ⟨by kernel_rfl, ?_⟩) (by assumption) ?_
      rotate_left
      focus
        intro w9 hSw
        (try dsimp only at hSw)
        go_simp
        (try with_reducible rfl)
      (try simp only [Act.put, List.getElem_toArray, List.getElem_cons_succ, List.getElem_cons_zero, List.setIfInBounds_toArray, List.set_cons_zero, List.set_cons_succ])
      refine wpAnyH_take (i := 7) (v := ?_) rfl (by kernel_rfl) (by kernel_rfl) (by kernel_rfl) (fun _ _ _ h => h) (Or.inl ⟨by kernel_rfl, ?_⟩) (by assumption) ?_
      rotate_left
      focus
        intro w9 hSw
        (try dsimp only at hSw)
        go_simp
        (try with_reducible rfl)
      (try simp only [Act.put, List.getElem_toArray, List.getElem_cons_succ, List.getElem_cons_zero, List.setIfInBounds_toArray, List.set_cons_zero, List.set_cons_succ])
      refine wpAnyH_take (i := 8) (v := ?_) rfl (by kernel_rfl) (by kernel_rfl) (by kernel_rfl) (fun _ _ _ h => h) (Or.inl ⟨by kernel_rfl, ?_⟩) (by assumption) ?_
      rotate_left
      focus
        intro w9 hSw
        (try dsimp only at hSw)
        go_simp
        (try with_reducible rfl)
      (try simp only [Act.put, List.getElem_toArray, List.getElem_cons_succ, List.getElem_cons_zero, List.setIfInBounds_toArray, List.set_cons_zero, List.set_cons_succ])
      refine wpAnyH_take (i := 9) (v := ?_) rfl (by kernel_rfl) (by kernel_rfl) (by kernel_rfl) (fun _ _ _ h => h) (Or.inl ⟨by kernel_rfl, ?_⟩) (by assumption) ?_
      rotate_left
      focus
        intro w9 hSw
        (try dsimp only at hSw)
        go_simp
        (try with_reducible rfl)
      (try simp only [Act.put, List.getElem_toArray, List.getElem_cons_succ, List.getElem_cons_zero, List.setIfInBounds_toArray, List.set_cons_zero, List.set_cons_succ])
      refine wpAnyH_done (by kernel_rfl) (lastQ_step rfl (fun K hK => ?_)) _
      go_simp
      refine hK _ _ ?_
      clear hK K
      have hmx : (if s.top < p.at_ then p.at_ else s.top) = max s.top p.at_ := by split <;> omega
      rw [hmx]
      have hmA0 : Mod (· = g) wc (wc.setCell ⟨g, 2, none⟩ (.int .i64 (max s.top p.at_))) := mod_put (Mod.refl _ _) (fun _ => rfl)
      have hmA := hmA0.drew
      clear hmA0
      have kgA : Blk (wc.setCell ⟨g, 2, none⟩ (.int .i64 (max s.top p.at_))).drew g 85 #[.int .i64 s.most, .slice (some ⟨gq, 0, none⟩) s.qs.length s.qs.length, .int .i64 (max s.top p.at_), .int .i64 la'] := kg8.set_ 2 _
      clear hmx c2 f2 x1
      have kpA := kp8.mod hmA hgx
      have k0A := k08.mod hmA hgr
      have hqA := hq8.exMod hmA
      have hmB := hm8.then_ (hmA.mono (fun b hb _ => (by subst hb; exact hF3.2.1)))
      generalize (wc.setCell ⟨g, 2, none⟩ (.int .i64 (max s.top p.at_))).drew = wA at *
      have x0 := kpA.cell 0
      have x1 := kpA.cell 1
      have x2 := kpA.cell 2
      have x3 := kpA.cell 3
      have x4 := kpA.cell 4
      have x5 := kpA.cell 5
      have g0 := k0A.frozen 0
      have g1 := k0A.frozen 1
      have g2 := k0A.frozen 2
      have g3 := k0A.frozen 3
      have g4 := k0A.frozen 4
      have g5 := k0A.frozen 5
      have u0 := k0A.cell 0
      have u1 := k0A.cell 1
      have u2 := k0A.cell 2
      have u3 := k0A.cell 3
      have u4 := k0A.cell 4
      have u5 := k0A.cell 5
      go_wp2
      have hmZ : Mod (· = w.heap.size) wA ((((((wA.setCell ⟨w.heap.size, 0, none⟩ (.int .i64 p.st)).setCell ⟨w.heap.size, 1, none⟩ (.int .i64 p.at_)).setCell ⟨w.heap.size, 2, none⟩ (.int .i64 p.ln)).setCell ⟨w.heap.size, 3, none⟩ (.bool p.key)).setCell ⟨w.heap.size, 4, none⟩ (.bool p.hid)).setCell ⟨w.heap.size, 5, none⟩ (.slice Ad p.data.length cd)) :=
        mod_put (mod_put (mod_put (mod_put (mod_put (mod_put (Mod.refl _ _) (fun _ => rfl)) (fun _ => rfl)) (fun _ => rfl)) (fun _ => rfl)) (fun _ => rfl)) (fun _ => rfl)
      have hmF : Mod F w ((((((wA.setCell ⟨w.heap.size, 0, none⟩ (.int .i64 p.st)).setCell ⟨w.heap.size, 1, none⟩ (.int .i64 p.at_)).setCell ⟨w.heap.size, 2, none⟩ (.int .i64 p.ln)).setCell ⟨w.heap.size, 3, none⟩ (.bool p.key)).setCell ⟨w.heap.size, 4, none⟩ (.bool p.hid)).setCell ⟨w.heap.size, 5, none⟩ (.slice Ad p.data.length cd)) :=
        hmB.trans hmZ (fun b hb hl => by have h9 : b = w.heap.size := hb; omega)
      refine bodyPost_ret (v := .tuple #[p.val Ad cd, .bool true]) (by simp [results, Try.results20, go_sem, u0, u1, u2, u3, u4, u5, Pk.val]) rfl ⟨fun b => F b ∨ (Value.slice A5 l.length c5).ownBlock = some b, Ad, cd, ?_, ⟨gq, vs.set i (.slice A5 l.length c5), ?_, ?_, HTo.out⟩, fun b hb => .inl hb, fun b hb => ?_, hmF, ?_, ?_, ?_⟩
      · rw [HT.out]; rfl
      · rw [HT.out, ← HLa.out]; simpa [List.length_set] using kgA.mod hmZ (fun e => hgr e.symm)
      · rw [HT.out]
        exact hqA.keep hmZ (fun b hb h9 => by
          have h9' : b = w.heap.size := h9
          rcases hb with hb | hb
          · have := hFw b hb; omega
          · have := HF6.out b hb; omega) (fun b hb h9 => by have h9' : b = w.heap.size := h9; have := (hDl b hb).1; omega)
      · rcases hb with hb | hb
        · exact .inl hb
        · right; have := HF6.out b hb; omega
      · rw [HT.out]; exact hRd.keep hmF (fun b hb _ => (hDl b hb).2)
      · rw [HT.out]; exact hcd
      · rw [HT.out]; exact hwf
end Go.Proofs.Ytnflhogjonlnmaa
