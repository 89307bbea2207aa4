/- mend.Mend. -/
import Derived.Test.YtdnkdjaokmibjaaMdMm
import Derived.Test.YtdnkdjaokmibjaaMdHo
import Derived.Test.YtdnkdjaokmibjaaMdSort
set_option linter.unusedSimpArgs false
set_option linter.unusedVariables false
namespace Go.Proofs.Ytdnkdjaokmibjaa
open Go.RowKit

theorem mendF_bad {st : List Pg × List Pg × Int} {p : Pg} (h : pgOk p = false) : mendF st p = st := by rw [mendF, if_pos h]
theorem mendF_g1 {st : List Pg × List Pg × Int} {p : Pg} (h : pgOk p = true) (hg : p.guard = true) (h2 : isG p = true) : mendF st p = (st.1, st.2.1 ++ [p], max st.2.2 (p.seq + p.body.getD 0 0 - 1)) := by
  rw [mendF, if_neg (by rw [h]; simp), if_pos hg, if_pos h2]
theorem mendF_g0 {st : List Pg × List Pg × Int} {p : Pg} (h : pgOk p = true) (hg : p.guard = true) (h2 : isG p = false) : mendF st p = st := by
  rw [mendF, if_neg (by rw [h]; simp), if_pos hg, if_neg (by rw [h2]; simp)]
theorem mendF_had {st : List Pg × List Pg × Int} {p : Pg} (h : pgOk p = true) (hg : p.guard = false) (h2 : (hasS st.1 p.seq).isSome = true) : mendF st p = st := by
  rw [mendF, if_neg (by rw [h]; simp), if_neg (by rw [hg]; simp), if_pos h2]
theorem mendF_new {st : List Pg × List Pg × Int} {p : Pg} (h : pgOk p = true) (hg : p.guard = false) (h2 : hasS st.1 p.seq = none) : mendF st p = (st.1 ++ [p], st.2.1, max st.2.2 p.seq) := by
  rw [mendF, if_neg (by rw [h]; simp), if_neg (by rw [hg]; simp), if_neg (by rw [h2]; simp)]

set_option maxHeartbeats 16000000 in
set_option maxRecDepth 100000 in
theorem mend_any {l : List Pg} {A : Option Addr} {c : Nat} {S : Nat → Prop} {w : World} (hr : RdPg w S A l) (hl : l.length ≤ 1000000) :
    Calls Try.prog 12 #[.slice A l.length c] w fun e w' => ∃ v v2 ys, e = .returned (.tuple #[v, v2]) ∧ ys.Perm (mendO l) ∧ ys.Pairwise (fun a b => a.seq ≤ b.seq) ∧ OwnG PgR 5 33 w' w.heap.size (fun x => x < w'.heap.size) v ys ∧
      OwnG HoR 2 41 w' w.heap.size (fun x => x < w'.heap.size) v2 (holesP ys (mendT l)) ∧ Below w.heap.size w w' := by
  have hr := hr.weak PgR.good (S' := fun b => b < w.heap.size) (fun b _ h => h)
  have HR := Lib.hid (fun W (h : Below w.heap.size w W) => hr.below PgR.good h)
  have HLen := Lib.hid (fun i => (mendA_len (l.take i)))
  have HTop := Lib.hid (fun i => (mendA_top (l.take i)))
  have HKept := Lib.hid (fun i => (mendA_kept (l.take i)))
  clear hr
  have hmk := fun W => run_makeMap (P := Try.prog) 71 W
  go_enter Try.func12, Try.ntmps12
  go_wp2
  clear hmk
  have hM0 : MdM w (w.alloc (.map #[] 0)) w.heap.size w.heap.size (.slice none 0 0) (.slice none 0 0) [] [] [] (fun x => x < w.heap.size) :=
    { old := below_alloc (Below.refl _ _) _
      base := by simp
      bB := Nat.le_refl _
      map := MapPg.made _ _
      og := OwnG.nil_ _ _ _ _ _ _
      oo := OwnG.nil_ _ _ _ _ _ _
      dx := fun x hx => ⟨by simp; omega, by omega, by simp [Value.ownBlock], by simp [Value.ownBlock]⟩
      gb := by simp [Value.ownBlock]
      ob := by simp [Value.ownBlock]
      go := fun x hx => by simp [Value.ownBlock] at hx }
  go_loopw [5, 6, 7, 22] (fun gv ov tv iv wr => ∃ (i : Nat) (D : Nat → Prop), i ≤ l.length ∧ iv = .int .i64 i ∧ tv = .int .i64 (mendA (l.take i)).2.2 ∧ (∀ x, x < w.heap.size → D x) ∧ MdM w wr w.heap.size w.heap.size gv ov (mendA (l.take i)).1 (mendA (l.take i)).2.1 (mendA (l.take i)).1 D) (fun _ _ _ iv _ => l.length - (intOf iv).toNat)
  case atStart => exact ⟨0, _, Nat.zero_le _, rfl, rfl, fun x hx => hx, hM0⟩
  case round =>
    obtain ⟨i, D, hi, rfl, rfl, hD, hM⟩ := hrel
    have HM := Lib.hid hM
    have hbr := hM.old
    have hszr := hbr.size
    have hbl := hM.map.lt
    have hlen1 := (HLen.out i).1
    have hlen2 := (HLen.out i).2
    have hli : (l.take i).length ≤ 1000000 := by rw [List.length_take]; omega
    obtain ⟨ht0, ht1⟩ := HTop.out i
    by_cases hlt : i < l.length
    · obtain ⟨ad, p, Aj, cj, rfl, _, hp, e0, e1, e2, e3, e4, hcj, hrj, hwj⟩ := RdPg.at_ (HR.out _ hbr) hlt
      have HT := Lib.hid (show mendA (l.take (i + 1)) = mendF (mendA (l.take i)) l[i] by rw [List.take_succ_eq_append_getElem hlt, mendA_snoc])
      have hk1 := Lib.hid (HKept.out i)
      generalize mendA (l.take i) = st at *
      obtain ⟨so, sg, stp⟩ := st
      simp only at hlen1 hlen2 ht0 ht1 hM
      have HLk := Lib.hid (hM.map.look hwj.seq)
      have HAc := fun W (hb : Below wr.heap.size wr W) => accepted_any l[i] Aj cj hwj W ((RdS.top hrj).below hb (Nat.le_refl _) |>.more hb.size)
      have HIg := fun W (hb : Below wr.heap.size wr W) => isguard_any l[i] Aj cj hwj W ((RdS.top hrj).below hb (Nat.le_refl _) |>.more hb.size)
      have HRj := Lib.hid hrj
      have HWf := Lib.hid hwj
      have HBd := Lib.hid (fun (h : pgOk l[i] = true) => pgOk_len h)
      have HSq := Lib.hid (fun (h : pgOk l[i] = true) => pgOk_seqM h)
      have HF0 := Lib.hid (fun (h : pgOk l[i] = false) => mendF_bad (st := (so, sg, stp)) (p := l[i]) h)
      have HF1 := Lib.hid (fun (h : pgOk l[i] = true) (h1 : l[i].guard = true) (h2 : isG l[i] = true) => mendF_g1 (st := (so, sg, stp)) (p := l[i]) h h1 h2)
      have HF2 := Lib.hid (fun (h : pgOk l[i] = true) (h1 : l[i].guard = true) (h2 : isG l[i] = false) => mendF_g0 (st := (so, sg, stp)) (p := l[i]) h h1 h2)
      have HF3 := Lib.hid (fun (h : pgOk l[i] = true) (h1 : l[i].guard = false) (h2 : (hasS so l[i].seq).isSome = true) => mendF_had (st := (so, sg, stp)) (p := l[i]) h h1 h2)
      have HF4 := Lib.hid (fun (h : pgOk l[i] = true) (h1 : l[i].guard = false) (h2 : hasS so l[i].seq = none) => mendF_new (st := (so, sg, stp)) (p := l[i]) h h1 h2)
      have HIb := Lib.hid (fun (h : isG l[i] = true) => isG_bd (p := l[i]) h)
      generalize mendF (so, sg, stp) l[i] = sn at *
      generalize l[i] = q at *
      generalize pgOk q = OK at *
      generalize isG q = IG at *
      obtain ⟨q1, q2, q3, q4, q5⟩ := q
      simp only [Pg.val] at HAc HIg e0 e1 e2 e3 e4 HLk hcj HBd HSq HF1 HF2 HF3 HF4 HIb
      replace HAc := Lib.hid HAc
      replace HIg := Lib.hid HIg
      clear hrj hwj hM
      go_upto_region 7 with fail
      have bx : Below wr.heap.size wr (wr.alloc (.cells #[.int .i64 q1, .bool q2, .bool q3, .bool q4, .slice Aj q5.length cj] 33)) := below_alloc (Below.refl _ _) _
      have kx := Blk.new wr 33 #[.int .i64 q1, .bool q2, .bool q3, .bool q4, .slice Aj q5.length cj]
      generalize wr.alloc (.cells #[.int .i64 q1, .bool q2, .bool q3, .bool q4, .slice Aj q5.length cj] 33) = wx at *
      have hkl := kx.lt
      have x0 := kx.cell 0
      have x1 := kx.cell 1
      have x2 := kx.cell 2
      have x3 := kx.cell 3
      have x4 := kx.cell 4
      clear e0 e1 e2 e3 e4
      cases OK
      · have HN := Lib.hid (HF0.out (by first | rfl | trivial))
        clear HF0 HF1 HF2 HF3 HF4
        go_wp2_with (first
          | (go_at_call 30; (with_reducible refine (HAc.out _ bx).mono ?_); rintro e w2 ⟨rfl, hb2⟩))
        have hm2 := HM.out.fresh (bx.trans (hb2.mono bx.size))
        go_roundw
        case rel => exact ⟨i + 1, D, by omega, by go_num, by rw [HT.out, HN.out], hD, by rw [HT.out, HN.out]; exact hm2⟩
        case measure => simp [intOf]; omega
      · go_upto_region 8 with (first
          | (go_at_call 30; (with_reducible refine (HAc.out _ bx).mono ?_); rintro e w2 ⟨rfl, hb2⟩))
        have b2 := bx.trans (hb2.mono bx.size)
        have k2 := kx.below hb2 hkl
        have hm2 := HM.out.fresh b2
        have hs2 := b2.size
        clear x0 x1 x2 x3 x4
        have x0 := k2.cell 0
        have x1 := k2.cell 1
        have x2 := k2.cell 2
        have x3 := k2.cell 3
        have x4 := k2.cell 4
        cases q4
        · obtain ⟨hq0, hq1⟩ := HSq.out (by first | rfl | trivial)
          have hq5l := HBd.out (by first | rfl | trivial)
          have heap2 : w2.heap[w.heap.size]? = wr.heap[w.heap.size]? := b2.block _ hbl
          rcases HLk.out with ⟨j, hj, cs, hjs, ⟨Ax, cx, rfl, hcx, hrx, hwx⟩, hlk⟩ | ⟨hne, hlk⟩
          · have hlk2 : (Instr.lookup 71 (.map (some w.heap.size)) (.int .i64 q1) true).run Try.prog w2 = .ok (.tuple #[.agg #[.int .i64 so[j].seq, .bool so[j].first, .bool so[j].last, .bool so[j].guard, .slice Ax so[j].body.length cx], .bool true]) w2 := hlk w2 heap2
            have HN := Lib.hid (HF3.out (by first | rfl | trivial) (by first | rfl | trivial) (by have := hk1.out.dif.has hj; rw [hjs] at this; rw [this]; rfl))
            clear hlk hjs
            generalize so[j] = u at *
            obtain ⟨t1, t2, t3, t4, t5⟩ := u
            simp only at hlk2
            go_wp2
            have hm3 := hm2.fresh (below_alloc (Below.refl w2.heap.size w2) (.cells #[.int .i64 t1, .bool t2, .bool t3, .bool t4, .slice Ax t5.length cx] 33))
            go_roundw
            case rel => exact ⟨i + 1, D, by omega, by go_num, by rw [HT.out, HN.out], hD, by rw [HT.out, HN.out]; exact hm3⟩
            case measure => simp [intOf]; omega
          · have hlk2 := hlk w2 heap2
            have hno := hasS_none.2 hne
            have HN := Lib.hid (HF4.out (by first | rfl | trivial) (by first | rfl | trivial) hno)
            have HNe := Lib.hid hne
            clear hlk hne hno
            go_upto_region 13 with fail
            have b3 : Below w2.heap.size w2 (w2.alloc (.cells #[.int .i64 0, .bool false, .bool false, .bool false, .slice none 0 0] 33)) := below_alloc (Below.refl _ _) _
            generalize w2.alloc (.cells #[.int .i64 0, .bool false, .bool false, .bool false, .slice none 0 0] 33) = w3 at *
            have hm3 := hm2.fresh b3
            have k3 := k2.below b3 k2.lt
            clear x0 x1 x2 x3 x4 hlk2
            have x0 := k3.cell 0
            have x1 := k3.cell 1
            have x2 := k3.cell 2
            have x3 := k3.cell 3
            have x4 := k3.cell 4
            have b03 := b2.trans (b3.mono b2.size)
            have hs3 := b03.size
            have hr3 := HRj.out.keep (Mod.of_fresh (M := fun _ => False) b03) (fun _ _ _ h => h)
            have hmx : (if stp < q1 then q1 else stp) = max stp q1 := by split <;> omega
            have hdb : ¬ D w.heap.size := fun h => (hm3.dx _ h).2.1 rfl
            obtain ⟨A0, c0, rfl, hc0, _, hob0⟩ := HM.out.oo.form PgR.good
            go_upto_region 15 with (first
              | (at_mapUpdate; (refine wpList_put_pg rfl (.tmp 56) (.tmp 58) (.tmp 59) rfl (b := w.heap.size) (S := D) (l := so) rfl ⟨q1, q2, q3, false, q5⟩ [.int .i64 q1, .bool q2, .bool q3, .bool false, .slice Aj q5.length cj] rfl rfl hm3.map hdb (show PgR _ _ _ _ from ⟨Aj, cj, rfl, hcj, hr3.weak (fun x hx _ => hD x hx), HWf.out⟩) HNe.out ?_); intro w4 hmp hg4))
            have hm4 := hm3.put_ hmp hg4
            have k4 := k3.grown hg4 (by intro e; injection e with e; omega)
            clear x0 x1 x2 x3 x4 hm3 hm2
            have x0 := k4.cell 0
            have x1 := k4.cell 1
            have x2 := k4.cell 2
            have x3 := k4.cell 3
            have x4 := k4.cell 4
            have hr4 := hr3.keep (Mod.of_only (M := (· = w.heap.size)) hg4 (fun _ => rfl)) (fun x hx _ e => by have h' : x < w.heap.size := hx; have e' : x = w.heap.size := e; omega)
            have hs4 := hg4.size
            have HC := copied_any ⟨q1, q2, q3, false, q5⟩ Aj cj HWf.out (by simp only; omega) w4 (RdS.top hr4)
            simp only [Pg.val] at HC
            replace HC := Lib.hid HC
            go_upto_region 16 with (first
              | (go_at_call 31; (with_reducible refine HC.out.mono ?_); rintro e w5 ⟨A5, c5, rfl, ho5, hb5⟩; have hs5 := hb5.size; obtain ⟨_, hc5, hr5⟩ := ho5.rds; have hm5 := hm4.more hb5; have hrx5 : RdS w5 (fun x => w4.heap.size ≤ x ∧ x < w5.heap.size) .u8 A5 q5 := hr5.weak (fun x hx _ => ⟨hx.1, hx.2.1⟩))
              | (at_builtin; (refine wpList_push_G (v := .slice A0 so.length c0) rfl (.tmp 60) (.tmp 63) _ rfl PgR.good w5 (.agg #[.int .i64 0, .bool false, .bool false, .bool false, .slice none 0 0]) 40 Try.underlying23 info_pg rfl (by omega) rfl hm5.oo (fun x => w4.heap.size ≤ x ∧ x < w5.heap.size) _ 1 [.int .i64 q1, .bool q2, .bool q3, .bool false, .slice A5 q5.length c5] ⟨q1, q2, q3, false, q5⟩ rfl rfl (show PgR _ _ _ _ from ⟨A5, c5, rfl, hc5, hrx5, HWf.out⟩) (fun x => (D x ∨ (w4.heap.size ≤ x ∧ x < w5.heap.size)) ∨ x = w5.heap.size) (fun x hx _ => .inl hx) (fun x hx _ => .inl (.inr hx)) (fun x hx h => by have := (hob0 x hx).2; have h' := h.1; omega) (fun x hx => by rcases hx with hx | hx; have := (hm5.dx x hx).1; omega; omega) (.inr rfl) (by omega) hm5.base ?_); intro v7 w7 ow7 hg7 hv7))
            have hm7 := hm5.push_o ow7 hg7 hv7
            have k7 := (k4.below hb5 k4.lt).grown (World.grownBy.trans (World.grownBy_alloc w5 _ _) hg7) (by intro e; have := (hob0 _ e.symm).2; omega)
            clear x0 x1 x2 x3 x4
            have x0 := k7.cell 0
            go_wp2
            go_roundw
            case rel => exact ⟨i + 1, (fun x => (D x ∨ (w4.heap.size ≤ x ∧ x < w5.heap.size)) ∨ x = w5.heap.size), by omega, by go_num, by rw [HT.out, HN.out], fun x hx => .inl (.inl (hD x hx)), by rw [HT.out, HN.out]; exact hm7⟩
            case measure => simp [intOf]; omega
        · cases IG
          · have HN := Lib.hid (HF2.out (by first | rfl | trivial) (by first | rfl | trivial) (by first | rfl | trivial))
            go_wp2_with (first
              | (go_at_call 33; (with_reducible refine (HIg.out _ b2).mono ?_); rintro e w3 ⟨rfl, hb3⟩))
            have hm3 := hm2.fresh hb3
            go_roundw
            case rel => exact ⟨i + 1, D, by omega, by go_num, by rw [HT.out, HN.out], hD, by rw [HT.out, HN.out]; exact hm3⟩
            case measure => simp [intOf]; omega
          · have HN := Lib.hid (HF1.out (by first | rfl | trivial) (by first | rfl | trivial) (by first | rfl | trivial))
            obtain ⟨hb3, hb4, hb5⟩ := HIb.out (by first | rfl | trivial)
            obtain ⟨hq0, hq1⟩ := HSq.out (by first | rfl | trivial)
            have hq5 : 0 < q5.length := by omega
            have hr2 := HRj.out.keep (Mod.of_fresh (M := fun _ => False) b2) (fun _ _ _ h => h)
            obtain ⟨aj, rfl, haj, z0⟩ := (hr2.rdI (B := w.heap.size) (fun x h _ => h)).at_ (j := 0) hq5
            have hajb : aj.block < w.heap.size := haj
            have hmx : (if stp < q1 + q5.getD 0 0 - 1 then q1 + q5.getD 0 0 - 1 else stp) = max stp (q1 + q5.getD 0 0 - 1) := by split <;> omega
            generalize q5.getD 0 0 = y at *
            have hwa : IntKind.i64.wrap (q1 + y) = q1 + y := IntWalk.i64_in _ (by omega)
            have hwb : IntKind.i64.wrap (q1 + y - 1) = q1 + y - 1 := IntWalk.i64_in _ (by omega)
            go_upto_region 10 with (first
              | (go_at_call 33; (with_reducible refine (HIg.out _ b2).mono ?_); rintro e w3 ⟨rfl, hb3⟩))
            have hm3 := hm2.fresh hb3
            have k3 := k2.below hb3 k2.lt
            have z3 : w3.cell? aj = some (.int .u8 y) := (hb3.cell (show aj.block < w2.heap.size by omega)).trans z0
            have hs3 := hb3.size
            clear x0 x1 x2 x3 x4 z0
            have x0 := k3.cell 0
            have x1 := k3.cell 1
            have x2 := k3.cell 2
            have x3 := k3.cell 3
            have x4 := k3.cell 4
            have hr3 := hr2.keep (Mod.of_fresh (M := fun _ => False) hb3) (fun _ _ _ h => h)
            obtain ⟨A0, c0, rfl, hc0, _, hob0⟩ := HM.out.og.form PgR.good
            go_upto_region 11 with (first
              | (at_builtin; (refine wpList_push_G (v := .slice A0 sg.length c0) rfl (.tmp 33) (.tmp 35) _ rfl PgR.good w3 (.agg #[.int .i64 0, .bool false, .bool false, .bool false, .slice none 0 0]) 40 Try.underlying23 info_pg rfl (by omega) rfl hm3.og (fun x => x < w.heap.size) _ 1 [.int .i64 q1, .bool q2, .bool q3, .bool true, .slice (some aj) q5.length cj] ⟨q1, q2, q3, true, q5⟩ rfl rfl (show PgR _ _ _ _ from ⟨some aj, cj, rfl, hcj, hr3, HWf.out⟩) (fun x => D x ∨ x = w3.heap.size) (fun x hx _ => .inl hx) (fun x hx _ => .inl (hD x hx)) (fun x hx h => by have := (hob0 x hx).1; have h' : x < w.heap.size := h; omega) (fun x hx => by rcases hx with hx | hx; have := (hm3.dx x hx).1; omega; omega) (.inr rfl) (by omega) hm3.base ?_); intro v7 w7 ow7 hg7 hv7))
            have hm7 := hm3.push_g ow7 hg7 hv7
            have k7 := k3.grown (World.grownBy.trans (World.grownBy_alloc w3 _ _) hg7) (by intro e; have := hob0 _ e.symm; omega)
            have z7 : w7.cell? aj = some (.int .u8 y) := by
              refine (World.cell?_of_block ((only_trans (only_alloc (only_refl w3 _) _) hg7).block aj.block (by omega) (fun e => by have := (hob0 _ e.symm).1; omega))).trans z3
            clear x0 x1 x2 x3 x4
            have x0 := k7.cell 0
            have x4 := k7.cell 4
            go_quiet (fail)
            have hm8 := hm7.fresh (below_drewN (Below.refl w7.heap.size w7) nq)
            go_wp2
            go_roundw
            case rel => exact ⟨i + 1, (fun x => D x ∨ x = w3.heap.size), by omega, by go_num, by rw [HT.out, HN.out], fun x hx => .inl (hD x hx), by rw [HT.out, HN.out]; exact hm8⟩
            case measure => simp [intOf]; omega
    · have hil : i = l.length := by omega
      subst hil
      simp only [List.take_length] at hlen1 hlen2 ht0 ht1 hM
      have HM := Lib.hid hM
      have HKp := Lib.hid (mendA_kept l)
      have HGd := Lib.hid (mendA_guards l)
      have HMO := Lib.hid (show mendO l = (mendA l).2.1.foldl backF (mendA l).1 from rfl)
      have HMT := Lib.hid (show mendT l = (mendA l).2.2 from rfl)
      rw [List.take_length]
      clear HLen HTop HKept hM
      generalize mendA l = st at *
      obtain ⟨so, sg, stp⟩ := st
      simp only at hlen1 hlen2 ht0 ht1
      obtain ⟨A1, c1, rfl, hc1, _, hob1⟩ := HM.out.og.form PgR.good
      have HBk := Lib.hid (fun i => back_kept (sg.take i) HKp.out)
      have HBl := Lib.hid (fun i => back_len (sg.take i) so)
      obtain ⟨w1, rfl⟩ : ∃ w1 : World, w1 = wr := ⟨_, rfl⟩
      go_wp2
      go_loopw [6, 72] (fun ov iv wr => ∃ (i : Nat) (D : Nat → Prop), i ≤ sg.length ∧ iv = .int .i64 i ∧ (∀ x, x < w.heap.size → D x) ∧ MdM w wr w.heap.size w.heap.size (.slice A1 sg.length c1) ov ((sg.take i).foldl backF so) sg ((sg.take i).foldl backF so) D) (fun _ iv _ => sg.length - (intOf iv).toNat)
      case atStart => exact ⟨0, D, Nat.zero_le _, rfl, hD, HM.out⟩
      case round =>
        obtain ⟨i, D2, hi, rfl, hD2, hM⟩ := hrel
        have HM2 := Lib.hid hM
        have hbr := hM.old
        have hszr := hbr.size
        have hbl := hM.map.lt
        have hkp := Lib.hid (HBk.out i)
        have hol := HBl.out i
        have hli : (sg.take i).length ≤ 1000000 := by rw [List.length_take]; omega
        by_cases hlt : i < sg.length
        · obtain ⟨Ax, cx, hv, hcx, hrg⟩ := hM.og.reads PgR.good (S := fun x => x < wr.heap.size) (fun x _ h => h)
          simp only [Value.slice.injEq] at hv
          obtain ⟨rfl, hz, rfl⟩ := hv
          clear hz
          obtain ⟨ad, p, Aj, cj, rfl, _, hp, e0, e1, e2, e3, e4, hcj, hrj, hwj⟩ := RdPg.at_ hrg hlt
          obtain ⟨hgo, hgg⟩ := HGd.out.ok _ (List.getElem_mem hlt)
          obtain ⟨hg3, hg1, hg8⟩ := isG_bd hgg
          have hgs := pgOk_seqM hgo
          have hgl := (pgOk_len hgo).2
          have HT := Lib.hid (show (sg.take (i + 1)).foldl backF so = backF ((sg.take i).foldl backF so) sg[i] by rw [List.take_succ_eq_append_getElem hlt, List.foldl_append]; rfl)
          generalize (sg.take i).foldl backF so = O at *
          have HBf := Lib.hid (show backF O sg[i] = if lackM sg[i] O (sg[i].body.getD 0 0).toNat = 1 ∧ backOk sg[i] (lackO sg[i] O (sg[i].body.getD 0 0).toNat) (lackS sg[i] O (sg[i].body.getD 0 0).toNat) = true then O ++ [backP sg[i] (lackO sg[i] O (sg[i].body.getD 0 0).toNat) (lackS sg[i] O (sg[i].body.getD 0 0).toNat)] else O from rfl)
          obtain ⟨n, hn⟩ : ∃ n, (sg[i].body.getD 0 0).toNat = n := ⟨_, rfl⟩
          have hn8 : n ≤ 8 := by omega
          have hnb : sg[i].body.getD 0 0 = (n : Int) := by omega
          rw [hn] at HBf
          clear hn
          have HLa := fun W (hb : Below wr.heap.size wr W) => lacking_any ((HM2.out.fresh hb).map.weak (S' := fun x => x < W.heap.size) (fun x _ h => h)) hkp.out.dif sg[i] Aj cj ((RdS.top hrj).below hb (Nat.le_refl _) |>.more hb.size) n hgs.1 hgs.2 hnb (by omega) (by omega)
          have HFr := Lib.hid (fun (h : lackM sg[i] O n = 1) => lackS_free (g := sg[i]) (l := O) (n := n) h)
          have HOm := Lib.hid (fun p (hp : p ∈ lackO sg[i] O n) => (pgOk_len (hkp.out.ok p (lackO_mem hp))).2)
          have HOl := lackO_len sg[i] O n
          have hsb := lackS_bd (g := sg[i]) (l := O) (n := n) hgs.1 hgs.2
          have HRs := fun W (hb : Below wr.heap.size wr W) (A' : Option Addr) (c' : Nat) (hr : RdPg W (fun x => x < W.heap.size) A' (lackO sg[i] O n)) => restored_any (c := c') hr (by omega) (fun p hp => by have := HOm.out p hp; omega) sg[i] Aj cj ((RdS.top hrj).below hb (Nat.le_refl _) |>.more hb.size) hwj.bytes hg3 (by omega) hcj (lackS sg[i] O n) ⟨hsb.1, by omega⟩
          have HWf := Lib.hid (fun (h : backOk sg[i] (lackO sg[i] O n) (lackS sg[i] O n) = true) => backP_wf hwj.bytes h)
          have HBo := Lib.hid (fun (h : backOk sg[i] (lackO sg[i] O n) (lackS sg[i] O n) = true) => backOk_ok h)
          have HBs := Lib.hid (backP_seq sg[i] (lackO sg[i] O n) (lackS sg[i] O n))
          generalize backP sg[i] (lackO sg[i] O n) (lackS sg[i] O n) = BP at *
          generalize backOk sg[i] (lackO sg[i] O n) (lackS sg[i] O n) = BO at *
          generalize lackO sg[i] O n = LO at *
          generalize lackS sg[i] O n = LS at *
          generalize lackM sg[i] O n = LM at *
          generalize backF O sg[i] = BF at *
          generalize sg[i] = q at *
          obtain ⟨q1, q2, q3, q4, q5⟩ := q
          simp only [Pg.val] at HLa HRs e0 e1 e2 e3 e4 hg3 hgl
          replace HLa := Lib.hid HLa
          replace HRs := Lib.hid HRs
          clear hrj hwj hM hrg hgo hgg hg1 hg8 hgs hnb
          go_upto_region 21 with fail
          have bx : Below wr.heap.size wr (wr.alloc (.cells #[.int .i64 q1, .bool q2, .bool q3, .bool q4, .slice Aj q5.length cj] 33)) := below_alloc (Below.refl _ _) _
          have kx := Blk.new wr 33 #[.int .i64 q1, .bool q2, .bool q3, .bool q4, .slice Aj q5.length cj]
          generalize wr.alloc (.cells #[.int .i64 q1, .bool q2, .bool q3, .bool q4, .slice Aj q5.length cj] 33) = wx at *
          have hkl := kx.lt
          have x0 := kx.cell 0
          have x1 := kx.cell 1
          have x2 := kx.cell 2
          have x3 := kx.cell 3
          have x4 := kx.cell 4
          clear e0 e1 e2 e3 e4
          by_cases hLM : LM = 1
          · have hdm : decide (LM = 1) = true := decide_eq_true hLM
            rw [hdm] at HLa
            have HFr2 := Lib.hid (HFr.out hLM)
            go_upto_region 23 with (first
              | (go_at_call 34; (with_reducible refine (HLa.out _ bx).mono ?_); rintro e w2 ⟨v2, rfl, ho2, hb2⟩; obtain ⟨A2, c2, rfl, _, hr2⟩ := ho2.reads PgR.good (S := fun x => x < w2.heap.size) (fun x _ h => h)))
            have b2 := bx.trans (hb2.mono bx.size)
            have k2 := kx.below hb2 hkl
            have hs2 := b2.size
            clear x0 x1 x2 x3 x4
            have x0 := k2.cell 0
            have x1 := k2.cell 1
            have x2 := k2.cell 2
            have x3 := k2.cell 3
            have x4 := k2.cell 4
            have HRs2 := Lib.hid (HRs.out _ b2 _ c2 hr2)
            cases BO
            · have HN := Lib.hid (show BF = O by rw [HBf.out, if_neg (fun h => by cases h.2)])
              go_wp2_with (first
                | (go_at_call 35; (with_reducible refine HRs2.out.mono ?_); rintro e w3 ⟨⟨r1, r2, r3, r4, r5⟩, A3, c3, rfl, hq3, hb3⟩; simp only))
              have hm3 := HM2.out.fresh ((b2.trans (hb3.mono b2.size)).alloc (Nat.le_trans b2.size hb3.size) (.cells #[.int .i64 r1, .bool r2, .bool r3, .bool r4, .slice A3 r5.length c3] 33))
              go_roundw
              case rel => exact ⟨i + 1, D2, by omega, by go_num, hD2, by rw [HT.out, HN.out]; exact hm3⟩
              case measure => simp [intOf]; omega
            · have HN := Lib.hid (show BF = O ++ [BP] by rw [HBf.out, if_pos ⟨hLM, rfl⟩])
              have HWf2 := Lib.hid (HWf.out (by first | rfl | trivial))
              have hbo := pgOk_len (HBo.out (by first | rfl | trivial))
              go_upto_region 24 with (first
                | (go_at_call 35; (with_reducible refine HRs2.out.mono ?_); rintro e w3 ⟨⟨r1, r2, r3, r4, r5⟩, A3, c3, rfl, hq3, hb3⟩; obtain ⟨hq3, ho3⟩ := hq3 (by first | rfl | trivial); subst hq3; have hsq := HBs.out; simp only at hsq hbo ho3; subst hsq))
              obtain ⟨_, hc3, hr3⟩ := ho3.rds
              have b3 := b2.trans (hb3.mono b2.size)
              have hs3 := hb3.size
              have hr3' : RdS w3 (fun x => w2.heap.size ≤ x ∧ x < w3.heap.size) .u8 A3 r5 := hr3.weak (fun x hx _ => ⟨hx.1, hx.2.1⟩)
              have b34 : Below w3.heap.size w3 (w3.alloc (.cells #[.int .i64 r1, .bool r2, .bool r3, .bool r4, .slice A3 r5.length c3] 33)) := below_alloc (Below.refl _ _) _
              have k4 := Blk.new w3 33 #[.int .i64 r1, .bool r2, .bool r3, .bool r4, .slice A3 r5.length c3]
              generalize w3.alloc (.cells #[.int .i64 r1, .bool r2, .bool r3, .bool r4, .slice A3 r5.length c3] 33) = w4 at *
              have b4 := b3.trans (b34.mono b3.size)
              have hs4 := b34.size
              have hk4 := k4.lt
              have hr4 := hr3'.keep (Mod.of_fresh (M := fun _ => False) b34) (fun _ _ _ h => h)
              have hm4 := HM2.out.more b4
              clear x0 x1 x2 x3 x4
              have x0 := k4.cell 0
              have x1 := k4.cell 1
              have x2 := k4.cell 2
              have x3 := k4.cell 3
              have x4 := k4.cell 4
              have hdb : ¬ (D2 w.heap.size ∨ (wr.heap.size ≤ w.heap.size ∧ w.heap.size < w4.heap.size)) := fun h => (hm4.dx _ h).2.1 rfl
              obtain ⟨A0, c0, rfl, hc0, _, hob0⟩ := HM2.out.oo.form PgR.good
              go_upto_region 26 with (first
                | (at_mapUpdate; (refine wpList_put_pg rfl (.tmp 93) (.tmp 94) (.tmp 95) rfl (b := w.heap.size) (S := fun x => D2 x ∨ (wr.heap.size ≤ x ∧ x < w4.heap.size)) (l := O) rfl ⟨r1, r2, r3, r4, r5⟩ [.int .i64 r1, .bool r2, .bool r3, .bool r4, .slice A3 r5.length c3] rfl rfl hm4.map hdb (show PgR _ _ _ _ from ⟨A3, c3, rfl, hc3, hr4.weak (fun x hx _ => .inr ⟨by have := hx.1; omega, by have := hx.2; omega⟩), HWf2.out⟩) (hasS_none.1 HFr2.out) ?_); intro w5 hmp hg5))
              have hm5 := hm4.put_ hmp hg5
              have k5 := k4.grown hg5 (by intro e; injection e with e; omega)
              have hs5 := hg5.size
              have hr5 := hr4.keep (Mod.of_only (M := (· = w.heap.size)) hg5 (fun _ => rfl)) (fun x hx _ e => by have h' := hx.1; have e' : x = w.heap.size := e; omega)
              have HC := copied_any ⟨r1, r2, r3, r4, r5⟩ A3 c3 HWf2.out (by simp only; omega) w5 (RdS.top hr5)
              simp only [Pg.val] at HC
              replace HC := Lib.hid HC
              clear x0 x1 x2 x3 x4
              have x0 := k5.cell 0
              have x1 := k5.cell 1
              have x2 := k5.cell 2
              have x3 := k5.cell 3
              have x4 := k5.cell 4
              go_wp2_with (first
                | (go_at_call 31; (with_reducible refine HC.out.mono ?_); rintro e w6 ⟨A6, c6, rfl, ho6, hb6⟩; have hs6 := hb6.size; obtain ⟨_, hc6, hr6⟩ := ho6.rds; have hm6 := hm5.more hb6; have hrx6 : RdS w6 (fun x => w5.heap.size ≤ x ∧ x < w6.heap.size) .u8 A6 r5 := hr6.weak (fun x hx _ => ⟨hx.1, hx.2.1⟩))
                | (at_builtin; (refine wpList_push_G (v := .slice A0 O.length c0) rfl (.tmp 96) (.tmp 99) _ rfl PgR.good w6 (.agg #[.int .i64 0, .bool false, .bool false, .bool false, .slice none 0 0]) 40 Try.underlying23 info_pg rfl (by omega) rfl hm6.oo (fun x => w5.heap.size ≤ x ∧ x < w6.heap.size) _ 1 [.int .i64 r1, .bool r2, .bool r3, .bool r4, .slice A6 r5.length c6] ⟨r1, r2, r3, r4, r5⟩ rfl rfl (show PgR _ _ _ _ from ⟨A6, c6, rfl, hc6, hrx6, HWf2.out⟩) (fun x => ((D2 x ∨ (wr.heap.size ≤ x ∧ x < w4.heap.size)) ∨ (w5.heap.size ≤ x ∧ x < w6.heap.size)) ∨ x = w6.heap.size) (fun x hx _ => .inl hx) (fun x hx _ => .inl (.inr hx)) (fun x hx h => by have := (hob0 x hx).2; have h' := h.1; omega) (fun x hx => by rcases hx with hx | hx; have := (hm6.dx x hx).1; omega; omega) (.inr rfl) (by omega) hm6.base ?_); intro v7 w7 ow7 hg7 hv7))
              have hm7 := hm6.push_o ow7 hg7 hv7
              go_wp2
              go_roundw
              case rel => exact ⟨i + 1, (fun x => ((D2 x ∨ (wr.heap.size ≤ x ∧ x < w4.heap.size)) ∨ (w5.heap.size ≤ x ∧ x < w6.heap.size)) ∨ x = w6.heap.size), by omega, by go_num, fun x hx => .inl (.inl (.inl (hD2 x hx))), by rw [HT.out, HN.out]; exact hm7⟩
              case measure => simp [intOf]; omega
          · have hdm : decide (LM = 1) = false := decide_eq_false hLM
            rw [hdm] at HLa
            have HN := Lib.hid (show BF = O by rw [HBf.out, if_neg (fun h => hLM h.1)])
            go_wp2_with (first
              | (go_at_call 34; (with_reducible refine (HLa.out _ bx).mono ?_); rintro e w2 ⟨v2, rfl, ho2, hb2⟩))
            have hm2 := HM2.out.fresh (bx.trans (hb2.mono bx.size))
            go_roundw
            case rel => exact ⟨i + 1, D2, by omega, by go_num, hD2, by rw [HT.out, HN.out]; exact hm2⟩
            case measure => simp [intOf]; omega
        · have hig : i = sg.length := by omega
          subst hig
          simp only [List.take_length] at hol
          have hO := HMO.out
          rw [List.take_length] at HM2 hkp hM
          rw [← hO] at HM2 hkp hol
          clear hO
          clear hM
          obtain ⟨A0, c0, rfl, hc0, _, hob0⟩ := HM2.out.oo.form PgR.good
          have hsq : ∀ p ∈ mendO l, 0 ≤ p.seq ∧ p.seq ≤ 2147483647 := fun p hp => pgOk_seqM (hkp.out.ok p hp)
          have HSo := Lib.hid (sortpg_any HM2.out.oo hsq (by omega))
          have HSq := Lib.hid hsq
          clear hsq
          go_upto_region 29 with (first
            | (go_at_call 36; (with_reducible refine HSo.out.mono ?_); rintro e w3 ⟨rfl, ys, hper, hpw, ho3, hm3⟩))
          obtain ⟨A4, c4, hv4, hc4, hr4⟩ := ho3.reads PgR.good (S := fun x => x < w3.heap.size) (fun x _ h => h)
          simp only [Value.slice.injEq] at hv4
          obtain ⟨hA4, hl4, hc04⟩ := hv4
          subst hA4 hc04
          have HHo := holes_any (c := c0) hr4 (by omega) (fun p hp => by have := HSq.out p (hper.mem_iff.1 hp); omega) stp ht0 (by omega)
          rw [← hl4] at HHo
          replace HHo := Lib.hid HHo
          have HPe := Lib.hid hper
          have HPw := Lib.hid hpw
          have b3 : Below w.heap.size w w3 := HM2.out.old.trans (hm3.below HM2.out.base (fun x hx => (hob0 x hx).1))
          have hs3 := b3.size
          clear hper hpw hl4
          go_wp2_with (first
            | (go_at_call 38; (with_reducible refine HHo.out.mono ?_); rintro e w4 ⟨v4, rfl, ho4, hb4⟩))
          go_ret2
          refine ⟨_, _, ys, rfl, HPe.out, HPw.out, ?_, ?_, b3.trans (hb4.mono hs3)⟩
          · refine (ho3.keep PgR.good (Mod.of_fresh (M := fun _ => False) hb4) (fun _ _ _ h => h) (fun _ _ h => h)).weak PgR.good (fun x hx hl => hl)
          · rw [HMT.out]
            exact ho4.base_ hs3
end Go.Proofs.Ytdnkdjaokmibjaa
