/- MendGuards: the walk. -/
import Derived.Test.YtdnkdjaokmibjaaMdKn
import Derived.Test.YtdnkdjaokmibjaaMdGs
import Derived.Test.YtdnkdjaokmibjaaHvPg
import Derived.Test.YtdnkdjaokmibjaaTapePgs
import Derived.Test.YtdnkdjaokmibjaaPgPut
import Derived.Test.YtdnkdjaokmibjaaFullApp
set_option linter.unusedSimpArgs false
set_option linter.unusedVariables false
namespace Go.Proofs.Ytdnkdjaokmibjaa.mendGuards
open Go.RowKit

theorem addr_add0 (g k : Nat) : (⟨g, 0, none⟩ : Addr).add k = ⟨g, k, none⟩ := by cases k <;> simp [Addr.add]
theorem light {l : List Pg} (h : heavyPg l = false) : l.length ≤ 1000 := by
  have h1 := of_decide_eq_false h
  have h2 := psum_len l
  omega

set_option maxHeartbeats 16000000 in
set_option maxRecDepth 100000 in
theorem walk (w : World) (A0 : Option Addr) (c0 : Nat) (t : List Int) (ht : ∀ x ∈ t, -9223372036854775808 ≤ x ∧ x ≤ 9223372036854775807) (hc : t.length ≤ c0) (h63 : c0 ≤ 9223372036854775807) (hrt : RdI w w.heap.size .i64 A0 t)
    (A1 : Option Addr) (c1 : Nat) (raw : List Pg) (hc1 : raw.length ≤ c1) (h631 : c1 ≤ 9223372036854775807) (hr1 : RdPg w (· < w.heap.size) A1 raw)
    (i : Int) (i0 : -9223372036854775808 ≤ i) (i1 : i ≤ 9223372036854775807) :
    Calls Try.prog 5 #[.slice A0 t.length c0, .slice A1 raw.length c1, .int .i64 i] w fun e w' => e = .returned (.bool true) ∧ Below w.heap.size w w' := by
  have HK := Lib.hid (fun W => known_any W)
  have HT := Lib.hid (newtape_any A0 t c0 ht hc (by omega) w hrt (Nat.le_refl _))
  have HV := Lib.hid (heavypg_any (c := c1) hr1 (by omega))
  have HR := Lib.hid (fun W (h : Below w.heap.size w W) => hr1.below PgR.good h)
  have HN1 := Lib.hid (fun W (hW : TapeB W w.heap.size w.heap.size) => next_any hW 100 (by omega) (by omega))
  have HN3 := Lib.hid (fun W (hW : TapeB W w.heap.size w.heap.size) => next_any hW 3 (by omega) (by omega))
  have HPs := fun W (hW : TapeB W w.heap.size w.heap.size) (n : Nat) (hn : n ≤ 1000) => tapepgs_any hW n hn 20 (by omega)
  rw [show ((20 : Nat) : Int) = 20 from rfl] at HPs
  replace HPs := Lib.hid HPs
  clear ht hrt hr1
  go_enter Try.func5, Try.ntmps5
  cases hH : heavyPg raw with
  | true =>
    rw [hH] at HV
    clear hH
    go_wp2_with (first
      | (go_at_call 16; (with_reducible refine HV.out.mono ?_); rintro e w1 ⟨rfl, rfl⟩))
    go_ret
    exact ⟨rfl, Below.refl _ _⟩
  | false =>
    rw [hH] at HV
    have hrl := light hH
    clear hH
    go_upto_region 5 with (first
      | (go_at_call 16; (with_reducible refine HV.out.mono ?_); rintro e w1 ⟨rfl, rfl⟩)
      | (go_at_call 8; (with_reducible refine HT.out.mono ?_); rintro e w1 ⟨rfl, hT1, hb1⟩)
      | (go_at_call 17; (with_reducible refine (HN1.out _ hT1).mono ?_); rintro e w2 ⟨r, rfl, hr100, hT2, hg2⟩)
      | (go_at_call 9; (with_reducible refine (HPs.out _ hT2 r (by omega)).mono ?_); rintro e w4 ⟨v4, l, rfl, hll, hN, ho4, hT4, hg4⟩))
    have bb2 := below_one hb1 hg2 (Nat.le_refl _)
    have bb4 := below_one bb2 hg4 (Nat.le_refl _)
    have hw12 : w.heap.size < w2.heap.size := hT2.lt
    have hs24 := hg4.size
    obtain ⟨A2, c2, rfl, hc2, hr2⟩ := ho4.reads PgR.good (S := fun b => w2.heap.size ≤ b ∧ b < w4.heap.size) (fun b hb hl => by
      rcases hb with hb | hb
      · exact hb
      · exact ⟨(ho4.own_ge b hb).1, hl⟩)
    have HSq := Lib.hid (fun j (hj : j < l.length) => (hN j hj).seq)
    have HL := Lib.hid (fun W (hm : Mod (fun b => b = w.heap.size ∨ w4.heap.size ≤ b) w4 W) => RdG.keep PgR.good hr2 hm (fun b hb _ h9 => by have := hb.1; have := hb.2; omega))
    have hlit : ∀ b, (Value.slice (some ⟨w4.heap.size, 0, none⟩) 0 0).ownBlock = some b → b = w4.heap.size := fun b hb => by
      simp [Value.ownBlock] at hb; omega
    have hE := OwnG.empty PgR 5 33 w4 w4.heap.size (fun b => w2.heap.size ≤ b ∧ b < w4.heap.size) (Nat.le_refl _)
    have bE := below_alloc (Below.refl w4.heap.size w4) (.cells #[] 33)
    have hrE := hr2.below PgR.good bE
    clear hN ho4 HV HT HN1 HPs hT1 hT2 hb1 hg2 bb2 hr2 hg4
    go_upto_region 6 with (first
      | (at_builtin; (refine wpList_append_G (v := .slice (some ⟨w4.heap.size, 0, none⟩) 0 0) rfl (.tmp 19) (.tmp 20) _ rfl PgR.good (w4.alloc (.cells #[] 33)) (.agg #[.int .i64 0, .bool false, .bool false, .bool false, .slice none 0 0]) 40 Try.underlying23 info_pg rfl (by omega) rfl hE (fun b => w2.heap.size ≤ b ∧ b < w4.heap.size) A2 c2 l.length l rfl rfl hrE (fun b hb _ => hb) (fun b hb h => by have h8 := h.2; have := hlit b hb; omega) (fun b hb => by have h8 := hb.2; simp; omega) (by simp; omega) (by simp) ?_); intro v5 w5 ow5 hg5 hv5; rw [List.nil_append] at ow5))
    have b45 : Below w4.heap.size w4 w5 := Below.grown bE hg5 (by simp) (fun b hb => by have := hlit b hb; omega)
    have hs5 := b45.size
    have hT5 := hT4.below b45 hT4.lt
    have bb5 := below_then bb4 b45
    have hm5 : Mod (fun b => b = w.heap.size ∨ w4.heap.size ≤ b) w4 w5 := Mod.of_below b45 (fun b h _ => .inr h)
    have hown5 := ow5.own_ge
    obtain ⟨A5, c5, rfl, hc5, hr5, _⟩ := ow5.form PgR.good
    have hr5' := hr5.weak PgR.good (S' := fun b => b < w5.heap.size) (fun b _ h => h)
    clear hE bE hrE hg5 hv5 hlit hT4 b45 hr5
    go_upto_if 24 with (fail)
    go_cut [] (fun wc => (∃ l', l'.length = l.length ∧ RdPg wc (fun b => b < wc.heap.size) A5 l') ∧ RdPg wc (fun b => b < wc.heap.size) A2 l ∧ Below w.heap.size w wc)
    case first =>
      by_cases h0 : l.length = 0
      · have hd0 : decide (0 < (l.length : Int)) = false := decide_eq_false (by omega)
        have hr6 := HL.out _ hm5
        have h0n : ¬ (0 < l.length) := by omega
        go_wp2
        go_meet
        exact ⟨⟨l, rfl, hr5'⟩, hr6.weak PgR.good (fun b _ h => h), bb5⟩
      · have hpos : 0 < l.length := by omega
        have hd0 : decide (0 < (l.length : Int)) = true := decide_eq_true (by omega)
        have ow5b := ow5
        obtain ⟨cells, how, _⟩ := ow5b
        obtain ⟨g, cp, hvE, hgb, hgl⟩ := World.ownsRow.form how hpos
        simp only [Value.slice.injEq, true_and] at hvE
        obtain ⟨rfl, rfl⟩ := hvE
        have hwl : IntKind.i64.wrap ((l.length : Int) - 1) = (l.length : Int) - 1 := IntWalk.i64_in _ (by omega)
        have HW := Lib.hid (fun W => within_any i 0 ((l.length : Int) - 1) i0 i1 (by omega) (by omega) (by omega) W)
        have v1 := withinV_in (n := i) (lo := 0) (hi := (l.length : Int) - 1) (by omega)
        generalize withinV i 0 ((l.length : Int) - 1) = jI at *
        obtain ⟨j, rfl⟩ := Int.eq_ofNat_of_zero_le v1.1
        have hjl : j < l.length := by omega
        have hsq := HSq.out j hjl
        have HOw := Lib.hid ow5
        clear how v1
        go_upto_region 10 with (first
          | (go_at_call 11; (with_reducible refine (HW.out _).mono ?_); rintro e w6 ⟨rfl, rfl⟩)
          | (go_at_call 17; (with_reducible refine (HN3.out _ hT5).mono ?_); rintro e w6 ⟨r3, rfl, hr3, hT6, hg6⟩))
        have hs6 := hg6.size
        have bb6 := below_one bb5 hg6 (Nat.le_refl _)
        have hm6 := hm5.then_ (Mod.of_grown (M := fun b => b = w.heap.size ∨ w4.heap.size ≤ b) hg6 (fun b e _ => .inl (by injection e with e; exact e.symm)))
        have ow6 := HOw.out.keep PgR.good (M := fun b => b = w.heap.size) (Mod.of_grown hg6 (fun b e _ => by injection e with e; exact e.symm)) (fun b hb _ h9 => by have := hb.1; omega) (fun b hb h9 => by simp [Value.ownBlock] at hb; omega)
        obtain ⟨Aj, cj, hsw, hpg, _, hgl6, hfr, p0, q0, P0, p3, q3, P3, p4, q4, P4⟩ := pg_put ow6 hjl _ (addr_add0 g (j * 5))
        dsimp only at hpg q0 p3 q3 P3 p4 q4 P4
        have HP3 := Lib.hid P3
        have HP4 := Lib.hid P4
        have HB6 := Lib.hid bb6
        have HM6 := Lib.hid hm6
        have HO6 := Lib.hid ow6
        clear P0 P3 P4 bb5 bb6 hm5 hm6 HOw ow5 ow6 hr5' HW hpg
        by_cases h30 : r3 = 0
        · have hd3 : ((r3 : Int) == 0) = true := by rw [h30]; rfl
          clear h30
          go_wp2
          go_meet
          obtain ⟨l', hl', hrl'⟩ := HP3.out true
          exact ⟨⟨l', hl', hrl'.weak PgR.good (fun b _ h => h)⟩, (HL.out _ (mod_put HM6.out (fun _ => .inr hgb))).weak PgR.good (fun b _ h => h), below_put HB6.out (by omega)⟩
        · have hd3 : ((r3 : Int) == 0) = false := by rw [beq_eq_false_iff_ne]; omega
          by_cases h31 : r3 = 1
          · have hd4 : ((r3 : Int) == 1) = true := by rw [h31]; rfl
            clear h30 h31
            obtain ⟨sq, hsqE⟩ : ∃ sq, sq = l[j].seq := ⟨_, rfl⟩
            rw [← hsqE] at hsq p0
            have hsb : 0 ≤ sq ∧ sq ≤ 100000 := by omega
            have hw1 : IntKind.i64.wrap (sq + 1) = sq + 1 := IntWalk.i64_in _ (by omega)
            clear hsqE hsw p3 p4 q3 q4 hsq
            go_upto_region 13 with (fail)
            refine wp_region_last (S := (fun w' => w'.cell? ⟨g, j * 5, none⟩ = some (.int .i64 sq))) 11 _ (by simp only [List.pop_toArray, List.dropLast_cons_cons, List.dropLast_singleton]; rfl) (by kernel_rfl) (by kernel_rfl) (by kernel_rfl) (by kernel_rfl) (by kernel_rfl) ?_ (fun hHeld => ?_)
            focus exact p0
            refine wpAnyH_take (i := 0) (v := ?_) rfl (by kernel_rfl) (by kernel_rfl) (by kernel_rfl) (fun _ _ _ h => h) (Or.inl ⟨by kernel_rfl, ?_⟩) (by assumption) ?_
            rotate_left
            focus
              intro w9 hSw
              (try dsimp only at hSw)
              go_simp
              (try with_reducible rfl)
            (try simp only [Act.put, List.getElem_toArray, List.getElem_cons_succ, List.getElem_cons_zero, List.setIfInBounds_toArray, List.set_cons_zero, List.set_cons_succ])
            refine wpAnyH_take (i := 1) (v := ?_) rfl (by kernel_rfl) (by kernel_rfl) (by kernel_rfl) (fun _ _ _ h => h) (Or.inl ⟨by kernel_rfl, ?_⟩) (by assumption) ?_
            rotate_left
            focus
              intro w9 hSw
              (try dsimp only at hSw)
              go_simp
              (try with_reducible rfl)
            (try simp only [Act.put, List.getElem_toArray, List.getElem_cons_succ, List.getElem_cons_zero, List.setIfInBounds_toArray, List.set_cons_zero, List.set_cons_succ])
            refine wpAnyH_take (i := 2) (v := ?_) rfl (by kernel_rfl) (by kernel_rfl) (by kernel_rfl) (fun _ _ _ h => h) (Or.inl ⟨by kernel_rfl, ?_⟩) (by assumption) ?_
            rotate_left
            focus
              intro w9 hSw
              (try dsimp only at hSw)
              go_simp
              (try with_reducible rfl)
            (try simp only [Act.put, List.getElem_toArray, List.getElem_cons_succ, List.getElem_cons_zero, List.setIfInBounds_toArray, List.set_cons_zero, List.set_cons_succ])
            refine wpAnyH_take (i := 3) (v := ?_) rfl (by kernel_rfl) (by kernel_rfl) (by kernel_rfl) (fun _ _ _ h => h) (Or.inl ⟨by kernel_rfl, ?_⟩) (by assumption) ?_
            rotate_left
            focus
              intro w9 hSw
              (try dsimp only at hSw)
              go_simp
              (try with_reducible rfl)
            (try simp only [Act.put, List.getElem_toArray, List.getElem_cons_succ, List.getElem_cons_zero, List.setIfInBounds_toArray, List.set_cons_zero, List.set_cons_succ])
            refine wpAnyH_take (i := 4) (v := ?_) rfl (by kernel_rfl) (by kernel_rfl) (by kernel_rfl) (fun _ _ _ h => h) (Or.inl ⟨by kernel_rfl, ?_⟩) (by assumption) ?_
            rotate_left
            focus
              intro w9 hSw
              (try dsimp only at hSw)
              go_simp
              (try with_reducible rfl)
            (try simp only [Act.put, List.getElem_toArray, List.getElem_cons_succ, List.getElem_cons_zero, List.setIfInBounds_toArray, List.set_cons_zero, List.set_cons_succ])
            refine wpAnyH_take (i := 5) (v := ?_) rfl (by kernel_rfl) (by kernel_rfl) (by kernel_rfl) (fun _ _ _ h => h) (Or.inl ⟨by kernel_rfl, ?_⟩) (by assumption) ?_
            rotate_left
            focus
              intro w9 hSw
              (try dsimp only at hSw)
              go_simp
              (try with_reducible rfl)
            (try simp only [Act.put, List.getElem_toArray, List.getElem_cons_succ, List.getElem_cons_zero, List.setIfInBounds_toArray, List.set_cons_zero, List.set_cons_succ])
            refine wpAnyH_take (i := 6) (v := ?_) rfl (by kernel_rfl) (by kernel_rfl) (by kernel_rfl) (fun _ _ _ h => h) (Or.inl ⟨by kernel_rfl, ?_⟩) (by assumption) ?_
            rotate_left
            focus
              intro w9 hSw
              (try dsimp only at hSw)
              go_simp
              (try with_reducible rfl)
            (try simp only [Act.put, List.getElem_toArray, List.getElem_cons_succ, List.getElem_cons_zero, List.setIfInBounds_toArray, List.set_cons_zero, List.set_cons_succ])
            refine wpAnyH_ready (rs := [7]) (by kernel_rfl) (by simp) (AllReadyH.cons rfl (fun K hK => ?_) AllReadyH.nil)
            go_simp
            go_at_call 17
            with_reducible refine (HN3.out _ hT6.drew).mono ?_
            rintro e w7 ⟨r7, rfl, hr7, hT7, hg7⟩
            have hM7 : Mod (fun b => b = w.heap.size) w6.drew w7 := Mod.of_grown hg7 (fun b e _ => by injection e with e; exact e.symm)
            have ow7 := (HO6.out.keep PgR.good (M := fun b => b = w.heap.size) (Mod.refl _ _).drew (fun b hb _ h9 => by have := hb.1; omega) (fun b hb h9 => by simp [Value.ownBlock] at hb; omega)).keep PgR.good hM7 (fun b hb _ h9 => by have := hb.1; omega) (fun b hb h9 => by simp [Value.ownBlock] at hb; omega)
            have bb7 := below_one HB6.out.drew hg7 (Nat.le_refl _)
            have hm7 := (HM6.out.drew).then_ (hM7.mono (fun b h _ => .inl h))
            obtain ⟨Aj7, cj7, _, _, _, _, _, p0', q0', P0', _⟩ := pg_put ow7 hjl _ (addr_add0 g (j * 5))
            have p0'' := hM7.cell (a := ⟨g, j * 5, none⟩) p0 (by show ¬ g = w.heap.size; omega)
            have hw7 : IntKind.i64.wrap (sq + 1 + (r7 : Int)) = sq + 1 + (r7 : Int) := IntWalk.i64_in _ (by omega)
            have HP0' := Lib.hid (P0' (sq + 1 + (r7 : Int)) (show (-9223372036854775808 : Int) ≤ _ ∧ _ from ⟨by omega, by omega⟩))
            clear P0' p0' ow7 hM7 hg7
            refine hK.out _ _ ?_ (fun hHeld => ?_)
            focus exact p0''
            clear hK K
            (try simp only [Act.put, List.getElem_toArray, List.getElem_cons_succ, List.getElem_cons_zero, List.setIfInBounds_toArray, List.set_cons_zero, List.set_cons_succ])
            refine wpAnyH_take (i := 8) (v := ?_) rfl (by kernel_rfl) (by kernel_rfl) (by kernel_rfl) (fun _ _ _ h => h) (Or.inl ⟨by kernel_rfl, ?_⟩) (by assumption) ?_
            rotate_left
            focus
              intro w9 hSw
              (try dsimp only at hSw)
              go_simp
              (try with_reducible rfl)
            (try simp only [Act.put, List.getElem_toArray, List.getElem_cons_succ, List.getElem_cons_zero, List.setIfInBounds_toArray, List.set_cons_zero, List.set_cons_succ])
            refine wpAnyH_take (i := 9) (v := ?_) rfl (by kernel_rfl) (by kernel_rfl) (by kernel_rfl) (fun _ _ _ h => h) (Or.inl ⟨by kernel_rfl, ?_⟩) (by assumption) ?_
            rotate_left
            focus
              intro w9 hSw
              (try dsimp only at hSw)
              go_simp
              (try with_reducible rfl)
            (try simp only [Act.put, List.getElem_toArray, List.getElem_cons_succ, List.getElem_cons_zero, List.setIfInBounds_toArray, List.set_cons_zero, List.set_cons_succ])
            refine wpAnyH_take (i := 10) (v := ?_) rfl (by kernel_rfl) (by kernel_rfl) (by kernel_rfl) (fun _ _ _ h => h) (Or.inl ⟨by kernel_rfl, ?_⟩) (by assumption) ?_
            rotate_left
            focus
              intro w9 hSw
              (try dsimp only at hSw)
              go_simp
              (try with_reducible rfl)
            (try simp only [Act.put, List.getElem_toArray, List.getElem_cons_succ, List.getElem_cons_zero, List.setIfInBounds_toArray, List.set_cons_zero, List.set_cons_succ])
            refine wpAnyH_done (by kernel_rfl) (lastQ_step rfl (fun K hK => ?_)) _
            go_simp
            refine hK _ _ ?_
            clear hK K
            go_wp2
            go_meet
            obtain ⟨l', hl', hrl'⟩ := HP0'.out
            refine ⟨⟨l', hl', hrl'.weak PgR.good (fun b _ h => h)⟩, ?_, ?_⟩
            · refine (HL.out _ ?_).weak PgR.good (fun b _ h => h)
              exact mod_put hm7 (fun _ => .inr hgb)
            · exact below_put bb7 (by omega)
          · have hd4 : ((r3 : Int) == 1) = false := by rw [beq_eq_false_iff_ne]; omega
            clear h30 h31
            go_wp2
            go_meet
            obtain ⟨l', hl', hrl'⟩ := HP4.out
            exact ⟨⟨l', hl', hrl'.weak PgR.good (fun b _ h => h)⟩, (HL.out _ (mod_put HM6.out (fun _ => .inr hgb))).weak PgR.good (fun b _ h => h), below_put HB6.out (by omega)⟩
    case rest =>
      obtain ⟨⟨l', hl', hro⟩, hrl2, hbc⟩ := hcut
      have hszc := hbc.size
      have G1 := Lib.hid (guards_any (c := c2) hrl2 (by omega) hc2)
      have G2 := fun W (h : Below wc.heap.size wc W) => guards_any (c := c5) (hro.below PgR.good h) (by omega) (by omega)
      rw [hl'] at G2
      replace G2 := Lib.hid G2
      have G3 := Lib.hid (fun W (h : Below w.heap.size w W) => guards_any (c := c1) (HR.out _ h) (by omega) hc1)
      obtain ⟨A9, hsl, hr9⟩ := RdG.slice_hm (P := Try.prog) Try.underlying23 info_pg hrl2 hc2
      have hal : (l ++ raw).length ≤ 1000000 := by simp; omega
      clear hro hrl2 HL HSq hr5' ow5
      go_wp2_with (first
        | (go_at_call 18; (with_reducible refine G1.out.mono ?_); rintro e w11 ⟨rfl, b11⟩; have c11 := below_then hbc b11)
        | (go_at_call 18; (with_reducible refine (G2.out _ b11).mono ?_); rintro e w12 ⟨rfl, b12⟩; have c12 := below_then c11 b12)
        | (go_at_call 18; (with_reducible refine (G3.out _ c12).mono ?_); rintro e w13 ⟨rfl, b13⟩; have c13 := below_then c12 b13; have hr13 := ((hr9.below PgR.good b11).below PgR.good b12).below PgR.good b13)
        | (at_builtin; (refine wpList_append_fullw (xs := l) (ys := raw) (by kernel_rfl) (.tmp 71) (.tmp 72) _ rfl PgR.good w13 (.agg #[.int .i64 0, .bool false, .bool false, .bool false, .slice none 0 0]) 40 Try.underlying23 info_pg rfl (by omega) l.length rfl rfl hr13 A1 c1 raw.length rfl rfl (HR.out _ c13) (by omega) ?_); intro A14 c14 w14 hc14 hr14 b14; have c14' := below_then c13 b14; have hal14 := hal; generalize l ++ raw = L at hc14 hr14 hal14 ⊢; have G4 := Lib.hid (guards_any (c := c14) hr14 hal14 hc14))
        | (go_at_call 18; (with_reducible refine G4.out.mono ?_); rintro e w15 ⟨rfl, b15⟩; have c15 := below_then c14' b15)
        | (go_at_call 14; (with_reducible refine (HK.out _).mono ?_); rintro e w16 ⟨rfl, hb16⟩))
      go_ret
      exact ⟨rfl, below_then c15 hb16⟩
end Go.Proofs.Ytdnkdjaokmibjaa.mendGuards
