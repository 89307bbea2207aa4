/- PalettePaints: the walk. -/
import Derived.Test.YtbbflddhbamjbaaPlKnown
import Derived.Test.YtbbflddhbamjbaaPlFew
import Derived.Test.YtbbflddhbamjbaaPlFewL
import Derived.Test.YtbbflddhbamjbaaPlROf
import Derived.Test.YtbbflddhbamjbaaPlHeavy
import Derived.Test.YtbbflddhbamjbaaPlPaints
set_option linter.unusedSimpArgs false
set_option linter.unusedVariables false
namespace Go.Proofs.Ytbbflddhbamjbaa.palettePaints
open Go.RowKit

set_option maxHeartbeats 8000000 in
set_option maxRecDepth 100000 in
theorem walk (w : World) (A0 : Option Addr) (c0 : Nat) (t : List Int) (ht : ∀ x ∈ t, -9223372036854775808 ≤ x ∧ x ≤ 9223372036854775807) (hc : t.length ≤ c0) (h63 : c0 ≤ 9223372036854775807) (hrt : RdI w w.heap.size .i64 A0 t)
    (A1 : Option Addr) (c1 : Nat) (l : List Int) (hl : ∀ x ∈ l, -9223372036854775808 ≤ x ∧ x ≤ 9223372036854775807) (hcl : l.length ≤ c1) (hl63 : c1 ≤ 9223372036854775807) (hrl : RdI w w.heap.size .i64 A1 l)
    (a : Int) (ha1 : -9223372036854775808 ≤ a) (ha2 : a ≤ 9223372036854775807) (b : Int) (hb1 : -9223372036854775808 ≤ b) (hb2 : b ≤ 9223372036854775807)
    (P : Pal) (Ap : Option Addr) (cp : Nat) (hcp : P.c.length ≤ cp) (hP63 : Len63 P.c) (hrp : RdLL w w.heap.size .i64 Ap P.c) :
    Calls Try.prog 3 #[.slice A0 t.length c0, .slice A1 l.length c1, .int .i64 a, .int .i64 b, palV P Ap cp] w fun e w' => e = .returned (.bool true) ∧ Below w.heap.size w w' := by
  have hbx := below_alloc (Below.refl w.heap.size w) (.cells #[.int .i64 P.d, .int .i64 P.n, .slice Ap P.c.length cp] 25)
  have kbx := Blk.new w 25 #[.int .i64 P.d, .int .i64 P.n, .slice Ap P.c.length cp]
  by_cases h42 : l.length ≤ 4200
  · have HHv := Lib.hid (fun W (h : Below w.heap.size w W) => heavypal_any (c := cp) (hrp.below h (Nat.le_refl _)) h.size hP63)
    have HPt := Lib.hid (fun W (h : Below w.heap.size w W) => paints_any (a := a) (b := b) (c := c1) (c2 := cp) (hrl.below h (Nat.le_refl _)) (hrp.below h (Nat.le_refl _)) h.size hcp hP63)
    have HNt := Lib.hid (fun W (h : Below w.heap.size w W) => newtape_any A0 t c0 ht hc (by omega) W (hrt.below h (Nat.le_refl _)) h.size)
    have HRl := Lib.hid (fun W (h : Below w.heap.size w W) => hrl.below h (Nat.le_refl _))
    obtain ⟨pd, pn, pc⟩ := P
    simp only [palV] at *
    have g1 : decide ((4200 : Int) < (l.length : Int)) = false := decide_eq_false (by omega)
    clear ht hrt hrl hrp hl
    go_enter Try.func3, Try.ntmps3
    go_upto_region 1 with fail
    generalize w.alloc (.cells #[.int .i64 pd, .int .i64 pn, .slice Ap pc.length cp] 25) = w0 at *
    have x0 := kbx.cell 0
    have x1 := kbx.cell 1
    have x2 := kbx.cell 2
    have hkb := kbx.lt
    go_upto_region 3 with (first
      | (go_at_call 7; (with_reducible refine (HHv.out _ hbx).mono ?_); rintro e w1 ⟨he, hb1⟩; rcases he with rfl | rfl))
    · go_ret
      exact ⟨rfl, below_then hbx hb1⟩
    · have bw1 := below_then hbx hb1
      have kb1 := kbx.below hb1 hkb
      have HNt1 := Lib.hid (HNt.out w1 bw1)
      have hkb1 := kb1.lt
      clear HNt HHv x0 x1 x2 hb1 kbx hbx hkb
      go_upto_region 4 with (first
        | (go_at_call 8; (with_reducible refine HNt1.out.mono ?_); rintro e w2 ⟨rfl, hT2, hb2⟩))
      have bw2 := below_then bw1 hb2
      have kb2 := kb1.below hb2 hkb1
      obtain ⟨g, hg⟩ : ∃ g, g = w1.heap.size := ⟨_, rfl⟩
      rw [← hg] at hT2 hkb1 ⊢
      clear hb2 HNt1 kb1 bw1 hg
      have HFew := Lib.hid (few_any hT2)
      go_upto_region 5 with (first
        | (go_at_call 9; (with_reducible refine HFew.out.mono ?_); rintro e w3 ⟨W, H, d, p, A3, c3, rfl, hIs, hW, hH, h3, hOwn, hT3, hg3⟩))
      have bw3 := below_one bw2 hg3 (by omega)
      have kb3 := kb2.grown hg3 (by simp; omega)
      have hgl := hT2.lt
      have hw23 := hg3.size
      have kp4 := Blk.new w3 30 #[.int .i64 W, .int .i64 H, .int .i64 d, .slice A3 p.length c3]
      have kb4 := kb3.alloc (.cells #[.int .i64 W, .int .i64 H, .int .i64 d, .slice A3 p.length c3] 30)
      have bw4 := below_alloc bw3 (.cells #[.int .i64 W, .int .i64 H, .int .i64 d, .slice A3 p.length c3] 30)
      have hT4 := hT3.alloc (.cells #[.int .i64 W, .int .i64 H, .int .i64 d, .slice A3 p.length c3] 30)
      have hrp4 := rdOwn hOwn (below_alloc (Below.refl w3.heap.size w3) (.cells #[.int .i64 W, .int .i64 H, .int .i64 d, .slice A3 p.length c3] 30))
      obtain ⟨gp, hgp⟩ : ∃ gp, gp = w3.heap.size := ⟨_, rfl⟩
      rw [← hgp] at kp4 hw23 ⊢
      clear hgp hOwn hT3 hg3 kb3 bw3 bw2 kb2 hT2 HFew
      generalize w3.alloc (.cells #[.int .i64 W, .int .i64 H, .int .i64 d, .slice A3 p.length c3] 30) = w4 at *
      have hps := hIs
      rw [isB, Bool.and_eq_true] at hps
      have hpos := hps.1
      simp only [possB, decide_eq_true_eq] at hpos
      have HOf := rofS_any (q := ⟨W, H, d, p⟩) (c := c3) (most := 256) hrp4 (Nat.le_refl _) (small_63 (isB_small hIs))
      simp only [picV] at HOf
      have HOf := Lib.hid HOf
      have hSo := Lib.hid (fun P b (h : OfIs ⟨W, H, d, p⟩ 256 P b) => (⟨of_some h (few_of hIs h3) hIs, of_63 h hIs⟩ : _ ∧ _))
      obtain ⟨_, p0, p1, p2, _⟩ := kp4.four
      obtain ⟨p0, p1, p2, p3, _⟩ := kp4.four
      have hkp4 := kp4.lt
      go_upto_region 6 with (first
        | (go_at_call 10; (with_reducible refine HOf.out.mono ?_); rintro e w5 ⟨⟨ad, an, ac⟩, b5, A5, c5, rfl, hoi, hc5, hr5, hb5⟩; obtain ⟨⟨rfl, hac1, hac2⟩, hac3⟩ := hSo.out _ _ hoi; clear hoi; try simp only [palV]))
      try simp only at hc5 hr5 hac1 hac2 hac3
      have HA63 := Lib.hid hac3
      clear hac3
      have ka6 := Blk.new w5 25 #[.int .i64 ad, .int .i64 an, .slice A5 ac.length c5]
      have kb6 := (kb4.below hb5 kb4.lt).alloc (.cells #[.int .i64 ad, .int .i64 an, .slice A5 ac.length c5] 25)
      have kp6 := (kp4.below hb5 kp4.lt).alloc (.cells #[.int .i64 ad, .int .i64 an, .slice A5 ac.length c5] 25)
      have hT6 := (hT4.below hb5 hT4.lt).alloc (.cells #[.int .i64 ad, .int .i64 an, .slice A5 ac.length c5] 25)
      have bw6 := below_alloc (below_then bw4 hb5) (.cells #[.int .i64 ad, .int .i64 an, .slice A5 ac.length c5] 25)
      have hr6 := hr5.below IsR.good (below_alloc (Below.refl w5.heap.size w5) (.cells #[.int .i64 ad, .int .i64 an, .slice A5 ac.length c5] 25))
      have hs45 := hb5.size
      have hs4 := hT4.lt
      obtain ⟨ga, hga⟩ : ∃ ga, ga = w5.heap.size := ⟨_, rfl⟩
      have hs6 : (w5.alloc (.cells #[.int .i64 ad, .int .i64 an, .slice A5 ac.length c5] 25)).heap.size = ga + 1 := by rw [hga]; simp
      rw [← hga] at ka6 hs45 hr6 ⊢
      clear p0 p1 p2 p3 hga hr5 hb5 hT4 kb4 bw4 kp4 HOf hSo hrp4
      generalize w5.alloc (.cells #[.int .i64 ad, .int .i64 an, .slice A5 ac.length c5] 25) = w6 at *
      have HS6 := Lib.hid hs6
      have HR6 := Lib.hid hr6
      clear hs6 hr6
      obtain ⟨N, hN⟩ : ∃ N : Nat, (W : Int) * (H : Int) = N := ⟨W * H, by simp⟩
      obtain ⟨m1, m2⟩ := mul_64 (a := W) (b := H) (by omega) (by omega)
      rw [hN] at m1 m2
      have hN1 : N ≤ 4096 := by omega
      have HN40 := Lib.hid (fun W (hW : TapeB W w.heap.size g) => next_any hW 40 (by omega) (by omega))
      have HNm := Lib.hid (fun m (h1 : 1 ≤ m) (h2 : m ≤ 300) W (hW : TapeB W w.heap.size g) => next_any hW m h1 (by omega))
      have HK := Lib.hid (fun W => known_any W)
      have hNe := Lib.hid (show g < gp ∧ gp < w4.heap.size ∧ w4.heap.size ≤ ga ∧ w.heap.size < g from ⟨by omega, hkp4, hs45, hkb1⟩)
      clear h3 hIs hps
      go_wp2
      go_loopw [15, 16] (fun v iv wr => ∃ n : List Int, n.length ≤ N ∧ iv = .int .i64 (n.length : Int) ∧ OwnI wr (ga + 1) 3 .i64 v n ∧ TapeB wr w.heap.size g ∧ Mod (· = g) w6 wr) (fun _ iv _ => N - (intOf iv).toNat)
      case atStart => exact ⟨[], Nat.zero_le _, rfl, OwnI.nil_ _ _ _ _, hT6, Mod.refl _ _⟩
      case round =>
        obtain ⟨n, hn, rfl, hown, hT, hM⟩ := hrel
        have kpr := kp6.mod hM (by have := hNe.out; omega)
        have kar := ka6.mod hM (by have := hNe.out; omega)
        have kbr := kb6.mod hM (by have := hNe.out; omega)
        obtain ⟨p0, p1, _, _, _⟩ := kpr.four
        by_cases hlt : n.length < N
        · have y2 := kar.cell 2
          obtain ⟨A7, c7, rfl, hc7, hrd7, _⟩ := hown.form
          have HOw := Lib.hid hown
          have hka := kar.lt
          have hltN : (n.length : Int) < (N : Int) := by omega
          have hwr := wr.drew
          clear hwr hown hrd7
          go_upto_region 10 with fail
          refine wp_region_held_drew (S := (fun w' => w'.cell? ⟨ga, 2, none⟩ = some (.slice A5 ac.length c5))) (by kernel_rfl) ?_ (fun hHeld => ?_)
          focus exact y2
          refine wpAnyH_take (i := 0) (v := ?_) rfl (by kernel_rfl) (by kernel_rfl) (by kernel_rfl) (fun _ _ _ h => h) (Or.inl ⟨by kernel_rfl, ?_⟩) (by assumption) ?_
          rotate_left
          focus
            intro w9 hSw
            (try dsimp only at hSw)
            go_simp
            (try with_reducible rfl)
          (try simp only [Act.put, List.getElem_toArray, List.getElem_cons_succ, List.getElem_cons_zero, List.setIfInBounds_toArray, List.set_cons_zero, List.set_cons_succ])
          refine wpAnyH_take (i := 1) (v := ?_) rfl (by kernel_rfl) (by kernel_rfl) (by kernel_rfl) (fun _ _ _ h => h) (Or.inl ⟨by kernel_rfl, ?_⟩) (by assumption) ?_
          rotate_left
          focus
            intro w9 hSw
            (try dsimp only at hSw)
            go_simp
            (try with_reducible rfl)
          (try simp only [Act.put, List.getElem_toArray, List.getElem_cons_succ, List.getElem_cons_zero, List.setIfInBounds_toArray, List.set_cons_zero, List.set_cons_succ])
          refine wpAnyH_take (i := 2) (v := ?_) rfl (by kernel_rfl) (by kernel_rfl) (by kernel_rfl) (fun _ _ _ h => h) (Or.inl ⟨by kernel_rfl, ?_⟩) (by assumption) ?_
          rotate_left
          focus
            intro w9 hSw
            (try dsimp only at hSw)
            go_simp
            (try with_reducible rfl)
          (try simp only [Act.put, List.getElem_toArray, List.getElem_cons_succ, List.getElem_cons_zero, List.setIfInBounds_toArray, List.set_cons_zero, List.set_cons_succ])
          refine wpAnyH_take (i := 3) (v := ?_) rfl (by kernel_rfl) (by kernel_rfl) (by kernel_rfl) (fun _ _ _ h => h) (Or.inl ⟨by kernel_rfl, ?_⟩) (by assumption) ?_
          rotate_left
          focus
            intro w9 hSw
            (try dsimp only at hSw)
            go_simp
            (try with_reducible rfl)
          (try simp only [Act.put, List.getElem_toArray, List.getElem_cons_succ, List.getElem_cons_zero, List.setIfInBounds_toArray, List.set_cons_zero, List.set_cons_succ])
          refine wpAnyH_take (i := 4) (v := ?_) rfl (by kernel_rfl) (by kernel_rfl) (by kernel_rfl) (fun _ _ _ h => h) (Or.inl ⟨by kernel_rfl, ?_⟩) (by assumption) ?_
          rotate_left
          focus
            intro w9 hSw
            (try dsimp only at hSw)
            go_simp
            (try with_reducible rfl)
          (try simp only [Act.put, List.getElem_toArray, List.getElem_cons_succ, List.getElem_cons_zero, List.setIfInBounds_toArray, List.set_cons_zero, List.set_cons_succ])
          refine wpAnyH_take (i := 5) (v := ?_) rfl (by kernel_rfl) (by kernel_rfl) (by kernel_rfl) (fun _ _ _ h => h) (Or.inl ⟨by kernel_rfl, ?_⟩) (by assumption) ?_
          rotate_left
          focus
            intro w9 hSw
            (try dsimp only at hSw)
            go_simp
            (try with_reducible rfl)
          (try simp only [Act.put, List.getElem_toArray, List.getElem_cons_succ, List.getElem_cons_zero, List.setIfInBounds_toArray, List.set_cons_zero, List.set_cons_succ])
          refine wpAnyH_ready (rs := [6]) (by kernel_rfl) (by simp) (AllReadyH.cons rfl (fun K hK => ?_) AllReadyH.nil)
          go_simp
          go_at_call 11
          refine (HN40.out _ hT.drew).mono ?_
          rintro e w7 ⟨r7, rfl, hr7, hT7, hg7'⟩
          have hg7 := only_trans (only_drew (only_refl wr (some g))) hg7'
          have ka7 := kar.grown hg7 (by simp; have := hNe.out; omega)
          have z2 := ka7.cell 2
          obtain ⟨q, hq⟩ : ∃ q : Nat, q = r7 / 39 := ⟨_, rfl⟩
          have hq1 : q ≤ 1 := by omega
          have htd : (r7 : Int).tdiv 39 = (q : Int) := by rw [hq]; rfl
          have hwq : IntKind.i64.wrap (q : Int) = q := IntWalk.i64_in _ (by omega)
          have hws : IntKind.i64.wrap ((ac.length : Int) + (q : Int)) = (ac.length : Int) + q := IntWalk.i64_in _ (by omega)
          have HNn := Lib.hid (HNm.out ((ac.length : Int) + q) (by omega) (by omega) w7 hT7)
          clear hq
          refine hK.out _ _ ?_ (fun hHeld => ?_)
          focus exact z2
          clear hK K
          (try simp only [Act.put, List.getElem_toArray, List.getElem_cons_succ, List.getElem_cons_zero, List.setIfInBounds_toArray, List.set_cons_zero, List.set_cons_succ])
          refine wpAnyH_take (i := 7) (v := ?_) rfl (by kernel_rfl) (by kernel_rfl) (by kernel_rfl) (fun _ _ _ h => h) (Or.inl ⟨by kernel_rfl, ?_⟩) (by assumption) ?_
          rotate_left
          focus
            intro w9 hSw
            (try dsimp only at hSw)
            go_simp
            (try with_reducible rfl)
          (try simp only [Act.put, List.getElem_toArray, List.getElem_cons_succ, List.getElem_cons_zero, List.setIfInBounds_toArray, List.set_cons_zero, List.set_cons_succ])
          refine wpAnyH_take (i := 8) (v := ?_) rfl (by kernel_rfl) (by kernel_rfl) (by kernel_rfl) (fun _ _ _ h => h) (Or.inl ⟨by kernel_rfl, ?_⟩) (by assumption) ?_
          rotate_left
          focus
            intro w9 hSw
            (try dsimp only at hSw)
            go_simp
            (try with_reducible rfl)
          (try simp only [Act.put, List.getElem_toArray, List.getElem_cons_succ, List.getElem_cons_zero, List.setIfInBounds_toArray, List.set_cons_zero, List.set_cons_succ])
          refine wpAnyH_ready (rs := [9]) (by kernel_rfl) (by simp) (AllReadyH.cons rfl (fun K hK => ?_) AllReadyH.nil)
          go_simp
          go_at_call 11
          refine HNn.out.mono ?_
          rintro e w8 ⟨r8, rfl, hr8, hT8, hg8⟩
          have hg78 := only_trans hg7 hg8
          have ka8 := ka7.grown hg8 (by simp; have := hNe.out; omega)
          have u2 := ka8.cell 2
          have how8 := HOw.out.only hg78 (by have := hNe.out; omega)
          have hs8 := hg78.size
          refine hK.out _ _ ?_ (fun hHeld => ?_)
          focus exact u2
          clear hK K
          (try simp only [Act.put, List.getElem_toArray, List.getElem_cons_succ, List.getElem_cons_zero, List.setIfInBounds_toArray, List.set_cons_zero, List.set_cons_succ])
          refine wpAnyH_ready (rs := [10]) (by kernel_rfl) (by simp) (AllReadyH.cons rfl (fun K hK => ?_) AllReadyH.nil)
          go_simp
          refine hK.out _ _ ?_ (fun hHeld => ?_)
          focus exact (ka8.alloc _).cell 2
          clear hK K
          (try simp only [Act.put, List.getElem_toArray, List.getElem_cons_succ, List.getElem_cons_zero, List.setIfInBounds_toArray, List.set_cons_zero, List.set_cons_succ])
          have rl := RdI.lit w8 .i64 [(r8 : Int)] 3 #[.int .i64 (r8 : Int)] rfl
          have hs9 : ga + 1 ≤ w8.heap.size := by have := hM.size; have := HS6.out; omega
          have bw9 : Below (ga + 1) w8 (w8.alloc (.cells #[.int .i64 (r8 : Int)] 3)) := (below_alloc (Below.refl w8.heap.size w8) _).mono hs9
          have how9 := how8.below (below_alloc (Below.refl w8.heap.size w8) (.cells #[.int .i64 (r8 : Int)] 3))
          have hs9' : ga + 1 ≤ (w8.alloc (.cells #[.int .i64 (r8 : Int)] 3)).heap.size := by simp; omega
          refine wpAnyH_ready (rs := [11]) (by kernel_rfl) (by simp) (AllReadyH.cons rfl (fun K hK => ?_) AllReadyH.nil)
          refine step_append_int _ (by rfl) (.tmp 42) (.tmp 52) _ (by rfl) w8 (ga + 1) (ga + 1) 3 .i64 8 Try.underlying22 info_int _ n (by rfl) (by exact how9) _ (some ⟨w8.heap.size, 0, none⟩) 1 1 [(r8 : Int)] (by rfl) (by rfl) (by exact rl) (by simp; omega) (by omega) (by exact bw9) (Nat.le_refl _) (by exact hs9') ?_
          intro v10 w10 hown10 hb10 _ _
          have hM10 : Mod (· = g) w6 w10 := hM.trans ((Mod.of_only (M := fun b => b = g ∨ ga + 1 ≤ b) hg78 (fun _ => .inl rfl)).then_ (Mod.of_below hb10 (fun b h _ => .inr h))) (fun b h1 h2 => by
            rcases h1 with h1 | h1
            · exact h1
            · have := HS6.out; omega)
          have hT10 := hT8.below hb10 (by have := hNe.out; omega)
          have ka10 := ka8.below hb10 (by omega)
          have y10 := ka10.cell 2
          obtain ⟨A10, c10, rfl, _, _, _⟩ := hown10.form
          rw [List.length_append, List.length_singleton] at hown10
          refine hK.out _ _ ?_ (fun hHeld => ?_)
          focus exact y10
          clear hK K
          (try simp only [Act.put, List.getElem_toArray, List.getElem_cons_succ, List.getElem_cons_zero, List.setIfInBounds_toArray, List.set_cons_zero, List.set_cons_succ])
          refine wpAnyH_take (i := 12) (v := ?_) rfl (by kernel_rfl) (by kernel_rfl) (by kernel_rfl) (fun _ _ _ h => h) (Or.inl ⟨by kernel_rfl, ?_⟩) (by assumption) ?_
          rotate_left
          focus
            intro w9 hSw
            (try dsimp only at hSw)
            go_simp
            (try with_reducible rfl)
          (try simp only [Act.put, List.getElem_toArray, List.getElem_cons_succ, List.getElem_cons_zero, List.setIfInBounds_toArray, List.set_cons_zero, List.set_cons_succ])
          refine wpAnyH_done (by kernel_rfl) ?_ _
          (try simp only [Act.put, List.getElem_toArray, List.getElem_cons_succ, List.getElem_cons_zero, List.setIfInBounds_toArray, List.set_cons_zero, List.set_cons_succ])
          go_wp2
          go_roundw
          case rel => exact ⟨n ++ [(r8 : Int)], by rw [List.length_append, List.length_singleton]; omega, (by simp), hown10, hT10, hM10⟩
          case measure => simp [intOf]; omega
        · have hnN : n.length = N := by omega
          subst hnN
          have hltN : ¬ (n.length : Int) < (n.length : Int) := by omega
          obtain ⟨A7, c7, rfl, hc7, hrd7, _⟩ := hown.form
          have hMs := hM.size
          have hwb : Below w.heap.size w wr := bw6.trans ((Mod.of_only (M := fun b => w.heap.size ≤ b) hM.only (fun _ => by have := hNe.out; omega)).below (by have := bw6.size; omega) (fun b h => h))
          have hra := HR6.out.keep IsR.good hM (fun b hb _ e => by have := hNe.out; omega)
          have hra2 := hra.rdLL (B := wr.heap.size) (fun b hb => by have := HS6.out; omega)
          have HL1 := Lib.hid (fun W' (h : Below wr.heap.size wr W') => paints_any (a := (W : Int)) (b := (H : Int)) (c := c7) (c2 := c5) (P := ⟨ad, an, ac⟩) (hrd7.below h (Nat.le_refl _)) (hra2.below h (Nat.le_refl _)) h.size hc5 HA63.out)
          have HL2 := Lib.hid (fun W' (h : Below wr.heap.size wr W') => paints_any (a := (H : Int)) (b := (W : Int) + 1) (c := c7) (c2 := c5) (P := ⟨ad, an, ac⟩) (hrd7.below h (Nat.le_refl _)) (hra2.below h (Nat.le_refl _)) h.size hc5 HA63.out)
          have HL4 := Lib.hid (fun W' (h : Below wr.heap.size wr W') => paints_any (a := a) (b := b) (c := c1) (c2 := c5) (P := ⟨ad, an, ac⟩) (((HRl.out wr hwb).below h (Nat.le_trans (Nat.le_refl _) hwb.size)).more hwb.size) (hra2.below h (Nat.le_refl _)) h.size hc5 HA63.out)
          have HWb := Lib.hid hwb
          have y0 := kar.cell 0
          have y1 := kar.cell 1
          have y2 := kar.cell 2
          have x0 := kbr.cell 0
          have x1 := kbr.cell 1
          have x2 := kbr.cell 2
          have hkpl := kpr.lt
          have hkal := kar.lt
          have hkbl := kbr.lt
          have hwW : IntKind.i64.wrap ((W : Int) + 1) = (W : Int) + 1 := IntWalk.i64_in _ (by omega)
          clear hown hrd7 hra hra2 hM hwb HR6
          try simp only [palV] at HL1 HL2 HL4
          go_upto_region 11 with fail
          go_wp2_with (first
            | (go_at_call 12; (with_reducible refine (HL1.out _ (Below.refl _ _)).mono ?_); rintro e w7 ⟨rfl, hb7⟩; obtain ⟨p0, p1, _, _, _⟩ := (kpr.below hb7 hkpl).four; have ka7 := kar.below hb7 hkal; have y0 := ka7.cell 0; have y1 := ka7.cell 1; have y2 := ka7.cell 2; clear ka7; have H7 := Lib.hid hb7; clear hb7)
            | (go_at_call 12; (with_reducible refine (HL2.out _ H7.out).mono ?_); rintro e w8 ⟨rfl, hb8⟩; have H8 := Lib.hid (below_then H7.out hb8); clear hb8; have kb8 := kbr.below H8.out hkbl; have x0 := kb8.cell 0; have x1 := kb8.cell 1; have x2 := kb8.cell 2; clear kb8; have H8w := Lib.hid (below_then HWb.out H8.out))
            | (go_at_call 12; (with_reducible refine (HPt.out _ H8w.out).mono ?_); rintro e w9 ⟨rfl, hb9⟩; have H9 := Lib.hid (below_then H8.out hb9); clear hb9; have ka9 := kar.below H9.out hkal; have y0 := ka9.cell 0; have y1 := ka9.cell 1; have y2 := ka9.cell 2; clear ka9)
            | (go_at_call 12; (with_reducible refine (HL4.out _ H9.out).mono ?_); rintro e w10 ⟨rfl, hb10⟩; have H10 := Lib.hid (below_then H9.out hb10); clear hb10)
            | (go_at_call 13; (with_reducible refine (HK.out _).mono ?_); rintro e w11 ⟨rfl, hb11⟩))
          go_ret
          exact ⟨rfl, below_then (below_then HWb.out H10.out) hb11⟩
  · have g1 : decide ((4200 : Int) < (l.length : Int)) = true := decide_eq_true (by omega)
    obtain ⟨pd, pn, pc⟩ := P
    simp only [palV] at *
    go_enter Try.func3, Try.ntmps3
    go_wp2
    go_ret
    exact ⟨rfl, hbx⟩
end Go.Proofs.Ytbbflddhbamjbaa.palettePaints
