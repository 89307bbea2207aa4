/- known of chapter 38. -/
import Derived.Test.YtdlbjilbdbjadaaDkL
set_option linter.unusedSimpArgs false
set_option linter.unusedVariables false
namespace Go.Proofs.Ytdlbjilbdbjadaa
open Go.RowKit

theorem log_start {N : Nat} (h : 2 ≤ N) : LogI ⟨N, List.replicate (64 * N) 0, List.replicate (64 * N) 0, []⟩ ⟨0, 1, []⟩ (List.replicate 64 0) [] 1 [] [] := by
  have ht : (List.replicate (64 * N) (0 : Int)).take 64 = List.replicate 64 0 := by rw [List.take_replicate, Nat.min_eq_left (by omega)]
  refine ⟨by simp, by simp, Nat.le_refl _, Nat.le_refl _, by show 1 ≤ N; omega, .inr ⟨?_, rfl, rfl⟩, Laid.nil_, ?_, ?_, by simp, by simp, fun x hx => (by cases hx), rfl, fun i hi => (by simp at hi), by simp⟩
  · rw [List.take_replicate]; simp
  · show (List.replicate (64 * N) (0 : Int)).take (64 * 1) ++ [] = _
    rw [Nat.mul_one, ht]; simp
  · show (List.replicate (64 * N) (0 : Int)).take (64 * 1) = _
    rw [Nat.mul_one, ht]; simp
def kpg : Pg := ⟨0, true, false, false, [97, 98]⟩
theorem kpg_good : PgGood kpg 0 := ⟨by decide, rfl, rfl, ⟨by simp [kpg, i64B], by simp [kpg], fun x hx => by simp [kpg] at hx; omega⟩⟩
theorem kpg_len : (pgBytes kpg).length = 14 := by rw [pgBytes_len]; rfl
theorem pgBytes_byte {p : Pg} {k : Nat} (h : PgGood p k) : byteB (pgBytes p) := (pgHead_bytes h.ok h.wf.bytes).append (bg_bytes _ _)
theorem str_ab : str [97, 98] = ⟨#[97, 98]⟩ := rfl
theorem str_hd : str [75, 82, 69, 67, 0, 0, 0, 1, 0, 0, 0, 2] = ⟨#[75, 82, 69, 67, 0, 0, 0, 1, 0, 0, 0, 2]⟩ := rfl
theorem hdr12 : (hdrB 1 2).take 12 = [75, 82, 69, 67, 0, 0, 0, 1, 0, 0, 0, 2] := by decide
set_option maxHeartbeats 8000000 in
set_option maxRecDepth 100000 in
theorem known_any (w : World) : Calls Try.prog 17 #[] w fun e w' => e = .returned (.bool true) ∧ Below w.heap.size w w' := by
  have HN := dnew_any (N := 4) (by omega) (by omega) w
  rw [show ((4 : Nat) : Int) = 4 from rfl] at HN
  replace HN := Lib.hid HN
  have kc := fun (w : World) (C : Array Value) (n c : Nat) => Lib.run_convert_bytes_const (P := Try.prog) w 36 5 C n c Try.underlying36 Try.underlying5
  have L0 := log_start (N := 4) (by omega)
  have G0 := L0.good (by simp)
  generalize hs0 : (⟨4, List.replicate (64 * 4) 0, List.replicate (64 * 4) 0, []⟩ : Dk) = s0 at *
  have hq0 : s0.qs = [] := by rw [← hs0]
  have hn0 : s0.n = 4 := by rw [← hs0]
  have HL0 := Lib.hid L0
  have HG0 := Lib.hid G0
  have HQ0 := Lib.hid hq0
  have HN0 := Lib.hid hn0
  clear L0 G0 hq0 hn0 hs0
  go_enter Try.func17, Try.ntmps17
  go_upto_region 4 with (first
    | (go_at_call 7; (with_reducible refine HN.out.mono ?_); rintro e w1 ⟨gd, gs, ge, rfl, hD1, hb1⟩))
  have HSt := Lib.hid (start_any hD1 HG0.out (by rw [HQ0.out]; exact Nat.zero_le _))
  clear hD1
  go_upto_region 7 with (first
    | (go_at_call 8; (with_reducible refine HSt.out.mono ?_); rintro e w2 ⟨gr, rfl, hgr, hR2, hb2⟩))
  have bb2 := below_then hb1 hb2
  have hlit := RdI.litG w2 .u8 [97, 98] #[.int .u8 97, .int .u8 98] 5 (2, 3) rfl
  have bl := below_alloc (Below.refl w2.heap.size w2) (.cells #[.int .u8 97, .int .u8 98] 5 (2, 3))
  have hls : w2.heap.size + 1 ≤ (w2.alloc (.cells #[.int .u8 97, .int .u8 98] 5 (2, 3))).heap.size := by simp
  have hR3 := hR2.below bl
  have hAdd := radd_any hR3 kpg (some ⟨w2.heap.size, 0, none⟩) 2 kpg_good.wf (hlit.more hls) (by rw [pgE, if_pos kpg_good.ok]) rfl rfl (by show 0 < 1000000; omega) (by rw [kpg_len, HN0.out]; show 1 * 64 + 0 + 14 ≤ 4 * 64; omega) (by rw [kpg_len]; omega) (by show (0 : Nat) ≤ 300; omega) (pgBytes_byte kpg_good)
  simp only [Pg.val, kpg, List.length_cons, List.length_nil, Nat.zero_add, Nat.reduceAdd] at hAdd
  replace hAdd := Lib.hid hAdd
  clear hlit hR2 hR3 hls
  go_upto_region 8 with (first
    | (go_at_call 12; (with_reducible refine hAdd.out.mono ?_); rintro e w4 ⟨rfl, vq4, vr4, s4, u4_, l4, hdr4, hR4, hl4, hm4, hF4⟩))
  have hkl := kpg_len
  have hs4 : s4 = s0 ∧ u4_ = 1 ∧ l4 = pgBytes kpg := by
    have e : ([] ++ pgBytes kpg).length / 64 = 0 := by rw [List.nil_append, hkl]
    rw [show ({ seq := 0, first := true, last := false, guard := false, body := [97, 98] } : Pg) = kpg from rfl, e, drain] at hdr4
    simp only [Prod.mk.injEq, List.nil_append] at hdr4
    exact ⟨hdr4.1.symm, hdr4.2.1.symm, hdr4.2.2.symm⟩
  obtain ⟨rfl, rfl, rfl⟩ := hs4
  obtain ⟨L4, _, _⟩ := log_add HL0.out (p := kpg) kpg_good (by rw [List.nil_append, hkl, HN0.out]; show 1 * 64 + 14 ≤ 4 * 64; omega) (k := 0) (s' := s4) (u' := 1) (l' := pgBytes kpg) (by rw [drain]; rfl) hl4
  obtain ⟨L5, hn5, hu5⟩ := log_sync L4 (fun _ => by show 1 < s4.n; rw [HN0.out]; omega) (by show 1 < 4294967296; omega) (by rw [HN0.out]; omega)
  have hU5 : syncU ⟨1, 1, pgBytes kpg⟩ = 2 := by rw [syncU, if_neg (fun h => by have := congrArg List.length h; rw [hkl] at this; simp at this)]
  have G5 := L5.good (by simp)
  have hq5 : (syncD s4 ⟨1, 1, pgBytes kpg⟩).qs = [] := rfl
  have hse5 := L5.head
  have HRe4 := recover_any hR4.dk HG0.out.hdr HG0.out.u1 HG0.out.un HG0.out.lies HG0.out.len
  replace HRe4 := Lib.hid HRe4
  have HWa := fun W (hW : Below w4.heap.size w4 W) => dwaits_any (hR4.dk.below hW)
  have hq4 : s4.qs.length = 0 := by rw [HQ0.out]; rfl
  simp only [hq4] at HWa
  rw [show ((0 : Nat) : Int) = 0 from rfl] at HWa
  replace HWa := Lib.hid HWa
  have HSy := Lib.hid (fun W (hW : Below w4.heap.size w4 W) => rsync_any (hR4.below hW) (by show (pgBytes kpg).length < 64; rw [hkl]; omega) (fun _ => by show 1 < s4.n; rw [HN0.out]; omega))
  have HG5 := Lib.hid G5
  have HSe5 := Lib.hid hse5
  have HN5 := Lib.hid (hn5.trans HN0.out)
  have HU5 := Lib.hid hU5
  have hb24 := (Mod.of_fresh bl).trans (M := fun b => rkF gd gs ge gr (.slice none 0 0) (.slice none 0 0) b) (M' := rkF gd gs ge gr (.slice none 0 0) (.slice none 0 0)) hm4 (fun b h _ => h)
  have hbs2 := hb24.size
  have hrl := hR4.lt
  have HRl4 := Lib.hid hrl
  have hge0 : ∀ b, rkF gd gs ge gr (.slice none 0 0) (.slice none 0 0) b → w.heap.size ≤ b := fun b hb => by
    rcases hb with hb | rfl | hb
    · rcases hb with rfl | rfl | rfl | hb
      · exact (hrl _ (.inl (.inl rfl))).1
      · exact (hrl _ (.inl (.inr (.inl rfl)))).1
      · exact (hrl _ (.inl (.inr (.inr (.inl rfl))))).1
      · cases hb
    · exact (hrl _ (.inr (.inl rfl))).1
    · cases hb
  have bb4 : Below w.heap.size w w4 := bb2.trans (hb24.below bb2.size hge0)
  clear hR4 hm4 hF4 hAdd HSt L4 L5 G5 hse5 hn5 hu5 hU5 hq5 hl4 hdr4 hq4 hb24 hrl hb2 hb1 bl kc
  go_upto_region 11 with (first
    | (go_at_call 15; (with_reducible refine HRe4.out.mono ?_); rintro e w5 ⟨v5, rfl, ho5, hb5⟩; obtain ⟨A5, c5, rfl, _, _, _⟩ := ho5.form PgR.good)
    | (go_at_call 37; (with_reducible refine (HWa.out _ hb5).mono ?_); rintro e w6 ⟨rfl, rfl⟩)
    | (go_at_call 13; (with_reducible refine (HSy.out _ hb5).mono ?_); rintro e w7 ⟨rfl, vr7, hR7, hm7, hv7⟩))
  have hg5 := HG5.out
  simp only [List.nil_append] at hg5
  have HRe7 := recover_any hR7.dk hg5.hdr hg5.u1 hg5.un hg5.lies hg5.len
  replace HRe7 := Lib.hid HRe7
  have HRd7 := fun W (hW : Below w7.heap.size w7 W) => dread_any (hR7.dk.below hW) (N := 0) (by rw [HN5.out]; omega)
  rw [show ((0 : Nat) : Int) = 0 from rfl] at HRd7
  replace HRd7 := Lib.hid HRd7
  have HR7 := Lib.hid hR7
  have bb7 : Below w.heap.size w w7 := (below_then bb4 hb5).trans (hm7.below (Nat.le_trans bb4.size hb5.size) (fun b hb => by
    exact (HRl4.out b hb).1))
  clear hR7
  go_upto_region 13 with (first
    | (go_at_call 15; (with_reducible refine HRe7.out.mono ?_); rintro e w8 ⟨v8, rfl, ho8, hb8⟩; obtain ⟨A8, c8, rfl, hc8, hr8⟩ := ho8.reads PgR.good (S := fun b => b < w8.heap.size) (fun b _ hl => hl))
    | (go_at_call 19; (with_reducible refine (HRd7.out _ hb8).mono ?_); rintro e w9 ⟨v9, rfl, ho9, hb9⟩))
  obtain ⟨ad, pp, Ab, cb, rfl, _, hpp, y0, y1, y2, y3, y4, _, hrb, _⟩ := RdPg.at_ hr8 (j := 0) (by simp)
  have hpa : pp = ad := by rw [← hpp]; simp [Addr.add]
  subst hpa
  have ha0 : pp.add 0 = pp := by simp [Addr.add]
  simp only [List.nil_append, List.getElem_cons_zero] at y4 hrb
  have y4b := (hb9.cell (p := ⟨pp.block, pp.off + 4, none⟩) (World.block_lt_of_cell? w8 _ y4)).trans y4
  rw [show kpg.body.length = 2 from rfl] at y4b
  have hrb9 := (RdS.top hrb).below hb9 (Nat.le_refl _)
  have r1 := run_str (P := Try.prog) Try.underlying36 Try.underlying5 Try.underlying9 hrb9 cb
  rw [show kpg.body = [97, 98] from rfl, str_ab] at r1
  simp only [List.length_cons, List.length_nil, Nat.zero_add, Nat.reduceAdd] at r1
  have hsec : ((syncD s4 ⟨1, 1, pgBytes kpg⟩).see.drop (64 * 0)).take 64 = hdrB 1 2 := by
    have h := congrArg (List.take 64) HSe5.out
    rw [HU5.out] at h
    have e2 : ∀ X : List Int, (hdrB (0 + 1) 2 ++ X).take 64 = hdrB 1 2 := fun X => by
      have := List.take_left (l₁ := hdrB 1 2) (l₂ := X)
      rw [hdrB_len] at this
      exact this
    rw [e2, List.take_take, show min 64 (64 * 2) = 64 from rfl] at h
    rw [Nat.mul_zero, List.drop_zero]
    exact h
  rw [hsec] at ho9
  obtain ⟨A9, c9, rfl, hc9, hr9, _⟩ := ho9.form
  rw [hdrB_len] at hc9
  have hr12 := RdI.take hr9 (n := 12) (by rw [hdrB_len]; omega)
  have r2 := run_str (P := Try.prog) Try.underlying36 Try.underlying5 Try.underlying9 hr12 c9
  rw [hdr12, str_hd] at r2
  simp only [List.length_cons, List.length_nil, Nat.zero_add, Nat.reduceAdd] at r2
  have hR9 := (HR7.out.below hb8).below hb9
  have HWa9 := dwaits_any hR9.dk
  have HLe9 := dlen_any hR9.dk
  have HNx9 := rnext_any hR9
  rw [HN5.out] at HLe9
  rw [show (syncD s4 ⟨1, 1, pgBytes kpg⟩).qs.length = 0 from rfl] at HWa9
  rw [show ((0 : Nat) : Int) = 0 from rfl] at HWa9
  rw [show ((4 : Nat) : Int) = 4 from rfl] at HLe9
  rw [show ((1 : Nat) : Int) = 1 from rfl] at HNx9
  replace HWa9 := Lib.hid HWa9
  replace HLe9 := Lib.hid HLe9
  replace HNx9 := Lib.hid HNx9
  have hc9i : (12 : Int) ≤ (c9 : Int) := by omega
  clear hR9 hr12 hr9 ho9 hsec hrb9 hrb y0 y1 y2 y3 y4 hr8 ho8 hpp
  (try rw [hdrB_len])
  go_wp2_with (first
    | (go_at_call 37; (with_reducible refine HWa9.out.mono ?_); rintro e w10 ⟨rfl, rfl⟩)
    | (go_at_call 32; (with_reducible refine HLe9.out.mono ?_); rintro e w11 ⟨rfl, rfl⟩)
    | (go_at_call 9; (with_reducible refine HNx9.out.mono ?_); rintro e w12 ⟨rfl, rfl⟩))
  go_ret
  exact ⟨rfl, below_then (below_then bb7 hb8) hb9⟩
end Go.Proofs.Ytdlbjilbdbjadaa
