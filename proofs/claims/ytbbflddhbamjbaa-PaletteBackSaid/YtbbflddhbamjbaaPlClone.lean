/- clone of a palette. -/
import Derived.Test.YtbbflddhbamjbaaPlRank
import Derived.Deep.DeepCutAuto
set_option linter.unusedSimpArgs false
set_option linter.unusedVariables false
namespace Go.Proofs.Ytbbflddhbamjbaa
open Go.RowKit
set_option maxHeartbeats 8000000 in
set_option maxRecDepth 100000 in
theorem palclone_any {P : Pal} {A : Option Addr} {c : Nat} {w : World} {B : Nat} (hr : RdLL w B .i64 A P.c) (hB : B ≤ w.heap.size) (hn : P.c.length ≤ 1000000) (hrow : ∀ l ∈ P.c, l.length ≤ 1000000) :
    Calls Try.prog 52 #[palV P A c] w fun e w' => ∃ A' c', e = .returned (palV P A' c') ∧ P.c.length ≤ c' ∧ OwnG IsR 1 22 w' w.heap.size (fun x => w.heap.size ≤ x ∧ x < w'.heap.size) (.slice A' P.c.length c') P.c ∧ Below w.heap.size w w' := by
  obtain ⟨d, n, cs⟩ := P
  simp only [palV] at *
  have HRw := Lib.hid hrow
  have HPs := Lib.hid (fun r (hr : r < cs.length) => preC_set (os := cs) hr)
  have HPn := Lib.hid (fun r (hr : r ≤ cs.length) => preC_len (os := cs) hr)
  have HP0 := Lib.hid (preC_zero cs)
  have HPf := Lib.hid (preC_full cs)
  obtain ⟨M, hM⟩ : ∃ M, cs.length = M := ⟨_, rfl⟩
  have HM := Lib.hid hM
  rw [hM] at hn ⊢
  have hmh := fun W => run_make_one (P := Try.prog) W 23 Try.underlying23 info_ints (z := .slice none 0 0) rfl (by omega) .i64 M (by omega)
  have kp := (Blk.new w 25 #[.int .i64 d, .int .i64 n, .slice A M c]).alloc (.cells #[.int .i64 0, .int .i64 0, .slice none 0 0] 25)
  have kz := Blk.new1 w (.cells #[.int .i64 d, .int .i64 n, .slice A M c] 25) 25 #[.int .i64 0, .int .i64 0, .slice none 0 0]
  have bb := below_alloc (below_alloc (Below.refl w.heap.size w) (.cells #[.int .i64 d, .int .i64 n, .slice A M c] 25)) (.cells #[.int .i64 0, .int .i64 0, .slice none 0 0] 25)
  clear hM hrow
  go_enter Try.func52, Try.ntmps52
  go_upto_region 1 with fail
  generalize (w.alloc (.cells #[.int .i64 d, .int .i64 n, .slice A M c] 25)).alloc (.cells #[.int .i64 0, .int .i64 0, .slice none 0 0] 25) = w5 at *
  have hkp := kp.lt
  have hkz := kz.lt
  have p0 := kp.cell 0
  have p1 := kp.cell 1
  have p2 := kp.cell 2
  go_upto_region 2 with fail
  have hm0 := OwnG.made (R := IsR) (e := 22) (base := w5.heap.size) (D := fun x => w5.heap.size ≤ x ∧ x < w5.heap.size + 1) w5 (Nat.le_refl _) (n := M) (by omega) (z := .slice none 0 0) (x := []) (fun W' S => ⟨none, 0, rfl, Nat.le_refl _, RdS.nil_⟩)
  have b56 := below_alloc (Below.refl w5.heap.size w5) (.cells (Array.replicate M (.slice none 0 0)) 22)
  have hs6 : w5.heap.size < (w5.alloc (.cells (Array.replicate M (.slice none 0 0)) 22)).heap.size := by simp
  generalize w5.alloc (.cells (Array.replicate M (.slice none 0 0)) 22) = w6 at *
  have hM0 : OwnG IsR 1 22 w6 w5.heap.size (fun x => w5.heap.size ≤ x ∧ x < w6.heap.size) (.slice (some ⟨w5.heap.size, 0, none⟩) M M) (preC cs 0) := by
    rw [HP0.out, HM.out]
    exact hm0.weak IsR.good (fun b hb hl => ⟨hb.1, hl⟩)
  have kp6 := kp.below b56 hkp
  clear hm0 hmh p0 p1 p2
  have p2 := kp6.cell 2
  go_wp2
  clear p2
  go_loopw [13] (fun iv w7 => ∃ r : Nat, r ≤ M ∧ iv = .int .i64 r ∧ OwnG IsR 1 22 w7 w5.heap.size (fun x => w5.heap.size ≤ x ∧ x < w7.heap.size) (.slice (some ⟨w5.heap.size, 0, none⟩) M M) (preC cs r) ∧ Below w5.heap.size w5 w7) (fun iv _ => M - (intOf iv).toNat)
  case atStart => exact ⟨0, Nat.zero_le _, rfl, hM0, b56⟩
  case round =>
    obtain ⟨r, hr9, rfl, hO, hb7⟩ := hrel
    have b07 := bb.trans (hb7.mono bb.size)
    have kp7 := kp.below hb7 hkp
    by_cases hlt : r < M
    · have hkM : r < cs.length := by rw [HM.out]; exact hlt
      obtain ⟨ad, Aj, cj, rfl, hadB, hcell, hcj, hrj⟩ := (hr.below b07 hB) r hkM
      have hlen := HRw.out _ (mem_getD hkM)
      have HCn := Lib.hid (clone_any Aj (cs.getD r []).length cj (cs.getD r []) rfl (by omega) wr B (by have := b07.size; omega) hrj)
      have HRe := Lib.hid (show cs.getD r [] = cs.getD r [] from rfl)
      have HO := Lib.hid hO
      have hri : (r : Int) < (M : Int) := by omega
      have e9 := HPs.out r hkM
      clear hO hrj
      generalize cs.getD r [] = row at *
      have hw57 := hb7.size
      have HAft := Lib.hid (show ∀ w8 A8 c8, OwnI w8 wr.heap.size 3 .i64 (.slice A8 row.length c8) row → Below wr.heap.size wr w8 → (∃ u, w8.cell? ⟨w5.heap.size, r, none⟩ = some u) ∧ w8.frozen? ⟨w5.heap.size, r, none⟩ = false ∧ OwnG IsR 1 22 (w8.setCell ⟨w5.heap.size, r, none⟩ (.slice A8 row.length c8)) w5.heap.size (fun x => w5.heap.size ≤ x ∧ x < w8.heap.size) (.slice (some ⟨w5.heap.size, 0, none⟩) M M) ((preC cs r).set r row) from fun w8 A8 c8 how8 hb8 => by
        have hs8 := hb8.size
        have hO8 := (HO.out.keep IsR.good (Mod.of_fresh (M := fun _ => False) hb8) (fun _ _ _ h => h) (fun _ _ h => h)).weak IsR.good (D' := fun x => w5.heap.size ≤ x ∧ x < w8.heap.size) (fun b hb _ => ⟨hb.1, by have := hb.2; omega⟩)
        have hpl := HPn.out r (by rw [HM.out]; exact hr9)
        have hrl9 := HM.out
        obtain ⟨gb, cb, hv, hgb1, hgb2, hcb, hfz, hget, hset⟩ := hO8.row1 IsR.good (by omega)
        simp only [Value.slice.injEq, Option.some.injEq, Addr.mk.injEq, and_true] at hv
        obtain ⟨rfl, _, rfl⟩ := hv
        obtain ⟨u8, hu8, _⟩ := hget r (by omega)
        obtain ⟨_, hc8, hr8⟩ := how8.rds
        exact ⟨⟨u8, hu8⟩, hfz r, hset r (.slice A8 row.length c8) row ⟨A8, c8, rfl, hc8, hr8.weak (fun b hb _ => ⟨⟨by have := hb.1; omega, hb.2.1⟩, fun e => by injection e with e; have := hb.1; have := (HO.out.own_ge w5.heap.size rfl).2; omega⟩)⟩⟩)
      have HE9 := Lib.hid e9
      clear e9
      go_wp2_with (first
        | (go_at_call 46; (with_reducible refine HCn.out.mono ?_); rintro e w8 ⟨A8, c8, rfl, how8, hb8⟩; obtain ⟨⟨u8, hu8⟩, hf8, hst⟩ := HAft.out w8 A8 c8 how8 hb8; have HSt := Lib.hid hst; clear hst how8))
      go_roundw
      case rel => exact ⟨r + 1, by omega, by go_num, by rw [← HE9.out]; exact HSt.out.weak IsR.good (fun b hb _ => ⟨hb.1, by have := hb.2; simp; omega⟩), below_put (hb7.trans (hb8.mono hb7.size)) (Nat.le_refl _)⟩
      case measure => simp [intOf]; omega
    · have hri : r = M := by omega
      subst hri
      have kz7 := (kz.below hb7 hkz)
      have p0 := kp7.cell 0
      have p1 := kp7.cell 1
      have y0 := kz7.cell 0
      have y1 := kz7.cell 1
      have y2 := kz7.cell 2
      have f0 := kz7.frozen 0
      have f1 := kz7.frozen 1
      have f2 := kz7.frozen 2
      have hrr := HM.out
      have hOf : OwnG IsR 1 22 wr w5.heap.size (fun x => w5.heap.size ≤ x ∧ x < wr.heap.size) (.slice (some ⟨w5.heap.size, 0, none⟩) r r) cs := by
        have h := HPf.out
        rw [hrr] at h
        rw [← h]; exact hO
      have HOf := Lib.hid hOf
      have HRr := Lib.hid hrr
      clear hO hOf hrr
      go_wp2
      refine bodyPost_ret (v := .agg #[.int .i64 d, .int .i64 n, .slice (some ⟨w5.heap.size, 0, none⟩) r r]) (by simp [results, Try.results52, go_sem, y0, y1, y2]) rfl ?_
      have hm9 : Mod (· = w.heap.size + 1) wr (((wr.setCell ⟨w.heap.size + 1, 0, none⟩ (.int .i64 d)).setCell ⟨w.heap.size + 1, 1, none⟩ (.int .i64 n)).setCell ⟨w.heap.size + 1, 2, none⟩ (.slice (some ⟨w5.heap.size, 0, none⟩) r r)) := mod_put (mod_put (mod_put (Mod.refl _ _) (fun _ => rfl)) (fun _ => rfl)) (fun _ => rfl)
      have hfin := (HOf.out.keep IsR.good hm9 (fun b hb _ e => by have := hb.1; omega) (fun b hb e => by simp [Value.ownBlock] at hb; omega)).base_ (base' := w.heap.size) (by omega)
      exact ⟨_, _, rfl, Nat.le_refl _, hfin.weak IsR.good (fun b hb hl => ⟨by have := hb.1; omega, hl⟩), b07 |>.setCell (by simp) _ |>.setCell (by simp) _ |>.setCell (by simp) _⟩
end Go.Proofs.Ytbbflddhbamjbaa
