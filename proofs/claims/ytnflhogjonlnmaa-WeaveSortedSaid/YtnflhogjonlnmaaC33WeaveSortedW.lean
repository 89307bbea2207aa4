/- WeaveSorted: the walk. -/
import Derived.Test.YtnflhogjonlnmaaWvKnown
import Derived.Test.YtnflhogjonlnmaaWvAll
import Derived.Test.YtnflhogjonlnmaaWvSdL
import Derived.Test.YtnflhogjonlnmaaTapeSt
import Derived.Test.YtnflhogjonlnmaaPkSame
import Derived.Test.YtnflhogjonlnmaaPicLL
import Derived.Test.YtnflhogjonlnmaaPicLast
import Derived.Test.YtnflhogjonlnmaaPkVal
set_option linter.unusedSimpArgs false
set_option linter.unusedVariables false
namespace Go.Proofs.Ytnflhogjonlnmaa
open Go.RowKit
theorem tape_lay {st : Int} {l : List Pk} (h0 : 0 ≤ st ∧ st < 4) (h : TapePks st l) : ∀ p ∈ l, layE p = 0 := fun p hp => by
  have h1 := h.st p hp
  have h2 := h.time p hp
  have h3 := h.data p hp
  rw [layE, if_pos (by simp [Pk.head]; omega), if_neg (by omega)]
theorem tape_weave {m : Int} {ls : List (List Pk)} (h : TapeSts m ls) (h1 : 1 ≤ ls.length) (h4 : ls.length ≤ 4) : weaveE ls = 0 := by
  rw [weaveE, if_neg, if_neg]
  · intro hn
    refine hn (fun i hi j hj => ?_)
    have hp := ((h.each i hi).1).order
    rw [pk_get (by omega), pk_get (by omega)]
    exact List.pairwise_iff_getElem.1 hp j (j + 1) (by omega) (by omega) (by omega)
  · rintro (h9 | h9 | h9)
    · omega
    · omega
    · refine h9 (fun i hi j hj => ?_)
      have hp := (h.each i hi).1
      rw [pk_get hj]
      exact ⟨tape_lay (by omega) hp _ (List.getElem_mem hj), hp.st _ (List.getElem_mem hj)⟩
theorem total_small {m : Nat} {ls : List (List Pk)} (h : TapeSts (m : Int) ls) (h4 : ls.length ≤ 4) : total ls ≤ 4 * m := by
  have h1 := total_le (B := m) ls (fun x hx => by
    obtain ⟨j, hj, rfl⟩ := List.mem_iff_getElem.1 hx
    have := (h.each j hj).2
    rw [getD_rs hj] at this
    omega)
  have h2 : ls.length * m ≤ 4 * m := Nat.mul_le_mul_right _ h4
  omega
theorem ic_setA (l : List Int) (j : Nat) (x : Int) : (ic .i64 l).toArray.setIfInBounds j (.int .i64 x) = (ic .i64 (l.set j x)).toArray := by
  simp [ic_set]
theorem info_int : (Try.prog.info? 3).map (fun i => (i.zero, i.size, i.bytes)) = some (some (.int .i64 0), 1, 8) := by kernel_rfl
theorem atl_blk {W : World} {M : List Pk} {n : Nat} : (Array.replicate n (Value.int .i64 0)) = (ic .i64 (atl M n 0)).toArray := by
  rw [atl_zero]; simp [ic]
end Go.Proofs.Ytnflhogjonlnmaa
namespace Go.Proofs.Ytnflhogjonlnmaa.weaveSorted
open Go.RowKit

set_option maxHeartbeats 16000000 in
set_option maxRecDepth 100000 in
theorem walk (w : World) (A0 : Option Addr) (c0 : Nat) (t : List Int) (ht : ∀ x ∈ t, -9223372036854775808 ≤ x ∧ x ≤ 9223372036854775807) (hc : t.length ≤ c0) (h63 : c0 ≤ 9223372036854775807) (hrt : RdI w w.heap.size .i64 A0 t) :
    Calls Try.prog 7 #[.slice A0 t.length c0] w fun e w' => e = .returned (.bool true) ∧ Below w.heap.size w w' := by
  have HK := Lib.hid (fun W => known_any W)
  have HT := Lib.hid (newtape_any A0 t c0 ht hc (by omega) w hrt (Nat.le_refl _))
  have HSt := Lib.hid (fun W (hW : TapeB W w.heap.size w.heap.size) => tapests_any hW 9 (by omega) (by omega))
  clear ht hrt
  go_enter Try.func7, Try.ntmps7
  go_upto_region 2 with (first
    | (go_at_call 11; (with_reducible refine HT.out.mono ?_); rintro e w1 ⟨rfl, hT1, hb1⟩)
    | (go_at_call 22; (with_reducible refine (HSt.out _ hT1).mono ?_); rintro e w2 ⟨v2, ls, rfl, hl1, hl4, hst, ho2, hT2, hg2⟩))
  have bb2 := below_one hb1 hg2 (Nat.le_refl _)
  have hE := tape_weave hst hl1 hl4
  have hRow := row_of hE
  have hsm := total_small (m := 9) hst hl4
  have hMl := hRow.len
  obtain ⟨A2, c2, rfl, hc2, hr2⟩ := ho2.reads LpR.good (S := fun b => b < w2.heap.size) (fun b _ hl => hl)
  have HA := wall_any (c := c2) hr2 (by omega)
  unfold WeavePost at HA
  rw [hE] at HA
  generalize weaveP ls = M at *
  replace HA := Lib.hid HA
  have HRow := Lib.hid hRow
  have hM36 : M.length ≤ 36 := by omega
  clear hst ho2 hT2 hg2 hT1 hb1 hRow hE hsm hMl HT HSt
  go_upto_region 5 with (first
    | (go_at_call 24; (with_reducible refine HA.out.mono ?_); rintro e w3 ⟨v3, rfl, ho3, hb3⟩; obtain ⟨A3, c3, rfl, hc3, hr3⟩ := ho3.reads PkR.good (S := fun b => b < w3.heap.size) (fun b _ hl => hl)))
  have hmk := run_make_ints (P := Try.prog) w3 22 Try.underlying22 info_int (by omega) .i64 ls.length ls.length (Nat.le_refl _) (by omega)
  have hls3 := (hr2.below LpR.good hb3).weak LpR.good (S' := fun b => b < w3.heap.size) (fun b hb _ => Nat.lt_of_lt_of_le hb hb3.size)
  have bb3 := below_then bb2 hb3
  have b4 := below_alloc (Below.refl w3.heap.size w3) (.cells (Array.replicate ls.length (Value.int .i64 0)) 3)
  have k4 := Blk.new w3 3 (Array.replicate ls.length (Value.int .i64 0))
  have hs4 : (w3.alloc (.cells (Array.replicate ls.length (Value.int .i64 0)) 3)).heap.size = w3.heap.size + 1 := by simp
  clear ho3 hr2 hb3 bb2
  go_upto_region 6 with (fail)
  clear hmk
  generalize w3.alloc (.cells (Array.replicate ls.length (Value.int .i64 0)) 3) = w4 at *
  rw [atl_blk (W := w3) (M := M)] at k4
  have bb4 := below_then bb3 b4
  have HLs := Lib.hid (fun W (h : Mod (· = w3.heap.size) w4 W) => ((hls3.below LpR.good b4).keep LpR.good h (fun b hb _ e => by have h8 : b < w3.heap.size := hb; have h9 : b = w3.heap.size := e; omega)))
  have HM := Lib.hid (fun W (h : Mod (· = w3.heap.size) w4 W) => ((hr3.below PkR.good b4).keep PkR.good h (fun b hb _ e => by have h8 : b < w3.heap.size := hb; have h9 : b = w3.heap.size := e; omega)))
  have hw03 := bb3.size
  clear hls3 hr3 b4
  go_wp2_with (fail)
  go_loopw [7] (fun iv wr => ∃ i : Nat, i ≤ M.length ∧ iv = .int .i64 (i : Int) ∧ Blk wr w3.heap.size 3 (ic .i64 (atl M ls.length i)).toArray ∧ Mod (· = w3.heap.size) w4 wr) (fun iv _ => M.length - (intOf iv).toNat)
  case atStart => exact ⟨0, Nat.zero_le _, rfl, k4, Mod.refl _ _⟩
  case round =>
    clear k4
    obtain ⟨i, hi, rfl, hk, hmod⟩ := hrel
    by_cases hlt : i < M.length
    · obtain ⟨s, hsl, hst⟩ := HRow.out.st _ (List.getElem_mem hlt)
      obtain ⟨_, hcl, hat⟩ := HRow.out.at_ hlt hst
      have hcell := Blk.lit_at hk (r := s) (by rw [atl_len]; exact hsl)
      rw [atl_at M hsl] at hcell
      have hfz := hk.frozen s
      have HStep := Lib.hid (atl_step M (n := ls.length) hlt hst)
      have HAsc := Lib.hid (show 0 < i → ¬ (M[i].at_ < (M.getD (i - 1) zp).at_) ∧ ¬ (M[i].at_ = (M.getD (i - 1) zp).at_ ∧ M[i].st < (M.getD (i - 1) zp).st) from fun h => by
        obtain ⟨j, rfl⟩ : ∃ j, i = j + 1 := ⟨i - 1, by omega⟩
        rw [Nat.add_sub_cancel, pk_get (by omega)]
        exact HRow.out.asc hlt)
      have HPrev := Lib.hid (fun W (hW : Mod (· = w3.heap.size) w4 W) => (show 0 < i → ∃ (a : Addr) (p : Addr), A3 = some a ∧ a.add ((i - 1) * 6) = p ∧ W.cell? p = some (.int .i64 (M.getD (i - 1) zp).st) ∧ W.cell? ⟨p.block, p.off + 1, none⟩ = some (.int .i64 (M.getD (i - 1) zp).at_) from fun h => by
        obtain ⟨ap2, p2, Ap2, cp2, hAp2, _, hp2, z0, z1, _⟩ := RdPk.at_ (HM.out W hW) (j := i - 1) (by omega)
        rw [pk_get (by omega)]
        exact ⟨ap2, p2, hAp2, hp2, z0, z1⟩))
      have HCur := Lib.hid (fun W (hW : Mod (· = w3.heap.size) w4 W) => RdPk.at_ (HM.out W hW) hlt)
      obtain ⟨ap, p, Ap, cp, hA3, _, hp, y0, y1, y2, y3, y4, y5, hcp, hrp, hwp⟩ := HCur.out wr hmod
      obtain ⟨al, Aj, cj, hA2, _, zh, hcj, hrj, hlj⟩ := RdLp.at_ (HLs.out wr hmod) hsl
      obtain ⟨ap', p', Ap', cp', hAj, _, hp', u0, u1, u2, u3, u4, u5, hcp', hrp', hwp'⟩ := RdPk.at_ hrj hcl
      rw [hat] at u0 u1 u2 u3 u4 u5 hcp' hrp' hwp'
      have HSm := samepk_any M[i] M[i] Ap Ap' cp cp'
      simp only [decide_true] at HSm
      subst hA2 hAj
      have hA3h := Lib.hid hA3
      subst hA3
      clear hat
      have hlsl : (ls[s]).length ≤ 1000000000 := hlj
      generalize hli : ls[s] = li at *
      clear hli
      generalize hct : cntS M i s = ct at *
      generalize hq : M[i] = q at *
      have HR1 := Lib.hid (fun W (h : Below wr.heap.size wr W) => RdI.more (RdI.below (RdS.top hrp) h (Nat.le_refl _)) h.size)
      have HR2 := Lib.hid (fun W (h : Below wr.heap.size wr W) => RdI.more (RdI.below (RdS.top hrp') h (Nat.le_refl _)) h.size)
      obtain ⟨q1, q2, q3, q4, q5, q6⟩ := q
      simp only at y0 y1 y2 y3 y4 y5 u0 u1 u2 u3 u4 u5 hst HAsc hcp hcp' HR1 HR2
      subst hst
      have HSm' := Lib.hid (fun W (h : Below wr.heap.size wr W) => HSm W (HR1.out W h) (HR2.out W h) hwp.bytes hwp.bytes)
      simp only [Pk.val] at HSm'
      have hct9 : ct ≤ 1000000000 := by omega
      have HHq := Lib.hid hq
      have HCt := Lib.hid hct
      have g1 : decide ((s : Int) < 0) = false := decide_eq_false (by omega)
      have g2 : decide (ls.length ≤ s) = false := decide_eq_false (by omega)
      have g2' : decide ((ls.length : Int) ≤ (s : Int)) = false := decide_eq_false (by omega)
      have g3 : decide (li.length ≤ ct) = false := decide_eq_false (by omega)
      have g3' : decide ((li.length : Int) ≤ (ct : Int)) = false := decide_eq_false (by omega)
      clear hq hct HSm hrj hrp hrp' hcp hcp' hwp' hcj hlj
      go_wp2_with (fail)
      refine wp_region_held_drew (S := (fun w' => Below wr.heap.size wr w')) (by kernel_rfl) ?_ (fun hHeld => ?_)
      focus exact (Below.refl _ _).drew
      refine wpAnyH_take (i := 0) (v := ?_) rfl (by kernel_rfl) (by kernel_rfl) (by kernel_rfl) (fun _ _ _ h => h) (Or.inl ⟨by kernel_rfl, ?_⟩) (by assumption) ?_
      rotate_left
      focus
        intro w9 hSw
        (try dsimp only at hSw)
        have zK : ∀ {a9 : Addr} {u9 : Value}, wr.cell? a9 = some u9 → w9.cell? a9 = some u9 := fun {a9} {u9} h9 => (hSw.cell (World.block_lt_of_cell? wr a9 h9)).trans h9
        have z0 := zK y0
        have z1 := zK y1
        have z2 := zK y2
        have z3 := zK y3
        have z4 := zK y4
        have z5 := zK y5
        have z6 := zK hcell
        have z7 := zK zh
        have z8 := zK u0
        have z9 := zK u1
        have z10 := zK u2
        have z11 := zK u3
        have z12 := zK u4
        have z13 := zK u5
        clear zK hSw
        go_simp
        (try with_reducible rfl)
      (try simp only [Act.put, List.getElem_toArray, List.getElem_cons_succ, List.getElem_cons_zero, List.setIfInBounds_toArray, List.set_cons_zero, List.set_cons_succ])
      refine wpAnyH_take (i := 1) (v := ?_) rfl (by kernel_rfl) (by kernel_rfl) (by kernel_rfl) (fun _ _ _ h => h) (Or.inl ⟨by kernel_rfl, ?_⟩) (by assumption) ?_
      rotate_left
      focus
        intro w9 hSw
        (try dsimp only at hSw)
        have zK : ∀ {a9 : Addr} {u9 : Value}, wr.cell? a9 = some u9 → w9.cell? a9 = some u9 := fun {a9} {u9} h9 => (hSw.cell (World.block_lt_of_cell? wr a9 h9)).trans h9
        have z0 := zK y0
        have z1 := zK y1
        have z2 := zK y2
        have z3 := zK y3
        have z4 := zK y4
        have z5 := zK y5
        have z6 := zK hcell
        have z7 := zK zh
        have z8 := zK u0
        have z9 := zK u1
        have z10 := zK u2
        have z11 := zK u3
        have z12 := zK u4
        have z13 := zK u5
        clear zK hSw
        go_simp
        (try with_reducible rfl)
      (try simp only [Act.put, List.getElem_toArray, List.getElem_cons_succ, List.getElem_cons_zero, List.setIfInBounds_toArray, List.set_cons_zero, List.set_cons_succ])
      refine wpAnyH_take (i := 2) (v := ?_) rfl (by kernel_rfl) (by kernel_rfl) (by kernel_rfl) (fun _ _ _ h => h) (Or.inl ⟨by kernel_rfl, ?_⟩) (by assumption) ?_
      rotate_left
      focus
        intro w9 hSw
        (try dsimp only at hSw)
        have zK : ∀ {a9 : Addr} {u9 : Value}, wr.cell? a9 = some u9 → w9.cell? a9 = some u9 := fun {a9} {u9} h9 => (hSw.cell (World.block_lt_of_cell? wr a9 h9)).trans h9
        have z0 := zK y0
        have z1 := zK y1
        have z2 := zK y2
        have z3 := zK y3
        have z4 := zK y4
        have z5 := zK y5
        have z6 := zK hcell
        have z7 := zK zh
        have z8 := zK u0
        have z9 := zK u1
        have z10 := zK u2
        have z11 := zK u3
        have z12 := zK u4
        have z13 := zK u5
        clear zK hSw
        go_simp
        (try with_reducible rfl)
      (try simp only [Act.put, List.getElem_toArray, List.getElem_cons_succ, List.getElem_cons_zero, List.setIfInBounds_toArray, List.set_cons_zero, List.set_cons_succ])
      refine wpAnyH_take (i := 3) (v := ?_) rfl (by kernel_rfl) (by kernel_rfl) (by kernel_rfl) (fun _ _ _ h => h) (Or.inl ⟨by kernel_rfl, ?_⟩) (by assumption) ?_
      rotate_left
      focus
        intro w9 hSw
        (try dsimp only at hSw)
        have zK : ∀ {a9 : Addr} {u9 : Value}, wr.cell? a9 = some u9 → w9.cell? a9 = some u9 := fun {a9} {u9} h9 => (hSw.cell (World.block_lt_of_cell? wr a9 h9)).trans h9
        have z0 := zK y0
        have z1 := zK y1
        have z2 := zK y2
        have z3 := zK y3
        have z4 := zK y4
        have z5 := zK y5
        have z6 := zK hcell
        have z7 := zK zh
        have z8 := zK u0
        have z9 := zK u1
        have z10 := zK u2
        have z11 := zK u3
        have z12 := zK u4
        have z13 := zK u5
        clear zK hSw
        go_simp
        (try with_reducible rfl)
      (try simp only [Act.put, List.getElem_toArray, List.getElem_cons_succ, List.getElem_cons_zero, List.setIfInBounds_toArray, List.set_cons_zero, List.set_cons_succ])
      refine wpAnyH_take (i := 4) (v := ?_) rfl (by kernel_rfl) (by kernel_rfl) (by kernel_rfl) (fun _ _ _ h => h) (Or.inl ⟨by kernel_rfl, ?_⟩) (by assumption) ?_
      rotate_left
      focus
        intro w9 hSw
        (try dsimp only at hSw)
        have zK : ∀ {a9 : Addr} {u9 : Value}, wr.cell? a9 = some u9 → w9.cell? a9 = some u9 := fun {a9} {u9} h9 => (hSw.cell (World.block_lt_of_cell? wr a9 h9)).trans h9
        have z0 := zK y0
        have z1 := zK y1
        have z2 := zK y2
        have z3 := zK y3
        have z4 := zK y4
        have z5 := zK y5
        have z6 := zK hcell
        have z7 := zK zh
        have z8 := zK u0
        have z9 := zK u1
        have z10 := zK u2
        have z11 := zK u3
        have z12 := zK u4
        have z13 := zK u5
        clear zK hSw
        go_simp
        (try with_reducible rfl)
      (try simp only [Act.put, List.getElem_toArray, List.getElem_cons_succ, List.getElem_cons_zero, List.setIfInBounds_toArray, List.set_cons_zero, List.set_cons_succ])
      refine wpAnyH_take (i := 5) (v := ?_) rfl (by kernel_rfl) (by kernel_rfl) (by kernel_rfl) (fun _ _ _ h => h) (Or.inl ⟨by kernel_rfl, ?_⟩) (by assumption) ?_
      rotate_left
      focus
        intro w9 hSw
        (try dsimp only at hSw)
        have zK : ∀ {a9 : Addr} {u9 : Value}, wr.cell? a9 = some u9 → w9.cell? a9 = some u9 := fun {a9} {u9} h9 => (hSw.cell (World.block_lt_of_cell? wr a9 h9)).trans h9
        have z0 := zK y0
        have z1 := zK y1
        have z2 := zK y2
        have z3 := zK y3
        have z4 := zK y4
        have z5 := zK y5
        have z6 := zK hcell
        have z7 := zK zh
        have z8 := zK u0
        have z9 := zK u1
        have z10 := zK u2
        have z11 := zK u3
        have z12 := zK u4
        have z13 := zK u5
        clear zK hSw
        go_simp
        (try with_reducible rfl)
      (try simp only [Act.put, List.getElem_toArray, List.getElem_cons_succ, List.getElem_cons_zero, List.setIfInBounds_toArray, List.set_cons_zero, List.set_cons_succ])
      refine wpAnyH_take (i := 6) (v := ?_) rfl (by kernel_rfl) (by kernel_rfl) (by kernel_rfl) (fun _ _ _ h => h) (Or.inl ⟨by kernel_rfl, ?_⟩) (by assumption) ?_
      rotate_left
      focus
        intro w9 hSw
        (try dsimp only at hSw)
        have zK : ∀ {a9 : Addr} {u9 : Value}, wr.cell? a9 = some u9 → w9.cell? a9 = some u9 := fun {a9} {u9} h9 => (hSw.cell (World.block_lt_of_cell? wr a9 h9)).trans h9
        have z0 := zK y0
        have z1 := zK y1
        have z2 := zK y2
        have z3 := zK y3
        have z4 := zK y4
        have z5 := zK y5
        have z6 := zK hcell
        have z7 := zK zh
        have z8 := zK u0
        have z9 := zK u1
        have z10 := zK u2
        have z11 := zK u3
        have z12 := zK u4
        have z13 := zK u5
        clear zK hSw
        go_simp
        (try with_reducible rfl)
      (try simp only [Act.put, List.getElem_toArray, List.getElem_cons_succ, List.getElem_cons_zero, List.setIfInBounds_toArray, List.set_cons_zero, List.set_cons_succ])
      refine wpAnyH_take (i := 7) (v := ?_) rfl (by kernel_rfl) (by kernel_rfl) (by kernel_rfl) (fun _ _ _ h => h) (Or.inl ⟨by kernel_rfl, ?_⟩) (by assumption) ?_
      rotate_left
      focus
        intro w9 hSw
        (try dsimp only at hSw)
        have zK : ∀ {a9 : Addr} {u9 : Value}, wr.cell? a9 = some u9 → w9.cell? a9 = some u9 := fun {a9} {u9} h9 => (hSw.cell (World.block_lt_of_cell? wr a9 h9)).trans h9
        have z0 := zK y0
        have z1 := zK y1
        have z2 := zK y2
        have z3 := zK y3
        have z4 := zK y4
        have z5 := zK y5
        have z6 := zK hcell
        have z7 := zK zh
        have z8 := zK u0
        have z9 := zK u1
        have z10 := zK u2
        have z11 := zK u3
        have z12 := zK u4
        have z13 := zK u5
        clear zK hSw
        go_simp
        (try with_reducible rfl)
      (try simp only [Act.put, List.getElem_toArray, List.getElem_cons_succ, List.getElem_cons_zero, List.setIfInBounds_toArray, List.set_cons_zero, List.set_cons_succ])
      refine wpAnyH_take (i := 8) (v := ?_) rfl (by kernel_rfl) (by kernel_rfl) (by kernel_rfl) (fun _ _ _ h => h) (Or.inl ⟨by kernel_rfl, ?_⟩) (by assumption) ?_
      rotate_left
      focus
        intro w9 hSw
        (try dsimp only at hSw)
        have zK : ∀ {a9 : Addr} {u9 : Value}, wr.cell? a9 = some u9 → w9.cell? a9 = some u9 := fun {a9} {u9} h9 => (hSw.cell (World.block_lt_of_cell? wr a9 h9)).trans h9
        have z0 := zK y0
        have z1 := zK y1
        have z2 := zK y2
        have z3 := zK y3
        have z4 := zK y4
        have z5 := zK y5
        have z6 := zK hcell
        have z7 := zK zh
        have z8 := zK u0
        have z9 := zK u1
        have z10 := zK u2
        have z11 := zK u3
        have z12 := zK u4
        have z13 := zK u5
        clear zK hSw
        go_simp
        (try with_reducible rfl)
      (try simp only [Act.put, List.getElem_toArray, List.getElem_cons_succ, List.getElem_cons_zero, List.setIfInBounds_toArray, List.set_cons_zero, List.set_cons_succ])
      refine wpAnyH_take (i := 9) (v := ?_) rfl (by kernel_rfl) (by kernel_rfl) (by kernel_rfl) (fun _ _ _ h => h) (Or.inl ⟨by kernel_rfl, ?_⟩) (by assumption) ?_
      rotate_left
      focus
        intro w9 hSw
        (try dsimp only at hSw)
        have zK : ∀ {a9 : Addr} {u9 : Value}, wr.cell? a9 = some u9 → w9.cell? a9 = some u9 := fun {a9} {u9} h9 => (hSw.cell (World.block_lt_of_cell? wr a9 h9)).trans h9
        have z0 := zK y0
        have z1 := zK y1
        have z2 := zK y2
        have z3 := zK y3
        have z4 := zK y4
        have z5 := zK y5
        have z6 := zK hcell
        have z7 := zK zh
        have z8 := zK u0
        have z9 := zK u1
        have z10 := zK u2
        have z11 := zK u3
        have z12 := zK u4
        have z13 := zK u5
        clear zK hSw
        go_simp
        (try with_reducible rfl)
      (try simp only [Act.put, List.getElem_toArray, List.getElem_cons_succ, List.getElem_cons_zero, List.setIfInBounds_toArray, List.set_cons_zero, List.set_cons_succ])
      refine wpAnyH_take (i := 10) (v := ?_) rfl (by kernel_rfl) (by kernel_rfl) (by kernel_rfl) (fun _ _ _ h => h) (Or.inl ⟨by kernel_rfl, ?_⟩) (by assumption) ?_
      rotate_left
      focus
        intro w9 hSw
        (try dsimp only at hSw)
        have zK : ∀ {a9 : Addr} {u9 : Value}, wr.cell? a9 = some u9 → w9.cell? a9 = some u9 := fun {a9} {u9} h9 => (hSw.cell (World.block_lt_of_cell? wr a9 h9)).trans h9
        have z0 := zK y0
        have z1 := zK y1
        have z2 := zK y2
        have z3 := zK y3
        have z4 := zK y4
        have z5 := zK y5
        have z6 := zK hcell
        have z7 := zK zh
        have z8 := zK u0
        have z9 := zK u1
        have z10 := zK u2
        have z11 := zK u3
        have z12 := zK u4
        have z13 := zK u5
        clear zK hSw
        go_simp
        (try with_reducible rfl)
      (try simp only [Act.put, List.getElem_toArray, List.getElem_cons_succ, List.getElem_cons_zero, List.setIfInBounds_toArray, List.set_cons_zero, List.set_cons_succ])
      refine wpAnyH_take (i := 11) (v := ?_) rfl (by kernel_rfl) (by kernel_rfl) (by kernel_rfl) (fun _ _ _ h => h) (Or.inl ⟨by kernel_rfl, ?_⟩) (by assumption) ?_
      rotate_left
      focus
        intro w9 hSw
        (try dsimp only at hSw)
        have zK : ∀ {a9 : Addr} {u9 : Value}, wr.cell? a9 = some u9 → w9.cell? a9 = some u9 := fun {a9} {u9} h9 => (hSw.cell (World.block_lt_of_cell? wr a9 h9)).trans h9
        have z0 := zK y0
        have z1 := zK y1
        have z2 := zK y2
        have z3 := zK y3
        have z4 := zK y4
        have z5 := zK y5
        have z6 := zK hcell
        have z7 := zK zh
        have z8 := zK u0
        have z9 := zK u1
        have z10 := zK u2
        have z11 := zK u3
        have z12 := zK u4
        have z13 := zK u5
        clear zK hSw
        go_simp
        (try with_reducible rfl)
      (try simp only [Act.put, List.getElem_toArray, List.getElem_cons_succ, List.getElem_cons_zero, List.setIfInBounds_toArray, List.set_cons_zero, List.set_cons_succ])
      refine wpAnyH_take (i := 12) (v := ?_) rfl (by kernel_rfl) (by kernel_rfl) (by kernel_rfl) (fun _ _ _ h => h) (Or.inl ⟨by kernel_rfl, ?_⟩) (by assumption) ?_
      rotate_left
      focus
        intro w9 hSw
        (try dsimp only at hSw)
        have zK : ∀ {a9 : Addr} {u9 : Value}, wr.cell? a9 = some u9 → w9.cell? a9 = some u9 := fun {a9} {u9} h9 => (hSw.cell (World.block_lt_of_cell? wr a9 h9)).trans h9
        have z0 := zK y0
        have z1 := zK y1
        have z2 := zK y2
        have z3 := zK y3
        have z4 := zK y4
        have z5 := zK y5
        have z6 := zK hcell
        have z7 := zK zh
        have z8 := zK u0
        have z9 := zK u1
        have z10 := zK u2
        have z11 := zK u3
        have z12 := zK u4
        have z13 := zK u5
        clear zK hSw
        go_simp
        (try with_reducible rfl)
      (try simp only [Act.put, List.getElem_toArray, List.getElem_cons_succ, List.getElem_cons_zero, List.setIfInBounds_toArray, List.set_cons_zero, List.set_cons_succ])
      refine wpAnyH_take (i := 13) (v := ?_) rfl (by kernel_rfl) (by kernel_rfl) (by kernel_rfl) (fun _ _ _ h => h) (Or.inl ⟨by kernel_rfl, ?_⟩) (by assumption) ?_
      rotate_left
      focus
        intro w9 hSw
        (try dsimp only at hSw)
        have zK : ∀ {a9 : Addr} {u9 : Value}, wr.cell? a9 = some u9 → w9.cell? a9 = some u9 := fun {a9} {u9} h9 => (hSw.cell (World.block_lt_of_cell? wr a9 h9)).trans h9
        have z0 := zK y0
        have z1 := zK y1
        have z2 := zK y2
        have z3 := zK y3
        have z4 := zK y4
        have z5 := zK y5
        have z6 := zK hcell
        have z7 := zK zh
        have z8 := zK u0
        have z9 := zK u1
        have z10 := zK u2
        have z11 := zK u3
        have z12 := zK u4
        have z13 := zK u5
        clear zK hSw
        go_simp
        (try with_reducible rfl)
      (try simp only [Act.put, List.getElem_toArray, List.getElem_cons_succ, List.getElem_cons_zero, List.setIfInBounds_toArray, List.set_cons_zero, List.set_cons_succ])
      refine wpAnyH_take (i := 14) (v := ?_) rfl (by kernel_rfl) (by kernel_rfl) (by kernel_rfl) (fun _ _ _ h => h) (Or.inl ⟨by kernel_rfl, ?_⟩) (by assumption) ?_
      rotate_left
      focus
        intro w9 hSw
        (try dsimp only at hSw)
        have zK : ∀ {a9 : Addr} {u9 : Value}, wr.cell? a9 = some u9 → w9.cell? a9 = some u9 := fun {a9} {u9} h9 => (hSw.cell (World.block_lt_of_cell? wr a9 h9)).trans h9
        have z0 := zK y0
        have z1 := zK y1
        have z2 := zK y2
        have z3 := zK y3
        have z4 := zK y4
        have z5 := zK y5
        have z6 := zK hcell
        have z7 := zK zh
        have z8 := zK u0
        have z9 := zK u1
        have z10 := zK u2
        have z11 := zK u3
        have z12 := zK u4
        have z13 := zK u5
        clear zK hSw
        go_simp
        (try with_reducible rfl)
      (try simp only [Act.put, List.getElem_toArray, List.getElem_cons_succ, List.getElem_cons_zero, List.setIfInBounds_toArray, List.set_cons_zero, List.set_cons_succ])
      refine wpAnyH_take (i := 15) (v := ?_) rfl (by kernel_rfl) (by kernel_rfl) (by kernel_rfl) (fun _ _ _ h => h) (Or.inl ⟨by kernel_rfl, ?_⟩) (by assumption) ?_
      rotate_left
      focus
        intro w9 hSw
        (try dsimp only at hSw)
        have zK : ∀ {a9 : Addr} {u9 : Value}, wr.cell? a9 = some u9 → w9.cell? a9 = some u9 := fun {a9} {u9} h9 => (hSw.cell (World.block_lt_of_cell? wr a9 h9)).trans h9
        have z0 := zK y0
        have z1 := zK y1
        have z2 := zK y2
        have z3 := zK y3
        have z4 := zK y4
        have z5 := zK y5
        have z6 := zK hcell
        have z7 := zK zh
        have z8 := zK u0
        have z9 := zK u1
        have z10 := zK u2
        have z11 := zK u3
        have z12 := zK u4
        have z13 := zK u5
        clear zK hSw
        go_simp
        (try with_reducible rfl)
      (try simp only [Act.put, List.getElem_toArray, List.getElem_cons_succ, List.getElem_cons_zero, List.setIfInBounds_toArray, List.set_cons_zero, List.set_cons_succ])
      refine wpAnyH_take (i := 16) (v := ?_) rfl (by kernel_rfl) (by kernel_rfl) (by kernel_rfl) (fun _ _ _ h => h) (Or.inl ⟨by kernel_rfl, ?_⟩) (by assumption) ?_
      rotate_left
      focus
        intro w9 hSw
        (try dsimp only at hSw)
        have zK : ∀ {a9 : Addr} {u9 : Value}, wr.cell? a9 = some u9 → w9.cell? a9 = some u9 := fun {a9} {u9} h9 => (hSw.cell (World.block_lt_of_cell? wr a9 h9)).trans h9
        have z0 := zK y0
        have z1 := zK y1
        have z2 := zK y2
        have z3 := zK y3
        have z4 := zK y4
        have z5 := zK y5
        have z6 := zK hcell
        have z7 := zK zh
        have z8 := zK u0
        have z9 := zK u1
        have z10 := zK u2
        have z11 := zK u3
        have z12 := zK u4
        have z13 := zK u5
        clear zK hSw
        go_simp
        (try with_reducible rfl)
      (try simp only [Act.put, List.getElem_toArray, List.getElem_cons_succ, List.getElem_cons_zero, List.setIfInBounds_toArray, List.set_cons_zero, List.set_cons_succ])
      refine wpAnyH_take (i := 17) (v := ?_) rfl (by kernel_rfl) (by kernel_rfl) (by kernel_rfl) (fun _ _ _ h => h) (Or.inl ⟨by kernel_rfl, ?_⟩) (by assumption) ?_
      rotate_left
      focus
        intro w9 hSw
        (try dsimp only at hSw)
        have zK : ∀ {a9 : Addr} {u9 : Value}, wr.cell? a9 = some u9 → w9.cell? a9 = some u9 := fun {a9} {u9} h9 => (hSw.cell (World.block_lt_of_cell? wr a9 h9)).trans h9
        have z0 := zK y0
        have z1 := zK y1
        have z2 := zK y2
        have z3 := zK y3
        have z4 := zK y4
        have z5 := zK y5
        have z6 := zK hcell
        have z7 := zK zh
        have z8 := zK u0
        have z9 := zK u1
        have z10 := zK u2
        have z11 := zK u3
        have z12 := zK u4
        have z13 := zK u5
        clear zK hSw
        go_simp
        (try with_reducible rfl)
      (try simp only [Act.put, List.getElem_toArray, List.getElem_cons_succ, List.getElem_cons_zero, List.setIfInBounds_toArray, List.set_cons_zero, List.set_cons_succ])
      refine wpAnyH_take (i := 18) (v := ?_) rfl (by kernel_rfl) (by kernel_rfl) (by kernel_rfl) (fun _ _ _ h => h) (Or.inl ⟨by kernel_rfl, ?_⟩) (by assumption) ?_
      rotate_left
      focus
        intro w9 hSw
        (try dsimp only at hSw)
        have zK : ∀ {a9 : Addr} {u9 : Value}, wr.cell? a9 = some u9 → w9.cell? a9 = some u9 := fun {a9} {u9} h9 => (hSw.cell (World.block_lt_of_cell? wr a9 h9)).trans h9
        have z0 := zK y0
        have z1 := zK y1
        have z2 := zK y2
        have z3 := zK y3
        have z4 := zK y4
        have z5 := zK y5
        have z6 := zK hcell
        have z7 := zK zh
        have z8 := zK u0
        have z9 := zK u1
        have z10 := zK u2
        have z11 := zK u3
        have z12 := zK u4
        have z13 := zK u5
        clear zK hSw
        go_simp
        (try with_reducible rfl)
      (try simp only [Act.put, List.getElem_toArray, List.getElem_cons_succ, List.getElem_cons_zero, List.setIfInBounds_toArray, List.set_cons_zero, List.set_cons_succ])
      refine wpAnyH_take (i := 19) (v := ?_) rfl (by kernel_rfl) (by kernel_rfl) (by kernel_rfl) (fun _ _ _ h => h) (Or.inl ⟨by kernel_rfl, ?_⟩) (by assumption) ?_
      rotate_left
      focus
        intro w9 hSw
        (try dsimp only at hSw)
        have zK : ∀ {a9 : Addr} {u9 : Value}, wr.cell? a9 = some u9 → w9.cell? a9 = some u9 := fun {a9} {u9} h9 => (hSw.cell (World.block_lt_of_cell? wr a9 h9)).trans h9
        have z0 := zK y0
        have z1 := zK y1
        have z2 := zK y2
        have z3 := zK y3
        have z4 := zK y4
        have z5 := zK y5
        have z6 := zK hcell
        have z7 := zK zh
        have z8 := zK u0
        have z9 := zK u1
        have z10 := zK u2
        have z11 := zK u3
        have z12 := zK u4
        have z13 := zK u5
        clear zK hSw
        go_simp
        (try with_reducible rfl)
      (try simp only [Act.put, List.getElem_toArray, List.getElem_cons_succ, List.getElem_cons_zero, List.setIfInBounds_toArray, List.set_cons_zero, List.set_cons_succ])
      refine wpAnyH_take (i := 20) (v := ?_) rfl (by kernel_rfl) (by kernel_rfl) (by kernel_rfl) (fun _ _ _ h => h) (Or.inl ⟨by kernel_rfl, ?_⟩) (by assumption) ?_
      rotate_left
      focus
        intro w9 hSw
        (try dsimp only at hSw)
        have zK : ∀ {a9 : Addr} {u9 : Value}, wr.cell? a9 = some u9 → w9.cell? a9 = some u9 := fun {a9} {u9} h9 => (hSw.cell (World.block_lt_of_cell? wr a9 h9)).trans h9
        have z0 := zK y0
        have z1 := zK y1
        have z2 := zK y2
        have z3 := zK y3
        have z4 := zK y4
        have z5 := zK y5
        have z6 := zK hcell
        have z7 := zK zh
        have z8 := zK u0
        have z9 := zK u1
        have z10 := zK u2
        have z11 := zK u3
        have z12 := zK u4
        have z13 := zK u5
        clear zK hSw
        go_simp
        (try with_reducible rfl)
      (try simp only [Act.put, List.getElem_toArray, List.getElem_cons_succ, List.getElem_cons_zero, List.setIfInBounds_toArray, List.set_cons_zero, List.set_cons_succ])
      refine wpAnyH_take (i := 21) (v := ?_) rfl (by kernel_rfl) (by kernel_rfl) (by kernel_rfl) (fun _ _ _ h => h) (Or.inl ⟨by kernel_rfl, ?_⟩) (by assumption) ?_
      rotate_left
      focus
        intro w9 hSw
        (try dsimp only at hSw)
        have zK : ∀ {a9 : Addr} {u9 : Value}, wr.cell? a9 = some u9 → w9.cell? a9 = some u9 := fun {a9} {u9} h9 => (hSw.cell (World.block_lt_of_cell? wr a9 h9)).trans h9
        have z0 := zK y0
        have z1 := zK y1
        have z2 := zK y2
        have z3 := zK y3
        have z4 := zK y4
        have z5 := zK y5
        have z6 := zK hcell
        have z7 := zK zh
        have z8 := zK u0
        have z9 := zK u1
        have z10 := zK u2
        have z11 := zK u3
        have z12 := zK u4
        have z13 := zK u5
        clear zK hSw
        go_simp
        (try with_reducible rfl)
      (try simp only [Act.put, List.getElem_toArray, List.getElem_cons_succ, List.getElem_cons_zero, List.setIfInBounds_toArray, List.set_cons_zero, List.set_cons_succ])
      refine wpAnyH_take (i := 22) (v := ?_) rfl (by kernel_rfl) (by kernel_rfl) (by kernel_rfl) (fun _ _ _ h => h) (Or.inl ⟨by kernel_rfl, ?_⟩) (by assumption) ?_
      rotate_left
      focus
        intro w9 hSw
        (try dsimp only at hSw)
        have zK : ∀ {a9 : Addr} {u9 : Value}, wr.cell? a9 = some u9 → w9.cell? a9 = some u9 := fun {a9} {u9} h9 => (hSw.cell (World.block_lt_of_cell? wr a9 h9)).trans h9
        have z0 := zK y0
        have z1 := zK y1
        have z2 := zK y2
        have z3 := zK y3
        have z4 := zK y4
        have z5 := zK y5
        have z6 := zK hcell
        have z7 := zK zh
        have z8 := zK u0
        have z9 := zK u1
        have z10 := zK u2
        have z11 := zK u3
        have z12 := zK u4
        have z13 := zK u5
        clear zK hSw
        go_simp
        (try with_reducible rfl)
      (try simp only [Act.put, List.getElem_toArray, List.getElem_cons_succ, List.getElem_cons_zero, List.setIfInBounds_toArray, List.set_cons_zero, List.set_cons_succ])
      refine wpAnyH_take (i := 23) (v := ?_) rfl (by kernel_rfl) (by kernel_rfl) (by kernel_rfl) (fun _ _ _ h => h) (Or.inl ⟨by kernel_rfl, ?_⟩) (by assumption) ?_
      rotate_left
      focus
        intro w9 hSw
        (try dsimp only at hSw)
        have zK : ∀ {a9 : Addr} {u9 : Value}, wr.cell? a9 = some u9 → w9.cell? a9 = some u9 := fun {a9} {u9} h9 => (hSw.cell (World.block_lt_of_cell? wr a9 h9)).trans h9
        have z0 := zK y0
        have z1 := zK y1
        have z2 := zK y2
        have z3 := zK y3
        have z4 := zK y4
        have z5 := zK y5
        have z6 := zK hcell
        have z7 := zK zh
        have z8 := zK u0
        have z9 := zK u1
        have z10 := zK u2
        have z11 := zK u3
        have z12 := zK u4
        have z13 := zK u5
        clear zK hSw
        go_simp
        (try with_reducible rfl)
      (try simp only [Act.put, List.getElem_toArray, List.getElem_cons_succ, List.getElem_cons_zero, List.setIfInBounds_toArray, List.set_cons_zero, List.set_cons_succ])
      refine wpAnyH_take (i := 24) (v := ?_) rfl (by kernel_rfl) (by kernel_rfl) (by kernel_rfl) (fun _ _ _ h => h) (Or.inl ⟨by kernel_rfl, ?_⟩) (by assumption) ?_
      rotate_left
      focus
        intro w9 hSw
        (try dsimp only at hSw)
        have zK : ∀ {a9 : Addr} {u9 : Value}, wr.cell? a9 = some u9 → w9.cell? a9 = some u9 := fun {a9} {u9} h9 => (hSw.cell (World.block_lt_of_cell? wr a9 h9)).trans h9
        have z0 := zK y0
        have z1 := zK y1
        have z2 := zK y2
        have z3 := zK y3
        have z4 := zK y4
        have z5 := zK y5
        have z6 := zK hcell
        have z7 := zK zh
        have z8 := zK u0
        have z9 := zK u1
        have z10 := zK u2
        have z11 := zK u3
        have z12 := zK u4
        have z13 := zK u5
        clear zK hSw
        go_simp
        (try with_reducible rfl)
      (try simp only [Act.put, List.getElem_toArray, List.getElem_cons_succ, List.getElem_cons_zero, List.setIfInBounds_toArray, List.set_cons_zero, List.set_cons_succ])
      refine wpAnyH_take (i := 25) (v := ?_) rfl (by kernel_rfl) (by kernel_rfl) (by kernel_rfl) (fun _ _ _ h => h) (Or.inl ⟨by kernel_rfl, ?_⟩) (by assumption) ?_
      rotate_left
      focus
        intro w9 hSw
        (try dsimp only at hSw)
        have zK : ∀ {a9 : Addr} {u9 : Value}, wr.cell? a9 = some u9 → w9.cell? a9 = some u9 := fun {a9} {u9} h9 => (hSw.cell (World.block_lt_of_cell? wr a9 h9)).trans h9
        have z0 := zK y0
        have z1 := zK y1
        have z2 := zK y2
        have z3 := zK y3
        have z4 := zK y4
        have z5 := zK y5
        have z6 := zK hcell
        have z7 := zK zh
        have z8 := zK u0
        have z9 := zK u1
        have z10 := zK u2
        have z11 := zK u3
        have z12 := zK u4
        have z13 := zK u5
        clear zK hSw
        go_simp
        (try with_reducible rfl)
      (try simp only [Act.put, List.getElem_toArray, List.getElem_cons_succ, List.getElem_cons_zero, List.setIfInBounds_toArray, List.set_cons_zero, List.set_cons_succ])
      refine wpAnyH_take (i := 26) (v := ?_) rfl (by kernel_rfl) (by kernel_rfl) (by kernel_rfl) (fun _ _ _ h => h) (Or.inl ⟨by kernel_rfl, ?_⟩) (by assumption) ?_
      rotate_left
      focus
        intro w9 hSw
        (try dsimp only at hSw)
        have zK : ∀ {a9 : Addr} {u9 : Value}, wr.cell? a9 = some u9 → w9.cell? a9 = some u9 := fun {a9} {u9} h9 => (hSw.cell (World.block_lt_of_cell? wr a9 h9)).trans h9
        have z0 := zK y0
        have z1 := zK y1
        have z2 := zK y2
        have z3 := zK y3
        have z4 := zK y4
        have z5 := zK y5
        have z6 := zK hcell
        have z7 := zK zh
        have z8 := zK u0
        have z9 := zK u1
        have z10 := zK u2
        have z11 := zK u3
        have z12 := zK u4
        have z13 := zK u5
        clear zK hSw
        go_simp
        (try with_reducible rfl)
      (try simp only [Act.put, List.getElem_toArray, List.getElem_cons_succ, List.getElem_cons_zero, List.setIfInBounds_toArray, List.set_cons_zero, List.set_cons_succ])
      refine wpAnyH_take (i := 27) (v := ?_) rfl (by kernel_rfl) (by kernel_rfl) (by kernel_rfl) (fun _ _ _ h => h) (Or.inl ⟨by kernel_rfl, ?_⟩) (by assumption) ?_
      rotate_left
      focus
        intro w9 hSw
        (try dsimp only at hSw)
        have zK : ∀ {a9 : Addr} {u9 : Value}, wr.cell? a9 = some u9 → w9.cell? a9 = some u9 := fun {a9} {u9} h9 => (hSw.cell (World.block_lt_of_cell? wr a9 h9)).trans h9
        have z0 := zK y0
        have z1 := zK y1
        have z2 := zK y2
        have z3 := zK y3
        have z4 := zK y4
        have z5 := zK y5
        have z6 := zK hcell
        have z7 := zK zh
        have z8 := zK u0
        have z9 := zK u1
        have z10 := zK u2
        have z11 := zK u3
        have z12 := zK u4
        have z13 := zK u5
        clear zK hSw
        go_simp
        (try with_reducible rfl)
      (try simp only [Act.put, List.getElem_toArray, List.getElem_cons_succ, List.getElem_cons_zero, List.setIfInBounds_toArray, List.set_cons_zero, List.set_cons_succ])
      refine wpAnyH_take (i := 28) (v := ?_) rfl (by kernel_rfl) (by kernel_rfl) (by kernel_rfl) (fun _ _ _ h => h) (Or.inl ⟨by kernel_rfl, ?_⟩) (by assumption) ?_
      rotate_left
      focus
        intro w9 hSw
        (try dsimp only at hSw)
        have zK : ∀ {a9 : Addr} {u9 : Value}, wr.cell? a9 = some u9 → w9.cell? a9 = some u9 := fun {a9} {u9} h9 => (hSw.cell (World.block_lt_of_cell? wr a9 h9)).trans h9
        have z0 := zK y0
        have z1 := zK y1
        have z2 := zK y2
        have z3 := zK y3
        have z4 := zK y4
        have z5 := zK y5
        have z6 := zK hcell
        have z7 := zK zh
        have z8 := zK u0
        have z9 := zK u1
        have z10 := zK u2
        have z11 := zK u3
        have z12 := zK u4
        have z13 := zK u5
        clear zK hSw
        go_simp
        (try with_reducible rfl)
      (try simp only [Act.put, List.getElem_toArray, List.getElem_cons_succ, List.getElem_cons_zero, List.setIfInBounds_toArray, List.set_cons_zero, List.set_cons_succ])
      refine wpAnyH_take (i := 29) (v := ?_) rfl (by kernel_rfl) (by kernel_rfl) (by kernel_rfl) (fun _ _ _ h => h) (Or.inl ⟨by kernel_rfl, ?_⟩) (by assumption) ?_
      rotate_left
      focus
        intro w9 hSw
        (try dsimp only at hSw)
        have zK : ∀ {a9 : Addr} {u9 : Value}, wr.cell? a9 = some u9 → w9.cell? a9 = some u9 := fun {a9} {u9} h9 => (hSw.cell (World.block_lt_of_cell? wr a9 h9)).trans h9
        have z0 := zK y0
        have z1 := zK y1
        have z2 := zK y2
        have z3 := zK y3
        have z4 := zK y4
        have z5 := zK y5
        have z6 := zK hcell
        have z7 := zK zh
        have z8 := zK u0
        have z9 := zK u1
        have z10 := zK u2
        have z11 := zK u3
        have z12 := zK u4
        have z13 := zK u5
        clear zK hSw
        go_simp
        (try with_reducible rfl)
      (try simp only [Act.put, List.getElem_toArray, List.getElem_cons_succ, List.getElem_cons_zero, List.setIfInBounds_toArray, List.set_cons_zero, List.set_cons_succ])
      refine wpAnyH_take (i := 30) (v := ?_) rfl (by kernel_rfl) (by kernel_rfl) (by kernel_rfl) (fun _ _ _ h => h) (Or.inl ⟨by kernel_rfl, ?_⟩) (by assumption) ?_
      rotate_left
      focus
        intro w9 hSw
        (try dsimp only at hSw)
        have zK : ∀ {a9 : Addr} {u9 : Value}, wr.cell? a9 = some u9 → w9.cell? a9 = some u9 := fun {a9} {u9} h9 => (hSw.cell (World.block_lt_of_cell? wr a9 h9)).trans h9
        have z0 := zK y0
        have z1 := zK y1
        have z2 := zK y2
        have z3 := zK y3
        have z4 := zK y4
        have z5 := zK y5
        have z6 := zK hcell
        have z7 := zK zh
        have z8 := zK u0
        have z9 := zK u1
        have z10 := zK u2
        have z11 := zK u3
        have z12 := zK u4
        have z13 := zK u5
        clear zK hSw
        go_simp
        (try with_reducible rfl)
      (try simp only [Act.put, List.getElem_toArray, List.getElem_cons_succ, List.getElem_cons_zero, List.setIfInBounds_toArray, List.set_cons_zero, List.set_cons_succ])
      refine wpAnyH_take (i := 31) (v := ?_) rfl (by kernel_rfl) (by kernel_rfl) (by kernel_rfl) (fun _ _ _ h => h) (Or.inl ⟨by kernel_rfl, ?_⟩) (by assumption) ?_
      rotate_left
      focus
        intro w9 hSw
        (try dsimp only at hSw)
        have zK : ∀ {a9 : Addr} {u9 : Value}, wr.cell? a9 = some u9 → w9.cell? a9 = some u9 := fun {a9} {u9} h9 => (hSw.cell (World.block_lt_of_cell? wr a9 h9)).trans h9
        have z0 := zK y0
        have z1 := zK y1
        have z2 := zK y2
        have z3 := zK y3
        have z4 := zK y4
        have z5 := zK y5
        have z6 := zK hcell
        have z7 := zK zh
        have z8 := zK u0
        have z9 := zK u1
        have z10 := zK u2
        have z11 := zK u3
        have z12 := zK u4
        have z13 := zK u5
        clear zK hSw
        go_simp
        (try with_reducible rfl)
      (try simp only [Act.put, List.getElem_toArray, List.getElem_cons_succ, List.getElem_cons_zero, List.setIfInBounds_toArray, List.set_cons_zero, List.set_cons_succ])
      refine wpAnyH_take (i := 32) (v := ?_) rfl (by kernel_rfl) (by kernel_rfl) (by kernel_rfl) (fun _ _ _ h => h) (Or.inl ⟨by kernel_rfl, ?_⟩) (by assumption) ?_
      rotate_left
      focus
        intro w9 hSw
        (try dsimp only at hSw)
        have zK : ∀ {a9 : Addr} {u9 : Value}, wr.cell? a9 = some u9 → w9.cell? a9 = some u9 := fun {a9} {u9} h9 => (hSw.cell (World.block_lt_of_cell? wr a9 h9)).trans h9
        have z0 := zK y0
        have z1 := zK y1
        have z2 := zK y2
        have z3 := zK y3
        have z4 := zK y4
        have z5 := zK y5
        have z6 := zK hcell
        have z7 := zK zh
        have z8 := zK u0
        have z9 := zK u1
        have z10 := zK u2
        have z11 := zK u3
        have z12 := zK u4
        have z13 := zK u5
        clear zK hSw
        go_simp
        (try with_reducible rfl)
      (try simp only [Act.put, List.getElem_toArray, List.getElem_cons_succ, List.getElem_cons_zero, List.setIfInBounds_toArray, List.set_cons_zero, List.set_cons_succ])
      refine wpAnyH_take (i := 33) (v := ?_) rfl (by kernel_rfl) (by kernel_rfl) (by kernel_rfl) (fun _ _ _ h => h) (Or.inl ⟨by kernel_rfl, ?_⟩) (by assumption) ?_
      rotate_left
      focus
        intro w9 hSw
        (try dsimp only at hSw)
        have zK : ∀ {a9 : Addr} {u9 : Value}, wr.cell? a9 = some u9 → w9.cell? a9 = some u9 := fun {a9} {u9} h9 => (hSw.cell (World.block_lt_of_cell? wr a9 h9)).trans h9
        have z0 := zK y0
        have z1 := zK y1
        have z2 := zK y2
        have z3 := zK y3
        have z4 := zK y4
        have z5 := zK y5
        have z6 := zK hcell
        have z7 := zK zh
        have z8 := zK u0
        have z9 := zK u1
        have z10 := zK u2
        have z11 := zK u3
        have z12 := zK u4
        have z13 := zK u5
        clear zK hSw
        go_simp
        (try with_reducible rfl)
      (try simp only [Act.put, List.getElem_toArray, List.getElem_cons_succ, List.getElem_cons_zero, List.setIfInBounds_toArray, List.set_cons_zero, List.set_cons_succ])
      refine wpAnyH_take (i := 34) (v := ?_) rfl (by kernel_rfl) (by kernel_rfl) (by kernel_rfl) (fun _ _ _ h => h) (Or.inl ⟨by kernel_rfl, ?_⟩) (by assumption) ?_
      rotate_left
      focus
        intro w9 hSw
        (try dsimp only at hSw)
        have zK : ∀ {a9 : Addr} {u9 : Value}, wr.cell? a9 = some u9 → w9.cell? a9 = some u9 := fun {a9} {u9} h9 => (hSw.cell (World.block_lt_of_cell? wr a9 h9)).trans h9
        have z0 := zK y0
        have z1 := zK y1
        have z2 := zK y2
        have z3 := zK y3
        have z4 := zK y4
        have z5 := zK y5
        have z6 := zK hcell
        have z7 := zK zh
        have z8 := zK u0
        have z9 := zK u1
        have z10 := zK u2
        have z11 := zK u3
        have z12 := zK u4
        have z13 := zK u5
        clear zK hSw
        go_simp
        (try with_reducible rfl)
      (try simp only [Act.put, List.getElem_toArray, List.getElem_cons_succ, List.getElem_cons_zero, List.setIfInBounds_toArray, List.set_cons_zero, List.set_cons_succ])
      refine wpAnyH_ready (rs := [35]) (by kernel_rfl) (by simp) (AllReadyH.cons rfl (fun K hK => ?_) AllReadyH.nil)
      go_simp
      go_at_call 25
      refine (HSm'.out _ (Below.refl _ _).drew).mono ?_
      rintro e w6 ⟨rfl, hb6'⟩
      have hb6 := below_undr hb6'
      refine hK.out _ _ ?_ (fun hHeld => ?_)
      focus exact hb6
      clear hK K
      (try simp only [Act.put, List.getElem_toArray, List.getElem_cons_succ, List.getElem_cons_zero, List.setIfInBounds_toArray, List.set_cons_zero, List.set_cons_succ])
      refine wpAnyH_take (i := 36) (v := ?_) rfl (by kernel_rfl) (by kernel_rfl) (by kernel_rfl) (fun _ _ _ h => h) (Or.inl ⟨by kernel_rfl, ?_⟩) (by assumption) ?_
      rotate_left
      focus
        intro w9 hSw
        (try dsimp only at hSw)
        go_simp
        (try with_reducible rfl)
      (try simp only [Act.put, List.getElem_toArray, List.getElem_cons_succ, List.getElem_cons_zero, List.setIfInBounds_toArray, List.set_cons_zero, List.set_cons_succ])
      refine wpAnyH_take (i := 37) (v := ?_) rfl (by kernel_rfl) (by kernel_rfl) (by kernel_rfl) (fun _ _ _ h => h) (Or.inl ⟨by kernel_rfl, ?_⟩) (by assumption) ?_
      rotate_left
      focus
        intro w9 hSw
        (try dsimp only at hSw)
        go_simp
        (try with_reducible rfl)
      (try simp only [Act.put, List.getElem_toArray, List.getElem_cons_succ, List.getElem_cons_zero, List.setIfInBounds_toArray, List.set_cons_zero, List.set_cons_succ])
      refine wpAnyH_done (by kernel_rfl) ?_ _
      (try simp only [Act.put, List.getElem_toArray, List.getElem_cons_succ, List.getElem_cons_zero, List.setIfInBounds_toArray, List.set_cons_zero, List.set_cons_succ])
      have hk6 := hk.below hb6 hk.lt
      have hmod6 := hmod.then_ (Mod.of_fresh (M := (· = w3.heap.size)) hb6)
      have hcell6 := (hb6.cell (p := ⟨w3.heap.size, s, none⟩) hk.lt).trans hcell
      have hfz6 := hk6.frozen s
      clear y0 y1 y2 y3 y4 y5 u0 u1 u2 u3 u4 u5 zh hcell hfz hHeld hb6' HSm' HR1 HR2
      go_upto_region 13 with (fail)
      have hk7 := hk6.set_ s (.int .i64 ((ct : Int) + 1))
      rw [ic_setA, HStep.out] at hk7
      have hmod7 := mod_put (off := s) (u := .int .i64 ((ct : Int) + 1)) hmod6 (fun _ => rfl)
      generalize w6.setCell ⟨w3.heap.size, s, none⟩ (.int .i64 ((ct : Int) + 1)) = w7 at *
      clear hcell6 hfz6 hk6 hmod6 g1 g2 g2' g3 g3' hk hmod
      by_cases hi0 : i = 0
      · subst hi0
        refine wp_region_held_drew (S := (fun _ => True)) (by kernel_rfl) ?_ (fun hHeld => ?_)
        focus exact trivial
        refine wpAnyH_take (i := 0) (v := ?_) rfl (by kernel_rfl) (by kernel_rfl) (by kernel_rfl) (fun _ _ _ h => h) (Or.inl ⟨by kernel_rfl, ?_⟩) (by assumption) ?_
        rotate_left
        focus
          intro w9 hSw
          (try dsimp only at hSw)
          go_simp
          (try with_reducible rfl)
        (try simp only [Act.put, List.getElem_toArray, List.getElem_cons_succ, List.getElem_cons_zero, List.setIfInBounds_toArray, List.set_cons_zero, List.set_cons_succ])
        refine wpAnyH_take (i := 1) (v := ?_) rfl (by kernel_rfl) (by kernel_rfl) (by kernel_rfl) (fun _ _ _ h => h) (Or.inl ⟨by kernel_rfl, ?_⟩) (by assumption) ?_
        rotate_left
        focus
          intro w9 hSw
          (try dsimp only at hSw)
          go_simp
          (try with_reducible rfl)
        (try simp only [Act.put, List.getElem_toArray, List.getElem_cons_succ, List.getElem_cons_zero, List.setIfInBounds_toArray, List.set_cons_zero, List.set_cons_succ])
        refine wpAnyH_take (i := 2) (v := ?_) rfl (by kernel_rfl) (by kernel_rfl) (by kernel_rfl) (fun _ _ _ h => h) (Or.inl ⟨by kernel_rfl, ?_⟩) (by assumption) ?_
        rotate_left
        focus
          intro w9 hSw
          (try dsimp only at hSw)
          go_simp
          (try with_reducible rfl)
        (try simp only [Act.put, List.getElem_toArray, List.getElem_cons_succ, List.getElem_cons_zero, List.setIfInBounds_toArray, List.set_cons_zero, List.set_cons_succ])
        refine wpAnyH_take (i := 3) (v := undef) rfl (by kernel_rfl) (by kernel_rfl) (by kernel_rfl) (fun _ _ _ h => h) (Or.inr ⟨by kernel_rfl, rfl⟩) (by assumption) ?_
        (try simp only [Act.put, List.getElem_toArray, List.getElem_cons_succ, List.getElem_cons_zero, List.setIfInBounds_toArray, List.set_cons_zero, List.set_cons_succ])
        refine wpAnyH_take (i := 4) (v := undef) rfl (by kernel_rfl) (by kernel_rfl) (by kernel_rfl) (fun _ _ _ h => h) (Or.inr ⟨by kernel_rfl, rfl⟩) (by assumption) ?_
        (try simp only [Act.put, List.getElem_toArray, List.getElem_cons_succ, List.getElem_cons_zero, List.setIfInBounds_toArray, List.set_cons_zero, List.set_cons_succ])
        refine wpAnyH_take (i := 5) (v := undef) rfl (by kernel_rfl) (by kernel_rfl) (by kernel_rfl) (fun _ _ _ h => h) (Or.inr ⟨by kernel_rfl, rfl⟩) (by assumption) ?_
        (try simp only [Act.put, List.getElem_toArray, List.getElem_cons_succ, List.getElem_cons_zero, List.setIfInBounds_toArray, List.set_cons_zero, List.set_cons_succ])
        refine wpAnyH_take (i := 6) (v := undef) rfl (by kernel_rfl) (by kernel_rfl) (by kernel_rfl) (fun _ _ _ h => h) (Or.inr ⟨by kernel_rfl, rfl⟩) (by assumption) ?_
        (try simp only [Act.put, List.getElem_toArray, List.getElem_cons_succ, List.getElem_cons_zero, List.setIfInBounds_toArray, List.set_cons_zero, List.set_cons_succ])
        refine wpAnyH_take (i := 7) (v := undef) rfl (by kernel_rfl) (by kernel_rfl) (by kernel_rfl) (fun _ _ _ h => h) (Or.inr ⟨by kernel_rfl, rfl⟩) (by assumption) ?_
        (try simp only [Act.put, List.getElem_toArray, List.getElem_cons_succ, List.getElem_cons_zero, List.setIfInBounds_toArray, List.set_cons_zero, List.set_cons_succ])
        refine wpAnyH_take (i := 8) (v := undef) rfl (by kernel_rfl) (by kernel_rfl) (by kernel_rfl) (fun _ _ _ h => h) (Or.inr ⟨by kernel_rfl, rfl⟩) (by assumption) ?_
        (try simp only [Act.put, List.getElem_toArray, List.getElem_cons_succ, List.getElem_cons_zero, List.setIfInBounds_toArray, List.set_cons_zero, List.set_cons_succ])
        refine wpAnyH_take (i := 9) (v := undef) rfl (by kernel_rfl) (by kernel_rfl) (by kernel_rfl) (fun _ _ _ h => h) (Or.inr ⟨by kernel_rfl, rfl⟩) (by assumption) ?_
        (try simp only [Act.put, List.getElem_toArray, List.getElem_cons_succ, List.getElem_cons_zero, List.setIfInBounds_toArray, List.set_cons_zero, List.set_cons_succ])
        refine wpAnyH_take (i := 10) (v := undef) rfl (by kernel_rfl) (by kernel_rfl) (by kernel_rfl) (fun _ _ _ h => h) (Or.inr ⟨by kernel_rfl, rfl⟩) (by assumption) ?_
        (try simp only [Act.put, List.getElem_toArray, List.getElem_cons_succ, List.getElem_cons_zero, List.setIfInBounds_toArray, List.set_cons_zero, List.set_cons_succ])
        refine wpAnyH_take (i := 11) (v := undef) rfl (by kernel_rfl) (by kernel_rfl) (by kernel_rfl) (fun _ _ _ h => h) (Or.inr ⟨by kernel_rfl, rfl⟩) (by assumption) ?_
        (try simp only [Act.put, List.getElem_toArray, List.getElem_cons_succ, List.getElem_cons_zero, List.setIfInBounds_toArray, List.set_cons_zero, List.set_cons_succ])
        refine wpAnyH_take (i := 12) (v := undef) rfl (by kernel_rfl) (by kernel_rfl) (by kernel_rfl) (fun _ _ _ h => h) (Or.inr ⟨by kernel_rfl, rfl⟩) (by assumption) ?_
        (try simp only [Act.put, List.getElem_toArray, List.getElem_cons_succ, List.getElem_cons_zero, List.setIfInBounds_toArray, List.set_cons_zero, List.set_cons_succ])
        refine wpAnyH_take (i := 13) (v := undef) rfl (by kernel_rfl) (by kernel_rfl) (by kernel_rfl) (fun _ _ _ h => h) (Or.inr ⟨by kernel_rfl, rfl⟩) (by assumption) ?_
        (try simp only [Act.put, List.getElem_toArray, List.getElem_cons_succ, List.getElem_cons_zero, List.setIfInBounds_toArray, List.set_cons_zero, List.set_cons_succ])
        refine wpAnyH_take (i := 14) (v := undef) rfl (by kernel_rfl) (by kernel_rfl) (by kernel_rfl) (fun _ _ _ h => h) (Or.inr ⟨by kernel_rfl, rfl⟩) (by assumption) ?_
        (try simp only [Act.put, List.getElem_toArray, List.getElem_cons_succ, List.getElem_cons_zero, List.setIfInBounds_toArray, List.set_cons_zero, List.set_cons_succ])
        refine wpAnyH_take (i := 15) (v := undef) rfl (by kernel_rfl) (by kernel_rfl) (by kernel_rfl) (fun _ _ _ h => h) (Or.inr ⟨by kernel_rfl, rfl⟩) (by assumption) ?_
        (try simp only [Act.put, List.getElem_toArray, List.getElem_cons_succ, List.getElem_cons_zero, List.setIfInBounds_toArray, List.set_cons_zero, List.set_cons_succ])
        refine wpAnyH_take (i := 16) (v := undef) rfl (by kernel_rfl) (by kernel_rfl) (by kernel_rfl) (fun _ _ _ h => h) (Or.inr ⟨by kernel_rfl, rfl⟩) (by assumption) ?_
        (try simp only [Act.put, List.getElem_toArray, List.getElem_cons_succ, List.getElem_cons_zero, List.setIfInBounds_toArray, List.set_cons_zero, List.set_cons_succ])
        refine wpAnyH_take (i := 17) (v := undef) rfl (by kernel_rfl) (by kernel_rfl) (by kernel_rfl) (fun _ _ _ h => h) (Or.inr ⟨by kernel_rfl, rfl⟩) (by assumption) ?_
        (try simp only [Act.put, List.getElem_toArray, List.getElem_cons_succ, List.getElem_cons_zero, List.setIfInBounds_toArray, List.set_cons_zero, List.set_cons_succ])
        refine wpAnyH_take (i := 18) (v := undef) rfl (by kernel_rfl) (by kernel_rfl) (by kernel_rfl) (fun _ _ _ h => h) (Or.inr ⟨by kernel_rfl, rfl⟩) (by assumption) ?_
        (try simp only [Act.put, List.getElem_toArray, List.getElem_cons_succ, List.getElem_cons_zero, List.setIfInBounds_toArray, List.set_cons_zero, List.set_cons_succ])
        refine wpAnyH_take (i := 19) (v := undef) rfl (by kernel_rfl) (by kernel_rfl) (by kernel_rfl) (fun _ _ _ h => h) (Or.inr ⟨by kernel_rfl, rfl⟩) (by assumption) ?_
        (try simp only [Act.put, List.getElem_toArray, List.getElem_cons_succ, List.getElem_cons_zero, List.setIfInBounds_toArray, List.set_cons_zero, List.set_cons_succ])
        refine wpAnyH_take (i := 20) (v := undef) rfl (by kernel_rfl) (by kernel_rfl) (by kernel_rfl) (fun _ _ _ h => h) (Or.inr ⟨by kernel_rfl, rfl⟩) (by assumption) ?_
        (try simp only [Act.put, List.getElem_toArray, List.getElem_cons_succ, List.getElem_cons_zero, List.setIfInBounds_toArray, List.set_cons_zero, List.set_cons_succ])
        refine wpAnyH_take (i := 21) (v := undef) rfl (by kernel_rfl) (by kernel_rfl) (by kernel_rfl) (fun _ _ _ h => h) (Or.inr ⟨by kernel_rfl, rfl⟩) (by assumption) ?_
        (try simp only [Act.put, List.getElem_toArray, List.getElem_cons_succ, List.getElem_cons_zero, List.setIfInBounds_toArray, List.set_cons_zero, List.set_cons_succ])
        refine wpAnyH_take (i := 22) (v := undef) rfl (by kernel_rfl) (by kernel_rfl) (by kernel_rfl) (fun _ _ _ h => h) (Or.inr ⟨by kernel_rfl, rfl⟩) (by assumption) ?_
        (try simp only [Act.put, List.getElem_toArray, List.getElem_cons_succ, List.getElem_cons_zero, List.setIfInBounds_toArray, List.set_cons_zero, List.set_cons_succ])
        refine wpAnyH_take (i := 23) (v := undef) rfl (by kernel_rfl) (by kernel_rfl) (by kernel_rfl) (fun _ _ _ h => h) (Or.inr ⟨by kernel_rfl, rfl⟩) (by assumption) ?_
        (try simp only [Act.put, List.getElem_toArray, List.getElem_cons_succ, List.getElem_cons_zero, List.setIfInBounds_toArray, List.set_cons_zero, List.set_cons_succ])
        refine wpAnyH_take (i := 24) (v := undef) rfl (by kernel_rfl) (by kernel_rfl) (by kernel_rfl) (fun _ _ _ h => h) (Or.inr ⟨by kernel_rfl, rfl⟩) (by assumption) ?_
        (try simp only [Act.put, List.getElem_toArray, List.getElem_cons_succ, List.getElem_cons_zero, List.setIfInBounds_toArray, List.set_cons_zero, List.set_cons_succ])
        refine wpAnyH_take (i := 25) (v := undef) rfl (by kernel_rfl) (by kernel_rfl) (by kernel_rfl) (fun _ _ _ h => h) (Or.inr ⟨by kernel_rfl, rfl⟩) (by assumption) ?_
        (try simp only [Act.put, List.getElem_toArray, List.getElem_cons_succ, List.getElem_cons_zero, List.setIfInBounds_toArray, List.set_cons_zero, List.set_cons_succ])
        refine wpAnyH_take (i := 26) (v := undef) rfl (by kernel_rfl) (by kernel_rfl) (by kernel_rfl) (fun _ _ _ h => h) (Or.inr ⟨by kernel_rfl, rfl⟩) (by assumption) ?_
        (try simp only [Act.put, List.getElem_toArray, List.getElem_cons_succ, List.getElem_cons_zero, List.setIfInBounds_toArray, List.set_cons_zero, List.set_cons_succ])
        refine wpAnyH_take (i := 27) (v := undef) rfl (by kernel_rfl) (by kernel_rfl) (by kernel_rfl) (fun _ _ _ h => h) (Or.inr ⟨by kernel_rfl, rfl⟩) (by assumption) ?_
        (try simp only [Act.put, List.getElem_toArray, List.getElem_cons_succ, List.getElem_cons_zero, List.setIfInBounds_toArray, List.set_cons_zero, List.set_cons_succ])
        refine wpAnyH_take (i := 28) (v := undef) rfl (by kernel_rfl) (by kernel_rfl) (by kernel_rfl) (fun _ _ _ h => h) (Or.inr ⟨by kernel_rfl, rfl⟩) (by assumption) ?_
        (try simp only [Act.put, List.getElem_toArray, List.getElem_cons_succ, List.getElem_cons_zero, List.setIfInBounds_toArray, List.set_cons_zero, List.set_cons_succ])
        refine wpAnyH_take (i := 29) (v := undef) rfl (by kernel_rfl) (by kernel_rfl) (by kernel_rfl) (fun _ _ _ h => h) (Or.inr ⟨by kernel_rfl, rfl⟩) (by assumption) ?_
        (try simp only [Act.put, List.getElem_toArray, List.getElem_cons_succ, List.getElem_cons_zero, List.setIfInBounds_toArray, List.set_cons_zero, List.set_cons_succ])
        refine wpAnyH_take (i := 30) (v := undef) rfl (by kernel_rfl) (by kernel_rfl) (by kernel_rfl) (fun _ _ _ h => h) (Or.inr ⟨by kernel_rfl, rfl⟩) (by assumption) ?_
        (try simp only [Act.put, List.getElem_toArray, List.getElem_cons_succ, List.getElem_cons_zero, List.setIfInBounds_toArray, List.set_cons_zero, List.set_cons_succ])
        refine wpAnyH_take (i := 31) (v := undef) rfl (by kernel_rfl) (by kernel_rfl) (by kernel_rfl) (fun _ _ _ h => h) (Or.inr ⟨by kernel_rfl, rfl⟩) (by assumption) ?_
        (try simp only [Act.put, List.getElem_toArray, List.getElem_cons_succ, List.getElem_cons_zero, List.setIfInBounds_toArray, List.set_cons_zero, List.set_cons_succ])
        refine wpAnyH_take (i := 32) (v := undef) rfl (by kernel_rfl) (by kernel_rfl) (by kernel_rfl) (fun _ _ _ h => h) (Or.inr ⟨by kernel_rfl, rfl⟩) (by assumption) ?_
        (try simp only [Act.put, List.getElem_toArray, List.getElem_cons_succ, List.getElem_cons_zero, List.setIfInBounds_toArray, List.set_cons_zero, List.set_cons_succ])
        refine wpAnyH_take (i := 33) (v := undef) rfl (by kernel_rfl) (by kernel_rfl) (by kernel_rfl) (fun _ _ _ h => h) (Or.inr ⟨by kernel_rfl, rfl⟩) (by assumption) ?_
        (try simp only [Act.put, List.getElem_toArray, List.getElem_cons_succ, List.getElem_cons_zero, List.setIfInBounds_toArray, List.set_cons_zero, List.set_cons_succ])
        refine wpAnyH_take (i := 34) (v := undef) rfl (by kernel_rfl) (by kernel_rfl) (by kernel_rfl) (fun _ _ _ h => h) (Or.inr ⟨by kernel_rfl, rfl⟩) (by assumption) ?_
        (try simp only [Act.put, List.getElem_toArray, List.getElem_cons_succ, List.getElem_cons_zero, List.setIfInBounds_toArray, List.set_cons_zero, List.set_cons_succ])
        refine wpAnyH_take (i := 35) (v := undef) rfl (by kernel_rfl) (by kernel_rfl) (by kernel_rfl) (fun _ _ _ h => h) (Or.inr ⟨by kernel_rfl, rfl⟩) (by assumption) ?_
        (try simp only [Act.put, List.getElem_toArray, List.getElem_cons_succ, List.getElem_cons_zero, List.setIfInBounds_toArray, List.set_cons_zero, List.set_cons_succ])
        refine wpAnyH_take (i := 36) (v := undef) rfl (by kernel_rfl) (by kernel_rfl) (by kernel_rfl) (fun _ _ _ h => h) (Or.inr ⟨by kernel_rfl, rfl⟩) (by assumption) ?_
        (try simp only [Act.put, List.getElem_toArray, List.getElem_cons_succ, List.getElem_cons_zero, List.setIfInBounds_toArray, List.set_cons_zero, List.set_cons_succ])
        refine wpAnyH_take (i := 37) (v := undef) rfl (by kernel_rfl) (by kernel_rfl) (by kernel_rfl) (fun _ _ _ h => h) (Or.inr ⟨by kernel_rfl, rfl⟩) (by assumption) ?_
        (try simp only [Act.put, List.getElem_toArray, List.getElem_cons_succ, List.getElem_cons_zero, List.setIfInBounds_toArray, List.set_cons_zero, List.set_cons_succ])
        refine wpAnyH_take (i := 38) (v := undef) rfl (by kernel_rfl) (by kernel_rfl) (by kernel_rfl) (fun _ _ _ h => h) (Or.inr ⟨by kernel_rfl, rfl⟩) (by assumption) ?_
        (try simp only [Act.put, List.getElem_toArray, List.getElem_cons_succ, List.getElem_cons_zero, List.setIfInBounds_toArray, List.set_cons_zero, List.set_cons_succ])
        refine wpAnyH_take (i := 39) (v := ?_) rfl (by kernel_rfl) (by kernel_rfl) (by kernel_rfl) (fun _ _ _ h => h) (Or.inl ⟨by kernel_rfl, ?_⟩) (by assumption) ?_
        rotate_left
        focus
          intro w9 hSw
          (try dsimp only at hSw)
          go_simp
          (try with_reducible rfl)
        (try simp only [Act.put, List.getElem_toArray, List.getElem_cons_succ, List.getElem_cons_zero, List.setIfInBounds_toArray, List.set_cons_zero, List.set_cons_succ])
        refine wpAnyH_done (by kernel_rfl) ?_ _
        (try simp only [Act.put, List.getElem_toArray, List.getElem_cons_succ, List.getElem_cons_zero, List.setIfInBounds_toArray, List.set_cons_zero, List.set_cons_succ])
        go_wp2
        go_roundw
        case rel => exact ⟨1, by omega, by go_num, hk7, hmod7.drew⟩
        case measure => simp [intOf]; omega
      · have hip : 0 < i := by omega
        obtain ⟨aq, pq, hA9, hpq, v0, v1⟩ := HPrev.out w7 hmod7 hip
        obtain ⟨ap9, p9, Ap9, cp9, hA8, _, hp9, x0, x1, _⟩ := HCur.out w7 hmod7
        injection hA9 with hA9
        injection hA8 with hA8
        subst hA9 hA8
        obtain ⟨b1, b2⟩ := HAsc.out hip
        (try simp only at x0 x1)
        obtain rfl : p9 = p := hp9.symm.trans hp
        clear hp9
        generalize (M.getD (i - 1) zp).at_ = pat at *
        generalize (M.getD (i - 1) zp).st = pst at *
        obtain ⟨j, hj⟩ : ∃ j, i - 1 = j := ⟨_, rfl⟩
        rw [hj] at hpq
        have hjz : IntKind.i64.wrap ((i : Int) - 1) = (j : Int) := by rw [IntWalk.i64_in _ (by omega)]; omega
        have hjz2 : (i : Int) - 1 = (j : Int) := by omega
        have hjl : j < M.length := by omega
        have g1 : decide (q2 < pat) = false := decide_eq_false (by omega)
        clear hj hi0
        by_cases heq : q2 = pat
        · have g2 : (q2 == pat) = true := beq_iff_eq.2 heq
          have g3 : decide ((s : Int) < pst) = false := decide_eq_false (by omega)
          replace heq := Lib.hid heq
          clear b1 b2
          go_quiet (fail)
          go_wp2
          go_roundw
          case rel => exact ⟨i + 1, by omega, by go_num, hk7, hmod7.drewN _⟩
          case measure => simp [intOf]; omega
        · have g2 : (q2 == pat) = false := beq_false_of_ne heq
          clear b1 b2 heq
          go_quiet (fail)
          go_wp2
          go_roundw
          case rel => exact ⟨i + 1, by omega, by go_num, hk7, hmod7.drewN _⟩
          case measure => simp [intOf]; omega
    · have hie : i = M.length := by omega
      subst hie
      have HKa := Lib.hid hk
      clear hk
      go_wp2_with (fail)
      go_loopw [9] (fun iv wr2 => ∃ i n : Nat, i ≤ ls.length ∧ iv = .int .i64 (i : Int) ∧ wr2 = wr.drewN n) (fun iv _ => ls.length - (intOf iv).toNat)
      case atStart => exact ⟨0, 0, Nat.zero_le _, rfl, rfl⟩
      case round =>
        obtain ⟨i, n, hi, rfl, rfl⟩ := hrel
        by_cases hlt2 : i < ls.length
        · obtain ⟨al, Aj, cj, hA2, _, zh, hcj, hrj, hlj⟩ := RdLp.at_ (HLs.out wr hmod) hlt2
          subst hA2
          have hcell := Blk.lit_at HKa.out (r := i) (by rw [atl_len]; exact hlt2)
          rw [atl_at M hlt2, HRow.out.all hlt2] at hcell
          generalize ls[i] = li at *
          have g1 : ((li.length : Int) != (li.length : Int)) = false := by simp
          clear hrj
          go_wp2_with (fail)
          go_quiet (fail)
          go_wp2
          go_roundw
          case rel => exact ⟨i + 1, _, by omega, by go_num, rfl⟩
          case measure => simp [intOf]; omega
        · have hie : i = ls.length := by omega
          subst hie
          go_wp2_with (first
            | (go_at_call 15; (with_reducible refine (HK.out _).mono ?_); rintro e w9 ⟨rfl, hb9⟩))
          go_ret
          exact ⟨rfl, below_then (below_drewN (bb4.trans (hmod.below bb4.size (fun b hb => by subst hb; exact hw03))) n) hb9⟩
end Go.Proofs.Ytnflhogjonlnmaa.weaveSorted
