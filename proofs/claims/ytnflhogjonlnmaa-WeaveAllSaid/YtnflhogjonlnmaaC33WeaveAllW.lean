/- WeaveAll: the walk. -/
import Derived.Test.YtnflhogjonlnmaaWvKnown
import Derived.Test.YtnflhogjonlnmaaC33All
import Derived.Test.YtnflhogjonlnmaaTapeSt
import Derived.Test.YtnflhogjonlnmaaFinLp
import Derived.Test.YtnflhogjonlnmaaOwnEmp
import Derived.Deep.CutBlock
set_option linter.unusedSimpArgs false
set_option linter.unusedVariables false
namespace Go.Proofs.Ytnflhogjonlnmaa
open Go.RowKit

/-- One element's cell is as it is; the others are slices of packets. -/
def LpX (A : Option Addr) (n c : Nat) : Rel (Option (List Pk)) := fun w S cs o => match o with
  | some l => LpR w S cs l
  | none => cs = [.slice A n c]
theorem LpX.good (A : Option Addr) (n c : Nat) : Rel.Good (LpX A n c) 1 where
  pos := by omega
  len := by
    intro w S cs x h
    cases x with
    | none => simp only [LpX] at h; subst h; rfl
    | some l => exact LpR.good.len h
  one := by
    intro w S cs x h u hu
    cases x with
    | none => simp only [LpX] at h; subst h; simp at hu; subst hu; rfl
    | some l => exact LpR.good.one h u hu
  keep := by
    intro w w' M S cs x h hm hs
    cases x with
    | none => exact h
    | some l => exact LpR.good.keep h hm hs
  weak := by
    intro w S S' cs x h hs
    cases x with
    | none => exact h
    | some l => exact LpR.good.weak h hs
theorem OwnG.conv {α β : Type} {R : Rel α} {R' : Rel β} {size : Nat} {e : TypeId} {w : World} {base : Nat} {D D' : Nat → Prop} {v : Value} {xs : List α} {ys : List β} (h : OwnG R size e w base D v xs) (hl : ys.length = xs.length)
    (hc : ∀ j (hj : j < xs.length) (hj' : j < ys.length) cs, R w (fun b => D b ∧ v.ownBlock ≠ some b) cs xs[j] → R' w (fun b => D' b ∧ v.ownBlock ≠ some b) cs ys[j]) : OwnG R' size e w base D' v ys := by
  obtain ⟨cells, h1, h2⟩ := h
  refine ⟨cells, by rw [hl]; exact h1, by rw [h2.1, hl], fun j hj => ?_⟩
  exact hc j (by omega) hj _ (h2.2 j (by omega))
theorem OwnG.lpx {e : TypeId} {w : World} {base : Nat} {D : Nat → Prop} {v : Value} {ls : List (List Pk)} (h : OwnG LpR 1 e w base D v ls) (A : Option Addr) (n c : Nat) : OwnG (LpX A n c) 1 e w base D v (ls.map some) :=
  h.conv (by simp) (fun j hj hj' cs hR => by rw [List.getElem_map]; exact hR)
theorem OwnG.lpy {e : TypeId} {w : World} {base : Nat} {D D' : Nat → Prop} {v : Value} {ls : List (List Pk)} {A : Option Addr} {n c r : Nat} {l' : List Pk} (h : OwnG (LpX A n c) 1 e w base D v ((ls.map some).set r none)) (hl : LpR w (fun b => D' b ∧ v.ownBlock ≠ some b) [.slice A n c] l') (hD : ∀ b, D b → b < w.heap.size → D' b) : OwnG LpR 1 e w base D' v (ls.set r l') :=
  h.conv (by simp) (fun j hj hj' cs hR => by
    rw [List.getElem_set] at hR ⊢
    by_cases hjr : r = j
    · rw [if_pos hjr] at hR ⊢
      simp only [LpX] at hR
      rw [hR]; exact hl
    · rw [if_neg hjr, List.getElem_map] at hR
      rw [if_neg hjr]
      exact LpR.good.weak (show LpR w _ cs _ from hR) (fun b hb hl => ⟨hD b hb.1 hl, hb.2⟩))
theorem total_same {ls : List (List Pk)} {r : Nat} (hr : r < ls.length) {l' : List Pk} (h : l'.length = ls[r].length) : total (ls.set r l') = total ls := by
  unfold total
  congr 1
  apply List.ext_getElem
  · simp
  · intro j h1 h2
    simp only [List.getElem_map, List.getElem_set]
    split
    · rename_i h3; subst h3; exact h
    · rfl
theorem total_app (a b : List (List Pk)) : total (a ++ b) = total a + total b := by simp [total]
def lsum (l : List (List Pk)) : Nat := (l.map fun x => 1 + x.length).sum
theorem lsum_take {l : List (List Pk)} {k : Nat} (h : k < l.length) : lsum (l.take (k + 1)) = lsum (l.take k) + (1 + l[k].length) := by
  rw [List.take_succ_eq_append_getElem h, lsum, lsum, List.map_append, List.sum_append]; rfl
theorem lsum_all {B : Nat} {l : List (List Pk)} (h : lsum l ≤ B) : l.length ≤ B ∧ total l ≤ B ∧ ∀ x ∈ l, x.length ≤ B := by
  induction l generalizing B with
  | nil => simp [total]
  | cons x l ih =>
    simp only [lsum, List.map_cons, List.sum_cons] at h
    have h2 := ih (B := B - (1 + x.length)) (by simp only [lsum]; omega)
    refine ⟨by simp; omega, by simp only [total, List.map_cons, List.sum_cons] at h2 ⊢; omega, fun y hy => ?_⟩
    rcases List.mem_cons.1 hy with hy | hy
    · subst hy; omega
    · have := h2.2.2 y hy; omega
end Go.Proofs.Ytnflhogjonlnmaa
namespace Go.Proofs.Ytnflhogjonlnmaa.weaveAll
open Go.RowKit

set_option maxHeartbeats 16000000 in
set_option maxRecDepth 100000 in
theorem walk (w : World) (A0 : Option Addr) (c0 : Nat) (t : List Int) (ht : ∀ x ∈ t, -9223372036854775808 ≤ x ∧ x ≤ 9223372036854775807) (hc : t.length ≤ c0) (h63 : c0 ≤ 9223372036854775807) (hrt : RdI w w.heap.size .i64 A0 t)
    (Ar : Option Addr) (cr : Nat) (raw : List (List Pk)) (hrc : raw.length ≤ cr) (hcr : cr ≤ 9223372036854775807) (hrr : RdG LpN 1 w (· < w.heap.size) Ar raw)
    (sv : Int) (s0 : -9223372036854775808 ≤ sv) (s1 : sv ≤ 9223372036854775807) (iv : Int) (i0 : -9223372036854775808 ≤ iv) (i1 : iv ≤ 9223372036854775807) :
    Calls Try.prog 6 #[.slice A0 t.length c0, .slice Ar raw.length cr, .int .i64 sv, .int .i64 iv] w fun e w' => e = .returned (.bool true) ∧ Below w.heap.size w w' := by
  have HK := Lib.hid (fun W => known_any W)
  have HT := Lib.hid (newtape_any A0 t c0 ht hc (by omega) w hrt (Nat.le_refl _))
  have HSt := Lib.hid (fun W (hW : TapeB W w.heap.size w.heap.size) => tapests_any hW 8 (by omega) (by omega))
  have HR := Lib.hid hrr
  clear ht hrt hrr
  go_enter Try.func6, Try.ntmps6
  go_wp2
  go_loop [9, 10] (fun n k => ∃ (K : Nat), K ≤ raw.length ∧ k = .int .i64 (K : Int) ∧ n = .int .i64 ((lsum (raw.take K) : Nat) : Int) ∧ lsum (raw.take K) ≤ 300) (fun _ k => raw.length - (intOf k).toNat)
  case atStart => exact ⟨0, Nat.zero_le _, rfl, rfl, by simp [lsum]⟩
  case round =>
    obtain ⟨K, hK, rfl, rfl, hn⟩ := hrel
    by_cases hlt : K < raw.length
    · obtain ⟨ad, Aj, cj, rfl, _, e0, hcj, hrj, hlj, _⟩ := RdLn.at_ HR.out hlt
      have HTk := Lib.hid (lsum_take hlt)
      have HHv := Lib.hid (heavypk_any (c := cj) hrj (by omega))
      generalize lsum (raw.take K) = n1 at *
      generalize raw[K] = li at *
      by_cases h300 : 300 < n1 + (1 + li.length)
      · have h300' : (300 : Int) < (n1 : Int) + 1 + (li.length : Int) := by omega
        have g1 : decide ((300 : Int) < (n1 : Int) + 1 + (li.length : Int)) = true := decide_eq_true h300'
        clear h300 hrj
        go_wp2
        go_ret
        exact ⟨rfl, Below.refl _ _⟩
      · have h300' : ¬ (300 : Int) < (n1 : Int) + 1 + (li.length : Int) := by omega
        have g1 : decide ((300 : Int) < (n1 : Int) + 1 + (li.length : Int)) = false := decide_eq_false h300'
        have h9 := HTk.out
        clear hrj
        cases hh : heavyPk li with
        | true =>
          rw [hh] at HHv
          clear hh h9
          go_wp2_with (first
            | (go_at_call 21; (with_reducible refine HHv.out.mono ?_); rintro e w1 ⟨rfl, rfl⟩))
          go_ret
          exact ⟨rfl, Below.refl _ _⟩
        | false =>
          rw [hh] at HHv
          clear hh h9
          go_wp2_with (first
            | (go_at_call 21; (with_reducible refine HHv.out.mono ?_); rintro e w1 ⟨rfl, rfl⟩))
          go_round
          case rel => exact ⟨K + 1, by omega, by go_num, by rw [HTk.out]; go_num, by rw [HTk.out]; omega⟩
          case measure => simp [intOf]; omega
    · have hke : K = raw.length := by omega
      subst hke
      rw [List.take_length] at hn
      obtain ⟨hr1, hr2, hr3⟩ := lsum_all hn
      have hrw := RdLn.lp HR.out (fun x hx => by have := hr3 x hx; omega)
      clear HR
      generalize lsum raw = n1 at *
      go_upto_region 10 with (first
        | (go_at_call 11; (with_reducible refine HT.out.mono ?_); rintro e w1 ⟨rfl, hT1, hb1⟩)
        | (go_at_call 22; (with_reducible refine (HSt.out _ hT1).mono ?_); rintro e w2 ⟨v2, ls, rfl, hl1, hl4, hst, ho2, hT2, hg2⟩))
      have bb2 := below_one hb1 hg2 (Nat.le_refl _)
      have hsm := total_le (B := 8) ls (fun x hx => by
        obtain ⟨j, hj, rfl⟩ := List.mem_iff_getElem.1 hx
        have := (hst.each j hj).2
        rw [getD_rs hj] at this
        omega)
      have hgt := hT1.lt
      obtain ⟨A2, c2, rfl, hc2, hr2'⟩ := ho2.reads LpR.good (S := (fun b => b < w2.heap.size ∧ b ≠ w.heap.size)) (fun b hb hl => ⟨hl, fun e => by have h1 := hb.elim (fun h => h.1) (fun h => (ho2.own_ge b h).1); omega⟩)
      have hs2 := bb2.size
      have hraw2 := (hrw.below LpR.good bb2).weak LpR.good (S' := (fun b => b < w2.heap.size ∧ b ≠ w.heap.size)) (fun b hb _ => ⟨Nat.lt_of_lt_of_le hb hs2, Nat.ne_of_lt hb⟩)
      have hgs : w.heap.size < w2.heap.size := by have := hT2.lt; exact this
      have hTot : total ls ≤ 32 := by omega
      have hra := hr2'.below LpR.good (below_alloc (Below.refl w2.heap.size w2) (.cells #[] 49))
      go_upto_region 11 with (first
        | (at_builtin; (refine wpList_append_G (v := .slice (some ⟨w2.heap.size, 0, none⟩) 0 0) rfl (.tmp 43) (.tmp 44) _ rfl LpR.good (w2.alloc (.cells #[] 49)) (.slice none 0 0) 24 Try.underlying48 info_lps rfl (by omega) rfl (OwnG.empty0 LpR.good w2 (base := w2.heap.size) (D := (fun b => b < w2.heap.size ∧ b ≠ w.heap.size)) (Nat.le_refl _)) (fun b => b < w2.heap.size ∧ b ≠ w.heap.size) A2 c2 ls.length ls rfl rfl hra (fun b hb _ => hb) (fun b hb h => by simp [Value.ownBlock] at hb; have h8 : b < w2.heap.size := h.1; omega) (fun b hb => by have h8 : b < w2.heap.size := hb.1; simp; omega) (by simp; omega) (by simp) ?_); intro v3 w3 ow3 hg3 hv3))
      rw [List.nil_append] at ow3
      have hb23 : Below w2.heap.size w2 w3 := Below.grown (below_alloc (Below.refl w2.heap.size w2) _) hg3 (by simp) (fun b hb => by have hb' : (Value.slice (some ⟨w2.heap.size, 0, none⟩) 0 0).ownBlock = some b := hb; have h9 : w2.heap.size = b := (by simpa [Value.ownBlock] using hb'); omega)
      have hs3 := hb23.size
      have hs3' : w2.heap.size + 1 ≤ w3.heap.size := by have := hg3.size; simp at this; omega
      clear hg3 hv3 hra
      obtain ⟨gb, cb, rfl, hgb, hgl, hcb, hfz, hrow⟩ := ow3.rowS LpR.good (by omega)
      have HWi := Lib.hid (fun W => within_any sv 0 ((ls.length : Int) - 1) s0 s1 (by omega) (by omega) (by omega) W)
      have hwb := withinV_in (n := sv) (lo := 0) (hi := (ls.length : Int) - 1) (by omega)
      generalize withinV sv 0 ((ls.length : Int) - 1) = rv at *
      obtain ⟨r, rfl⟩ := Int.eq_ofNat_of_zero_le hwb.1
      have hrl : r < ls.length := by omega
      have hrz : (r : Int) < (ls.length : Int) := by omega
      obtain ⟨cs, ⟨Aj, cj, hcs, hcj, hrj, hlj⟩, hcell, _⟩ := hrow r hrl
      have z9 := hcell 0 (.slice Aj ls[r].length cj) (by rw [hcs]; rfl)
      rw [Nat.mul_one, Nat.add_zero] at z9
      have hl8 : ls[r].length ≤ 8 := by have := (hst.each r hrl).2; rw [getD_rs hrl] at this; omega
      clear hrow hcell hcs hwb
      have HOw3 := Lib.hid ow3
      have HLs := Lib.hid (⟨hst, hTot⟩ : TapeSts 8 ls ∧ total ls ≤ 32)
      clear ow3 hst hTot hsm
      generalize hlr : ls[r] = lr at *
      replace hlr := Lib.hid hlr
      go_upto_region 12 with (first
        | (go_at_call 16; (with_reducible refine (HWi.out _).mono ?_); rintro e w4 ⟨rfl, rfl⟩))
      have hrj4 := RdG.below PkR.good (hrj.weak PkR.good (S' := (fun b => b < w2.heap.size ∧ b ≠ w.heap.size)) (fun b hb _ => hb.1)) (below_alloc (Below.refl w3.heap.size w3) (.cells #[] 40))
      have z9' := ((below_alloc (Below.refl w3.heap.size w3) (.cells #[] 40)).cell (p := ⟨gb, r, none⟩) hgl).trans z9
      have hgbne : ∀ W : World, True := fun _ => trivial
      go_upto_region 13 with (first
        | (at_builtin; (refine wpList_append_G (v := .slice (some ⟨w3.heap.size, 0, none⟩) 0 0) rfl (.tmp 53) (.tmp 57) _ rfl PkR.good (w3.alloc (.cells #[] 40)) (.agg #[.int .i64 0, .int .i64 0, .int .i64 0, .bool false, .bool false, .slice none 0 0]) 56 Try.underlying49 info_pk rfl (by omega) rfl (OwnG.empty0 PkR.good w3 (base := w3.heap.size) (D := (fun b => b < w2.heap.size ∧ b ≠ w.heap.size)) (Nat.le_refl _)) (fun b => b < w2.heap.size ∧ b ≠ w.heap.size) Aj cj lr.length lr rfl rfl hrj4 (fun b hb _ => hb) (fun b hb h => by simp [Value.ownBlock] at hb; have h8 : b < w2.heap.size := h.1; omega) (fun b hb => by have h8 : b < w2.heap.size := hb.1; simp; omega) (by simp; omega) (by simp) ?_); intro v9 w9 ow9 hg9 hv9; rw [List.nil_append] at ow9; have hb39 : Below w3.heap.size w3 w9 := Below.grown (below_alloc (Below.refl w3.heap.size w3) _) hg9 (by simp) (fun b hb => by have hb' : (Value.slice (some ⟨w3.heap.size, 0, none⟩) 0 0).ownBlock = some b := hb; have h9 : w3.heap.size = b := (by simpa [Value.ownBlock] using hb'); omega); have hfz9 := (Mod.of_fresh (M := fun _ => False) hb39).frozen (a := ⟨gb, r, none⟩) hgl (fun h => h); have hfr := hfz9.trans (hfz r); have zc9 := (hb39.cell (p := ⟨gb, r, none⟩) hgl).trans z9; obtain ⟨A9, c9, rfl, hc9, hr9, hob9⟩ := ow9.form PkR.good))
      have hX9 := (HOw3.out.keep LpR.good (Mod.of_fresh (M := fun _ => False) hb39) (fun _ _ _ h => h) (fun _ _ h => h)).lpx A9 lr.length c9
      obtain ⟨gb', cb', hv', _, _, _, _, hrow⟩ := hX9.rowS (LpX.good A9 lr.length c9) (by rw [List.length_map]; omega)
      simp only [Value.slice.injEq, Option.some.injEq, Addr.mk.injEq, List.length_map] at hv'
      obtain ⟨⟨rfl, _, _⟩, _, rfl⟩ := hv'
      obtain ⟨cs, hcsR, _, hput⟩ := hrow r (by rw [List.length_map]; exact hrl)
      have hX10 := hput 0 (.slice A9 lr.length c9) none (by omega) (by
        have hl1 := (LpX.good A9 lr.length c9).len hcsR
        match cs, hl1 with
        | [u], _ => rfl)
      rw [Nat.mul_one, Nat.add_zero] at hX10
      have hm10 : Mod (· = gb) w9 (w9.setCell ⟨gb, r, none⟩ (.slice A9 lr.length c9)) := mod_put (Mod.refl _ _) (fun _ => rfl)
      have ow10 := ow9.keep PkR.good hm10 (fun b hb _ e => by have h8 : b < w2.heap.size := hb.1; have h9 : b = gb := e; omega) (fun b hb e => by have h8 := (hob9 b hb).1; have h9 : b = gb := e; omega)
      have z10 : (w9.setCell ⟨gb, r, none⟩ (.slice A9 lr.length c9)).cell? ⟨gb, r, none⟩ = some (.slice A9 lr.length c9) := World.cell?_setCell_same' _ _ _ (by rw [zc9]; rfl)
      have hb10 : Below w2.heap.size w2 (w9.setCell ⟨gb, r, none⟩ (.slice A9 lr.length c9)) := (hb23.trans (hb39.mono hs3)).trans (hm10.below (by have := hb39.size; omega) (fun b hb => by have h9 : b = gb := hb; omega))
      have hs39 := hb39.size
      have hgl9 : gb < w9.heap.size := by omega
      have hsz10 := hm10.size
      clear hX9 hrow hput hcsR ow9 hv9 hm10 zc9 hfr hfz9 hr9 hrj4 z9' z9 hfz hrj
      generalize w9.setCell ⟨gb, r, none⟩ (.slice A9 lr.length c9) = w10 at *
      go_upto_if 65 with (fail)
      have HX10 := Lib.hid hX10
      have HOw10 := Lib.hid ow10
      clear hX10
      go_cut [] from 39 to 89 (fun wc => ∃ lsO, OwnG LpR 1 49 wc w2.heap.size (fun b => b < wc.heap.size ∧ b ≠ w.heap.size) (.slice (some ⟨gb, 0, none⟩) ls.length cb) lsO ∧ lsO.length = ls.length ∧ total lsO ≤ 32 ∧ Mod (fun b => b = w.heap.size ∨ w2.heap.size ≤ b) w2 wc)
      case first =>
        have HFin := Lib.hid (fun (W : World) (l' : List Pk) (hl' : l'.length = lr.length) (hX : OwnG (LpX A9 lr.length c9) 1 49 W w2.heap.size (fun b => b < w2.heap.size ∧ b ≠ w.heap.size) (.slice (some ⟨gb, 0, none⟩) ls.length cb) ((ls.map some).set r none)) (ho : OwnG PkR 6 40 W w3.heap.size (fun b => b < w2.heap.size ∧ b ≠ w.heap.size) (.slice A9 lr.length c9) l') => (show OwnG LpR 1 49 W w2.heap.size (fun b => b < W.heap.size ∧ b ≠ w.heap.size) (.slice (some ⟨gb, 0, none⟩) ls.length cb) (ls.set r l') from by
          obtain ⟨A', c', hv, hcc, hrr, hoo⟩ := ho.form PkR.good
          simp only [Value.slice.injEq] at hv
          obtain ⟨rfl, _, rfl⟩ := hv
          refine hX.lpy ⟨A9, c9, by rw [hl'], hcc, hrr.weak PkR.good (fun b hb hl9 => ⟨⟨hl9, ?_⟩, fun e => ?_⟩), by omega⟩ (fun b hb hl9 => ⟨hl9, hb.2⟩)
          · rcases hb with hb | hb
            · exact hb.1.2
            · have := (hoo b hb).1; omega
          · have e' : b = gb := by simpa [Value.ownBlock] using e.symm
            rcases hb with hb | hb
            · have h8 : b < w2.heap.size := hb.1.1; omega
            · have := (hoo b hb).1; omega))
        by_cases hl0 : lr.length = 0
        · have g1 : ¬ (0 : Int) < (lr.length : Int) := by omega
          have g2 : decide (0 < lr.length) = false := decide_eq_false (by omega)
          go_wp2_with (fail)
          go_meet
          exact ⟨_, HFin.out _ lr rfl HX10.out HOw10.out, by rw [List.length_set], by rw [total_same hrl (by rw [hlr.out])]; exact HLs.out.2, Mod.of_below hb10 (fun b h _ => .inr h)⟩
        · have g1 : (0 : Int) < (lr.length : Int) := by omega
          have g2 : decide (0 < lr.length) = true := decide_eq_true (by omega)
          obtain ⟨g9, c9', hv, _, hg9l, _, hfz, hrow⟩ := ow10.rowS PkR.good (by omega)
          simp only [Value.slice.injEq] at hv
          obtain ⟨rfl, _, rfl⟩ := hv
          have HWi2 := Lib.hid (fun W => within_any iv 0 ((lr.length : Int) - 1) i0 i1 (by omega) (by omega) (by omega) W)
          have hwb := withinV_in (n := iv) (lo := 0) (hi := (lr.length : Int) - 1) (by omega)
          generalize withinV iv 0 ((lr.length : Int) - 1) = jv at *
          obtain ⟨j, rfl⟩ := Int.eq_ofNat_of_zero_le hwb.1
          have hjl : j < lr.length := by omega
          have HT10 := Lib.hid (hT2.below hb10 hgs)
          have hne9 : gb ≠ g9 := by have := (hob9 g9 rfl).1; omega
          have hge9 : w2.heap.size ≤ g9 := by have := (hob9 g9 rfl).1; omega
          have HLen := Lib.hid (show ∀ q : Pk, (lr.set j q).length = lr.length from fun q => by rw [List.length_set])
          have hjz : (j : Int) < (lr.length : Int) := by omega
          have hwl : IntKind.i64.wrap ((lr.length : Int) - 1) = (lr.length : Int) - 1 := IntWalk.i64_in _ (by omega)
          have hlr8 : lr.length ≤ 8 := hl8
          have hb10s := hb10.size
          clear hrow hfz hwb ow10 hl0
          go_wp2_with (fail)
          refine wp_region_held_drew (S := (fun w' => Below w10.heap.size w10 w')) (by kernel_rfl) ?_ (fun hHeld => ?_)
          focus exact (Below.refl _ _).drew
          refine wpAnyH_take (i := 0) (v := ?_) rfl (by kernel_rfl) (by kernel_rfl) (by kernel_rfl) (fun _ _ _ h => h) (Or.inl ⟨by kernel_rfl, ?_⟩) (by assumption) ?_
          rotate_left
          focus
            intro w9 hSw
            (try dsimp only at hSw)
            have zK : ∀ {a9 : Addr} {u9 : Value}, w10.cell? a9 = some u9 → w9.cell? a9 = some u9 := fun {a9} {u9} h9 => (hSw.cell (World.block_lt_of_cell? w10 a9 h9)).trans h9
            have z0 := zK z10
            clear zK hSw
            go_simp
            (try with_reducible rfl)
          (try simp only [Act.put, List.getElem_toArray, List.getElem_cons_succ, List.getElem_cons_zero, List.setIfInBounds_toArray, List.set_cons_zero, List.set_cons_succ])
          refine wpAnyH_take (i := 1) (v := ?_) rfl (by kernel_rfl) (by kernel_rfl) (by kernel_rfl) (fun _ _ _ h => h) (Or.inl ⟨by kernel_rfl, ?_⟩) (by assumption) ?_
          rotate_left
          focus
            intro w9 hSw
            (try dsimp only at hSw)
            have zK : ∀ {a9 : Addr} {u9 : Value}, w10.cell? a9 = some u9 → w9.cell? a9 = some u9 := fun {a9} {u9} h9 => (hSw.cell (World.block_lt_of_cell? w10 a9 h9)).trans h9
            have z0 := zK z10
            clear zK hSw
            go_simp
            (try with_reducible rfl)
          (try simp only [Act.put, List.getElem_toArray, List.getElem_cons_succ, List.getElem_cons_zero, List.setIfInBounds_toArray, List.set_cons_zero, List.set_cons_succ])
          refine wpAnyH_take (i := 2) (v := ?_) rfl (by kernel_rfl) (by kernel_rfl) (by kernel_rfl) (fun _ _ _ h => h) (Or.inl ⟨by kernel_rfl, ?_⟩) (by assumption) ?_
          rotate_left
          focus
            intro w9 hSw
            (try dsimp only at hSw)
            have zK : ∀ {a9 : Addr} {u9 : Value}, w10.cell? a9 = some u9 → w9.cell? a9 = some u9 := fun {a9} {u9} h9 => (hSw.cell (World.block_lt_of_cell? w10 a9 h9)).trans h9
            have z0 := zK z10
            clear zK hSw
            go_simp
            (try with_reducible rfl)
          (try simp only [Act.put, List.getElem_toArray, List.getElem_cons_succ, List.getElem_cons_zero, List.setIfInBounds_toArray, List.set_cons_zero, List.set_cons_succ])
          refine wpAnyH_take (i := 3) (v := ?_) rfl (by kernel_rfl) (by kernel_rfl) (by kernel_rfl) (fun _ _ _ h => h) (Or.inl ⟨by kernel_rfl, ?_⟩) (by assumption) ?_
          rotate_left
          focus
            intro w9 hSw
            (try dsimp only at hSw)
            have zK : ∀ {a9 : Addr} {u9 : Value}, w10.cell? a9 = some u9 → w9.cell? a9 = some u9 := fun {a9} {u9} h9 => (hSw.cell (World.block_lt_of_cell? w10 a9 h9)).trans h9
            have z0 := zK z10
            clear zK hSw
            go_simp
            (try with_reducible rfl)
          (try simp only [Act.put, List.getElem_toArray, List.getElem_cons_succ, List.getElem_cons_zero, List.setIfInBounds_toArray, List.set_cons_zero, List.set_cons_succ])
          refine wpAnyH_take (i := 4) (v := ?_) rfl (by kernel_rfl) (by kernel_rfl) (by kernel_rfl) (fun _ _ _ h => h) (Or.inl ⟨by kernel_rfl, ?_⟩) (by assumption) ?_
          rotate_left
          focus
            intro w9 hSw
            (try dsimp only at hSw)
            have zK : ∀ {a9 : Addr} {u9 : Value}, w10.cell? a9 = some u9 → w9.cell? a9 = some u9 := fun {a9} {u9} h9 => (hSw.cell (World.block_lt_of_cell? w10 a9 h9)).trans h9
            have z0 := zK z10
            clear zK hSw
            go_simp
            (try with_reducible rfl)
          (try simp only [Act.put, List.getElem_toArray, List.getElem_cons_succ, List.getElem_cons_zero, List.setIfInBounds_toArray, List.set_cons_zero, List.set_cons_succ])
          refine wpAnyH_take (i := 5) (v := ?_) rfl (by kernel_rfl) (by kernel_rfl) (by kernel_rfl) (fun _ _ _ h => h) (Or.inl ⟨by kernel_rfl, ?_⟩) (by assumption) ?_
          rotate_left
          focus
            intro w9 hSw
            (try dsimp only at hSw)
            have zK : ∀ {a9 : Addr} {u9 : Value}, w10.cell? a9 = some u9 → w9.cell? a9 = some u9 := fun {a9} {u9} h9 => (hSw.cell (World.block_lt_of_cell? w10 a9 h9)).trans h9
            have z0 := zK z10
            clear zK hSw
            go_simp
            (try with_reducible rfl)
          (try simp only [Act.put, List.getElem_toArray, List.getElem_cons_succ, List.getElem_cons_zero, List.setIfInBounds_toArray, List.set_cons_zero, List.set_cons_succ])
          refine wpAnyH_take (i := 6) (v := ?_) rfl (by kernel_rfl) (by kernel_rfl) (by kernel_rfl) (fun _ _ _ h => h) (Or.inl ⟨by kernel_rfl, ?_⟩) (by assumption) ?_
          rotate_left
          focus
            intro w9 hSw
            (try dsimp only at hSw)
            have zK : ∀ {a9 : Addr} {u9 : Value}, w10.cell? a9 = some u9 → w9.cell? a9 = some u9 := fun {a9} {u9} h9 => (hSw.cell (World.block_lt_of_cell? w10 a9 h9)).trans h9
            have z0 := zK z10
            clear zK hSw
            go_simp
            (try with_reducible rfl)
          (try simp only [Act.put, List.getElem_toArray, List.getElem_cons_succ, List.getElem_cons_zero, List.setIfInBounds_toArray, List.set_cons_zero, List.set_cons_succ])
          refine wpAnyH_take (i := 7) (v := ?_) rfl (by kernel_rfl) (by kernel_rfl) (by kernel_rfl) (fun _ _ _ h => h) (Or.inl ⟨by kernel_rfl, ?_⟩) (by assumption) ?_
          rotate_left
          focus
            intro w9 hSw
            (try dsimp only at hSw)
            have zK : ∀ {a9 : Addr} {u9 : Value}, w10.cell? a9 = some u9 → w9.cell? a9 = some u9 := fun {a9} {u9} h9 => (hSw.cell (World.block_lt_of_cell? w10 a9 h9)).trans h9
            have z0 := zK z10
            clear zK hSw
            go_simp
            (try with_reducible rfl)
          (try simp only [Act.put, List.getElem_toArray, List.getElem_cons_succ, List.getElem_cons_zero, List.setIfInBounds_toArray, List.set_cons_zero, List.set_cons_succ])
          refine wpAnyH_take (i := 8) (v := ?_) rfl (by kernel_rfl) (by kernel_rfl) (by kernel_rfl) (fun _ _ _ h => h) (Or.inl ⟨by kernel_rfl, ?_⟩) (by assumption) ?_
          rotate_left
          focus
            intro w9 hSw
            (try dsimp only at hSw)
            have zK : ∀ {a9 : Addr} {u9 : Value}, w10.cell? a9 = some u9 → w9.cell? a9 = some u9 := fun {a9} {u9} h9 => (hSw.cell (World.block_lt_of_cell? w10 a9 h9)).trans h9
            have z0 := zK z10
            clear zK hSw
            go_simp
            (try with_reducible rfl)
          (try simp only [Act.put, List.getElem_toArray, List.getElem_cons_succ, List.getElem_cons_zero, List.setIfInBounds_toArray, List.set_cons_zero, List.set_cons_succ])
          refine wpAnyH_take (i := 9) (v := ?_) rfl (by kernel_rfl) (by kernel_rfl) (by kernel_rfl) (fun _ _ _ h => h) (Or.inl ⟨by kernel_rfl, ?_⟩) (by assumption) ?_
          rotate_left
          focus
            intro w9 hSw
            (try dsimp only at hSw)
            have zK : ∀ {a9 : Addr} {u9 : Value}, w10.cell? a9 = some u9 → w9.cell? a9 = some u9 := fun {a9} {u9} h9 => (hSw.cell (World.block_lt_of_cell? w10 a9 h9)).trans h9
            have z0 := zK z10
            clear zK hSw
            go_simp
            (try with_reducible rfl)
          (try simp only [Act.put, List.getElem_toArray, List.getElem_cons_succ, List.getElem_cons_zero, List.setIfInBounds_toArray, List.set_cons_zero, List.set_cons_succ])
          refine wpAnyH_take (i := 10) (v := ?_) rfl (by kernel_rfl) (by kernel_rfl) (by kernel_rfl) (fun _ _ _ h => h) (Or.inl ⟨by kernel_rfl, ?_⟩) (by assumption) ?_
          rotate_left
          focus
            intro w9 hSw
            (try dsimp only at hSw)
            have zK : ∀ {a9 : Addr} {u9 : Value}, w10.cell? a9 = some u9 → w9.cell? a9 = some u9 := fun {a9} {u9} h9 => (hSw.cell (World.block_lt_of_cell? w10 a9 h9)).trans h9
            have z0 := zK z10
            clear zK hSw
            go_simp
            (try with_reducible rfl)
          (try simp only [Act.put, List.getElem_toArray, List.getElem_cons_succ, List.getElem_cons_zero, List.setIfInBounds_toArray, List.set_cons_zero, List.set_cons_succ])
          refine wpAnyH_ready (rs := [11]) (by kernel_rfl) (by simp) (AllReadyH.cons rfl (fun K hK => ?_) AllReadyH.nil)
          go_simp
          go_at_call 16
          with_reducible refine (HWi2.out _).mono ?_
          rintro e w11 ⟨rfl, rfl⟩
          refine hK.out _ _ ?_ (fun hHeld => ?_)
          focus exact (Below.refl _ _).drew
          clear hK K
          (try simp only [Act.put, List.getElem_toArray, List.getElem_cons_succ, List.getElem_cons_zero, List.setIfInBounds_toArray, List.set_cons_zero, List.set_cons_succ])
          refine wpAnyH_take (i := 12) (v := ?_) rfl (by kernel_rfl) (by kernel_rfl) (by kernel_rfl) (fun _ _ _ h => h) (Or.inl ⟨by kernel_rfl, ?_⟩) (by assumption) ?_
          rotate_left
          focus
            intro w9 hSw
            (try dsimp only at hSw)
            go_simp
            (try with_reducible rfl)
          (try simp only [Act.put, List.getElem_toArray, List.getElem_cons_succ, List.getElem_cons_zero, List.setIfInBounds_toArray, List.set_cons_zero, List.set_cons_succ])
          refine wpAnyH_take (i := 13) (v := ?_) rfl (by kernel_rfl) (by kernel_rfl) (by kernel_rfl) (fun _ _ _ h => h) (Or.inl ⟨by kernel_rfl, ?_⟩) (by assumption) ?_
          rotate_left
          focus
            intro w9 hSw
            (try dsimp only at hSw)
            go_simp
            (try with_reducible rfl)
          (try simp only [Act.put, List.getElem_toArray, List.getElem_cons_succ, List.getElem_cons_zero, List.setIfInBounds_toArray, List.set_cons_zero, List.set_cons_succ])
          refine wpAnyH_done (by kernel_rfl) ?_ _
          (try simp only [Act.put, List.getElem_toArray, List.getElem_cons_succ, List.getElem_cons_zero, List.setIfInBounds_toArray, List.set_cons_zero, List.set_cons_succ])
          go_upto_if 81 with (first
            | (go_at_call 13; (with_reducible refine (next_any HT10.out.drew 2 (by omega) (by omega)).mono ?_); rintro e w12 ⟨r6, rfl, hr6, hT12, hg12'⟩; obtain ⟨k6, hk6⟩ : ∃ b, (r6 == 0) = b := ⟨_, rfl⟩; have hk6' : ((r6 : Int) == 0) = k6 := (by rw [← hk6, Bool.eq_iff_iff]; simp)))
          have hg12 := only_trans (only_drew (only_refl w10 (some w.heap.size))) hg12'
          have hm12 : Mod (· = w.heap.size) w10 w12 := Mod.of_only hg12 (fun _ => rfl)
          have ow12 := HOw10.out.keep PkR.good hm12 (fun b hb _ e => hb.2 e) (fun b hb e => by have h8 := (hob9 b hb).1; have h9 : b = w.heap.size := e; omega)
          have hX12 := HX10.out.keep (LpX.good _ lr.length c9) hm12 (fun b hb _ e => hb.2 e) (fun b hb e => by have h8 : gb = b := (by simpa [Value.ownBlock] using hb); have h9 : b = w.heap.size := e; omega)
          have hMod12 : Mod (fun b => b = w.heap.size ∨ w2.heap.size ≤ b) w2 w12 := (Mod.of_below hb10 (fun b h _ => .inr h)).then_ (hm12.mono (fun b hb _ => .inl hb))
          obtain ⟨g9', c9', hv, _, _, _, hfz, hrow⟩ := ow12.rowS PkR.good (by omega)
          simp only [Value.slice.injEq, Option.some.injEq, Addr.mk.injEq] at hv
          obtain ⟨⟨rfl, _, _⟩, _, rfl⟩ := hv
          obtain ⟨cs, ⟨Ap, cp, hcs, hcp, hrp, hwp⟩, hcell, hput⟩ := hrow j hjl
          have HPutA := Lib.hid (hput 1 (.int .i64 iv) ⟨lr[j].st, iv, lr[j].ln, lr[j].key, lr[j].hid, lr[j].data⟩ (by omega) ⟨Ap, cp, by rw [hcs]; rfl, hcp, hrp, ⟨hwp.st, ⟨i0, i1⟩, hwp.ln, hwp.len, hwp.bytes⟩⟩)
          have HPutS := Lib.hid (hput 0 (.int .i64 sv) ⟨sv, lr[j].at_, lr[j].ln, lr[j].key, lr[j].hid, lr[j].data⟩ (by omega) ⟨Ap, cp, by rw [hcs]; rfl, hcp, hrp, ⟨⟨s0, s1⟩, hwp.at_, hwp.ln, hwp.len, hwp.bytes⟩⟩)
          have x0 := hcell 0 _ (by rw [hcs]; rfl)
          have x1 := hcell 1 _ (by rw [hcs]; rfl)
          rw [Nat.add_zero] at x0
          rw [Nat.add_zero] at HPutS
          have f0 := hfz (j * 6)
          have f1 := hfz (j * 6 + 1)
          have HKeep := Lib.hid (fun (off : Nat) (u : Value) => (show OwnG (LpX (some ⟨g9, 0, none⟩) lr.length c9) 1 49 (w12.setCell ⟨g9, off, none⟩ u) w2.heap.size (fun b => b < w2.heap.size ∧ b ≠ w.heap.size) (.slice (some ⟨gb, 0, none⟩) ls.length cb) ((ls.map some).set r none) ∧ Mod (fun b => b = w.heap.size ∨ w2.heap.size ≤ b) w2 (w12.setCell ⟨g9, off, none⟩ u) from
            ⟨hX12.keep (LpX.good _ lr.length c9) (mod_put (M := (· = g9)) (Mod.refl _ _) (fun _ => rfl)) (fun b hb _ e => by have h8 : b < w2.heap.size := hb.1; have h9 : b = g9 := e; omega) (fun b hb e => by have h8 : gb = b := (by simpa [Value.ownBlock] using hb); have h9 : b = g9 := e; omega), mod_put hMod12 (fun _ => .inr hge9)⟩))
          clear hcell hput hrow hcs hrp hwp hfz ow12 hX12 hMod12 hm12 hg12 hg12'
          cases k6 with
          | true =>
            go_wp2_with (fail)
            go_meet
            exact ⟨_, HFin.out _ _ (HLen.out _) (HKeep.out _ _).1 HPutA.out, by rw [List.length_set], by rw [total_same hrl (by rw [HLen.out, hlr.out])]; exact HLs.out.2, (HKeep.out _ _).2⟩
          | false =>
            go_wp2_with (fail)
            go_meet
            exact ⟨_, HFin.out _ _ (HLen.out _) (HKeep.out _ _).1 HPutS.out, by rw [List.length_set], by rw [total_same hrl (by rw [HLen.out, hlr.out])]; exact HLs.out.2, (HKeep.out _ _).2⟩
      case rest =>
        obtain ⟨lsO, hO, hOl, hOt, hMw⟩ := hcut
        have hnM : ∀ b, (fun b => b < w2.heap.size ∧ b ≠ w.heap.size) b → b < w2.heap.size → ¬ (fun b => b = w.heap.size ∨ w2.heap.size ≤ b) b := fun b hb _ h => by
          have h8 : b < w2.heap.size := hb.1
          rcases h with h | h
          · exact hb.2 h
          · omega
        have hlc := hr2'.keep LpR.good hMw hnM
        have hrc' := hraw2.keep LpR.good hMw hnM
        have hwc := hMw.size
        obtain ⟨A', c', hv', hcc', hro⟩ := hO.reads LpR.good (S := fun b => b < wc.heap.size) (fun b _ hl => hl)
        simp only [Value.slice.injEq] at hv'
        obtain ⟨rfl, h77, rfl⟩ := hv'
        clear h77
        have hbc : Below w.heap.size w wc := bb2.trans (hMw.below hs2 (fun b hb => by rcases hb with hb | hb <;> omega))
        have T1 := Lib.hid (fun W (hb : Below wc.heap.size wc W) => all_any (c := c2) ((hlc.below LpR.good hb).weak LpR.good (S' := fun b => b < W.heap.size) (fun b hb' hl => hl)) (by omega) (by have := HLs.out.2; omega))
        have T2 : Hid (∀ W, Below wc.heap.size wc W → Calls Try.prog 23 #[.slice (some ⟨gb, 0, none⟩) ls.length cb] W fun e w' => e = .returned (.bool true) ∧ Below W.heap.size W w') := fun W hb => by
          have h := all_any (c := cb) ((hro.below LpR.good hb).weak LpR.good (S' := fun b => b < W.heap.size) (fun b hb' hl => hl)) (by omega) (by omega)
          rw [hOl] at h
          exact h
        have T3 := Lib.hid (fun W (hb : Below wc.heap.size wc W) => all_any (c := cr) ((hrc'.below LpR.good hb).weak LpR.good (S' := fun b => b < W.heap.size) (fun b hb' hl => hl)) (by omega) (by omega))
        have HOc := Lib.hid (fun W (hb : Below wc.heap.size wc W) => hO.keep LpR.good (Mod.of_fresh (M := fun _ => False) hb) (fun _ _ _ h => h) (fun _ _ h => h))
        have HRc := Lib.hid (fun W (hb : Below wc.heap.size wc W) => hrc'.below LpR.good hb)
        have T5 := Lib.hid (fun (W : World) (A : Option Addr) (c : Nat) (h : RdG LpR 1 W (fun b => b < W.heap.size) A (lsO ++ raw)) => all_any (c := c) h (by rw [List.length_append]; omega) (by rw [total_app]; omega))
        have HLn := Lib.hid (show (lsO ++ raw).length = ls.length + raw.length by rw [List.length_append, hOl])
        clear hO hro hrc' hlc hMw hr2' hraw2 hnM HX10 HOw10 hOt
        go_wp2_with (first
          | (go_at_call 23; (with_reducible refine (T1.out _ (Below.refl _ _)).mono ?_); rintro e w5 ⟨rfl, hb5⟩)
          | (go_at_call 23; (with_reducible refine (T2.out _ hb5).mono ?_); rintro e w6 ⟨rfl, hb6⟩; have hb6 := below_then hb5 hb6)
          | (go_at_call 23; (with_reducible refine (T3.out _ hb6).mono ?_); rintro e w7 ⟨rfl, hb7⟩; have hb7 := below_then hb6 hb7; have hs7 := hb7.size; have ho7 := HOc.out _ hb7; have hr7 := HRc.out _ hb7)
          | (at_builtin; (refine wpList_append_Gw (v := .slice (some ⟨gb, 0, none⟩) ls.length cb) (by kernel_rfl) (.tmp 101) (.tmp 102) _ rfl LpR.good w7 (.slice none 0 0) 24 Try.underlying48 info_lps rfl (by omega) rfl ho7 (fun b => b < w2.heap.size ∧ b ≠ w.heap.size) Ar cr raw.length raw rfl rfl hr7 (fun b hb _ => ⟨by have h8 : b < w2.heap.size := hb.1; omega, hb.2⟩) (fun b hb h => by have h8 : gb = b := (by simpa [Value.ownBlock] using hb); have h9 : b < w2.heap.size := h.1; omega) (fun b hb => by have h9 : b < wc.heap.size := hb.1; omega) (by omega) (by omega) ?_); intro v10 w10 ho10 hg10 hv10; have hb10' : Below w2.heap.size w7 w10 := Below.grown (Below.refl _ _) hg10 (by omega) (fun b hb => by have h8 : gb = b := (by simpa [Value.ownBlock] using hb); omega); obtain ⟨A10, c10, rfl, hc10, hr10⟩ := ho10.reads LpR.good (S := fun b => b < w10.heap.size) (fun b _ hl => hl); have S5 := T5.out w10 A10 c10 hr10; rw [HLn.out] at S5)
          | (go_at_call 23; (with_reducible refine S5.mono ?_); rintro e w11 ⟨rfl, hb11⟩)
          | (go_at_call 15; (with_reducible refine (HK.out _).mono ?_); rintro e w12 ⟨rfl, hb12⟩))
        go_ret
        have hs10 := hb10'.size
        exact ⟨rfl, hbc.trans (((hb7.mono (by omega)).trans (hb10'.mono (by omega))).trans ((hb11.mono (by omega)).trans (hb12.mono (by have := hb11.size; omega))))⟩
end Go.Proofs.Ytnflhogjonlnmaa.weaveAll
