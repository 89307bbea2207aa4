/- WeavePlays: the walk. -/
import Derived.Test.YtnflhogjonlnmaaWvKnown
import Derived.Test.YtnflhogjonlnmaaActs
import Derived.Test.YtnflhogjonlnmaaPlay
import Derived.Test.YtnflhogjonlnmaaOwnEmp
set_option linter.unusedSimpArgs false
set_option linter.unusedVariables false
namespace Go.Proofs.Ytnflhogjonlnmaa.weavePlays
open Go.RowKit

theorem and_bd (a m : Int) : i64B (bits .and .i64 a m) := by
  have h2 : bits .and .i64 a m = IntKind.i64.wrap ((BitVec.ofInt 64 a &&& BitVec.ofInt 64 m).toNat : Int) := rfl
  rw [h2, IntKind.wrap_i64]; unfold i64B; omega

theorem acts80 {w : World} {B g : Nat} (h : TapeB w B g) :
    Calls Try.prog 12 #[.pointer (some ⟨g, 0, none⟩), .int .i64 80] w fun e w' => ∃ v l, e = .returned v ∧ l.length = 80 ∧ (∀ a ∈ l, a.p.data.length ≤ 4) ∧
      OwnG AcR 8 75 w' w.heap.size (fun b => w.heap.size ≤ b ∧ b < w'.heap.size) v l ∧ TapeB w' B g ∧ w.grownBy w' (some g) := acts_any h 80 (by omega)

set_option maxHeartbeats 16000000 in
set_option maxRecDepth 100000 in
theorem walk (w : World) (A0 : Option Addr) (c0 : Nat) (t : List Int) (ht : ∀ x ∈ t, -9223372036854775808 ≤ x ∧ x ≤ 9223372036854775807) (hc : t.length ≤ c0) (h63 : c0 ≤ 9223372036854775807) (hrt : RdI w w.heap.size .i64 A0 t)
    (Ar : Option Addr) (cr : Nat) (raw : List Ac) (hrc : raw.length ≤ cr) (hcr : cr ≤ 9223372036854775807) (hrr : RdAc w (· < w.heap.size) Ar raw)
    (st : Int) (s0 : -9223372036854775808 ≤ st) (s1 : st ≤ 9223372036854775807) (mo : Int) (m0 : -9223372036854775808 ≤ mo) (m1 : mo ≤ 9223372036854775807) :
    Calls Try.prog 3 #[.slice A0 t.length c0, .slice Ar raw.length cr, .int .i64 st, .int .i64 mo] w fun e w' => e = .returned (.bool true) ∧ Below w.heap.size w w' := by
  have HH := Lib.hid (heavyac_any (c := cr) hrr (by omega))
  cases hh : heavyAc raw with
  | true =>
    rw [hh] at HH
    clear hh
    go_enter Try.func3, Try.ntmps3
    go_wp2_with (first
      | (go_at_call 10; (with_reducible refine HH.out.mono ?_); rintro e w1 ⟨rfl, rfl⟩))
    go_ret
    exact ⟨rfl, Below.refl _ _⟩
  | false =>
    rw [hh] at HH
    have hlr : raw.length ≤ 3000 := by
      rw [heavyAc, decide_eq_false_iff_not] at hh
      have := asum_len raw
      omega
    clear hh
    have HK := Lib.hid (fun W => known_any W)
    have HT := Lib.hid (newtape_any A0 t c0 ht hc (by omega) w hrt (Nat.le_refl _))
    have HAc := Lib.hid (fun W (hW : TapeB W w.heap.size w.heap.size) => acts80 hW)
    clear ht hrt
    go_enter Try.func3, Try.ntmps3
    go_upto_region 6 with (first
      | (go_at_call 10; (with_reducible refine HH.out.mono ?_); rintro e w1 ⟨rfl, rfl⟩)
      | (go_at_call 11; (with_reducible refine HT.out.mono ?_); rintro e w1 ⟨rfl, hT1, hb1⟩)
      | (go_at_call 12; (with_reducible refine (HAc.out _ hT1).mono ?_); rintro e w2 ⟨v2, l, rfl, hl, hld, ho2, hT2, hg2⟩)
      | (go_at_call 13; (with_reducible refine (next_any hT2 4 (by omega) (by omega)).mono ?_); rintro e w3 ⟨r3, rfl, hr3, hT3, hg3⟩)
      | (go_at_call 13; (with_reducible refine (next_any hT3 200 (by omega) (by omega)).mono ?_); rintro e w4 ⟨r4, rfl, hr4, hT4, hg4⟩))
    replace hl := Nat.le_of_eq hl
    have bb4 := below_one (below_one (below_one hb1 hg2 (Nat.le_refl _)) hg3 (Nat.le_refl _)) hg4 (Nat.le_refl _)
    have hM24 : Mod (· = w.heap.size) w2 w4 := Mod.of_only (only_trans hg3 hg4) (fun _ => rfl)
    have hl4 := ho2.keep AcR.good hM24 (fun b hb _ e => by have h1 := hb.1; have h2 := hT1.lt; have e2 : b = w.heap.size := e; omega) (fun b hb e => by have h1 := (ho2.own_ge b hb).1; have h2 := hT1.lt; have e2 : b = w.heap.size := e; omega)
    obtain ⟨A2, c2, rfl, hc2, hr2⟩ := hl4.reads AcR.good (S := fun b => b < w4.heap.size) (fun b _ hl => hl)
    have hs04 := bb4.size
    have hrr4 := (hrr.below AcR.good bb4).weak AcR.good (S' := fun b => b < w4.heap.size) (fun b hb _ => Nat.lt_of_lt_of_le hb hs04)
    have HR2 := Lib.hid (fun W (hb : Below w4.heap.size w4 W) => (hr2.below AcR.good hb).weak AcR.good (S' := fun b => b < W.heap.size) (fun b hb' _ => Nat.lt_of_lt_of_le hb' hb.size))
    have HRR := Lib.hid (fun W (hb : Below w4.heap.size w4 W) => (hrr4.below AcR.good hb).weak AcR.good (S' := fun b => b < W.heap.size) (fun b hb' _ => Nat.lt_of_lt_of_le hb' hb.size))
    have S1 := Lib.hid (fun W (hb : Below w4.heap.size w4 W) => play_any (c := c2) (HR2.out W hb) (by omega) (streams := 1 + (r3 : Int)) (most := (r4 : Int)) ⟨by omega, by omega⟩ ⟨by omega, by omega⟩)
    have S2 := Lib.hid (fun W (hb : Below w4.heap.size w4 W) => play_any (c := c2) (HR2.out W hb) (by omega) (streams := 4) (most := 1125899906842624) ⟨by omega, by omega⟩ ⟨by omega, by omega⟩)
    have S3 := Lib.hid (fun W (hb : Below w4.heap.size w4 W) => play_any (c := c2) (HR2.out W hb) (by omega) (streams := 4) (most := 0) ⟨by omega, by omega⟩ ⟨by omega, by omega⟩)
    have S4 := Lib.hid (fun W (hb : Below w4.heap.size w4 W) => play_any (c := cr) (HRR.out W hb) (by omega) (streams := st) (most := mo) ⟨s0, s1⟩ ⟨m0, m1⟩)
    have hr2b := Lib.hid (fun W (hb : Below w4.heap.size w4 W) => hr2.below AcR.good hb)
    have hrrb := Lib.hid (fun W (hb : Below w4.heap.size w4 W) => hrr4.below AcR.good hb)
    clear hr2 hrr4 hrr ho2 hl4 hM24 hg2 hg3 hg4 hT1 hT2 hT3 hT4 hb1 hld
    go_wp2_with (first
      | (go_at_call 14; (with_reducible refine (S1.out _ (Below.refl _ _)).mono ?_); rintro e w5 ⟨rfl, hb5⟩)
      | (go_at_call 14; (with_reducible refine (S2.out _ hb5).mono ?_); rintro e w6 ⟨rfl, hb6⟩; have hb6 := below_then hb5 hb6)
      | (go_at_call 14; (with_reducible refine (S3.out _ hb6).mono ?_); rintro e w7 ⟨rfl, hb7⟩; have hb7 := below_then hb6 hb7)
      | (go_at_call 14; (with_reducible refine (S4.out _ hb7).mono ?_); rintro e w8 ⟨rfl, hb8⟩; have hb8 := below_then hb7 hb8; have hs8 := hb8.size; have rl := hr2b.out _ (below_alloc hb8 (.cells #[] 75)))
      | (at_builtin; (refine wpList_append_Gw (by kernel_rfl) (.tmp 45) (.tmp 46) _ rfl AcR.good _ (.agg #[.int .i64 0, .int .i64 0, .int .i64 0, .int .i64 0, .bool false, .bool false, .slice none 0 0, .int .i64 0]) 72 Try.underlying23 info_ac rfl (by omega) rfl (OwnG.empty AcR 8 75 w8 w8.heap.size (fun b => b < w4.heap.size) (Nat.le_refl _)) (fun b => b < w4.heap.size) A2 c2 l.length l rfl rfl rl (fun b hb _ => hb) (fun b hb h => by have hb' : (Value.slice (some ⟨w8.heap.size, 0, none⟩) 0 0).ownBlock = some b := hb; have h9 : w8.heap.size = b := (by simpa [Value.ownBlock] using hb'); have h8 : b < w4.heap.size := h; omega) (fun b hb => by simp; omega) (by simp; omega) (by simp) ?_); intro v9 w9 ho9 hg9 hv9; go_must (rw [List.nil_append] at ho9); go_must (have hb89 : Below w8.heap.size w8 w9 := Below.grown (below_alloc (Below.refl w8.heap.size w8) _) hg9 (by simp) (fun b hb => by have hb' : (Value.slice (some ⟨w8.heap.size, 0, none⟩) 0 0).ownBlock = some b := hb; have h9 : w8.heap.size = b := (by simpa [Value.ownBlock] using hb'); omega)); have hs9 : w8.heap.size ≤ w9.heap.size := hb89.size; go_must (have rr9 := hrrb.out _ (hb8.trans (hb89.mono hs8))))
      | (at_builtin; go_must (refine wpList_append_Gw (by kernel_rfl) (.tmp 47) (.tmp 48) _ rfl AcR.good w9 (.agg #[.int .i64 0, .int .i64 0, .int .i64 0, .int .i64 0, .bool false, .bool false, .slice none 0 0, .int .i64 0]) 72 Try.underlying23 info_ac rfl (by omega) rfl ho9 (fun b => b < w4.heap.size) Ar cr raw.length raw rfl rfl rr9 (fun b hb _ => hb) (fun b hb h => by have h9 := (ho9.own_ge b hb).1; have h8 : b < w4.heap.size := h; omega) (fun b hb => by have : b < w4.heap.size := hb; omega) (by omega) hs9 ?_); intro v10 w10 ho10 hg10 hv10; have hb10 : Below w8.heap.size w9 w10 := Below.grown (Below.refl _ _) hg10 hs9 (fun b hb => (ho9.own_ge b hb).1); obtain ⟨A10, c10, rfl, hc10, hr10⟩ := ho10.reads AcR.good (S := fun b => b < w10.heap.size) (fun b _ hl => hl); have S5 := play_any (c := c10) hr10 (by simp; omega) (streams := 4) (most := bits .and .i64 mo 1023) ⟨by omega, by omega⟩ (and_bd _ _); rw [List.length_append] at S5)
      | (go_at_call 14; (with_reducible refine S5.mono ?_); rintro e w11 ⟨rfl, hb11⟩)
      | (go_at_call 15; (with_reducible refine (HK.out _).mono ?_); rintro e w12 ⟨rfl, hb12⟩))
    go_ret
    exact ⟨rfl, below_then bb4 (below_then hb8 (((hb89.trans hb10).trans (hb11.mono (by have := hb10.size; omega))).trans (hb12.mono (by have := hb10.size; have := hb11.size; omega))))⟩
end Go.Proofs.Ytnflhogjonlnmaa.weavePlays
