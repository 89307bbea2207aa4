/- PageSplits: the walk. -/
import Derived.Test.YtkgenjgomnalpaaPgKnown
import Derived.Test.YtkgenjgomnalpaaHvPk
import Derived.Test.YtkgenjgomnalpaaTapePk
import Derived.Deep.DeepCutAuto
set_option linter.unusedSimpArgs false
set_option linter.unusedVariables false
namespace Go.Proofs.Ytkgenjgomnalpaa.pageSplits
open Go.RowKit

theorem and_nn (a m : Int) (h0 : 0 ≤ m) (h1 : m < 9223372036854775808) : 0 ≤ bits .and .i64 a m ∧ bits .and .i64 a m ≤ m := by
  obtain ⟨n, rfl⟩ := Int.eq_ofNat_of_zero_le h0
  have h3 : (BitVec.ofInt 64 a &&& BitVec.ofInt 64 (n : Int)).toNat ≤ n := by
    rw [BitVec.toNat_and]
    have h4 : (BitVec.ofInt 64 (n : Int)).toNat = n := by rw [BitVec.toNat_ofInt]; omega
    rw [h4]
    exact Nat.and_le_right
  have h2 : bits .and .i64 a (n : Int) = IntKind.i64.wrap ((BitVec.ofInt 64 a &&& BitVec.ofInt 64 (n : Int)).toNat : Int) := rfl
  rw [h2, IntKind.wrap_i64]; omega
theorem tape_sum {st : Int} {l : List Pk} (h : TapePks st l) : wsum l ≤ 920 * l.length := by
  have key : ∀ l : List Pk, (∀ p ∈ l, p.data.length ≤ 900) → wsum l ≤ 920 * l.length := fun l => by
    induction l with
    | nil => intro _; simp [wsum]
    | cons x l ih =>
      intro h
      have h1 := h x (List.mem_cons_self ..)
      have h2 := ih (fun p hp => h p (List.mem_cons_of_mem _ hp))
      simp only [wsum, List.map_cons, List.sum_cons, List.length_cons] at h2 ⊢
      omega
  exact key l (fun p hp => (h.data p hp).1)

set_option maxHeartbeats 8000000 in
set_option maxRecDepth 100000 in
theorem walk (w : World) (A0 : Option Addr) (c0 : Nat) (t : List Int) (ht : ∀ x ∈ t, -9223372036854775808 ≤ x ∧ x ≤ 9223372036854775807) (hc : t.length ≤ c0) (h63 : c0 ≤ 9223372036854775807) (hrt : RdI w w.heap.size .i64 A0 t)
    (Ar : Option Addr) (cr : Nat) (raw : List Pk) (hrc : raw.length ≤ cr) (hcr : cr ≤ 9223372036854775807) (hrr : RdPk w (· < w.heap.size) Ar raw)
    (from_ : Int) (f0 : -9223372036854775808 ≤ from_) (f1 : from_ ≤ 9223372036854775807) :
    Calls Try.prog 5 #[.slice A0 t.length c0, .slice Ar raw.length cr, .int .i64 from_] w fun e w' => e = .returned (.bool true) ∧ Below w.heap.size w w' := by
  have HK := Lib.hid (fun W => known_any W)
  have HH := Lib.hid (heavypk_any (c := cr) hrr (by omega))
  by_cases hv : 20000 < wsum raw
  · rw [show heavyPk raw = true by rw [heavyPk, decide_eq_true_eq]; exact hv] at HH
    clear ht hrt hrr
    go_enter Try.func5, Try.ntmps5
    go_wp2_with (go_at_call 21; (with_reducible refine HH.out.mono ?_); rintro e w1 ⟨rfl, rfl⟩)
    go_ret
    exact ⟨rfl, Below.refl _ _⟩
  · rw [show heavyPk raw = false by rw [heavyPk, decide_eq_false_iff_not]; exact hv] at HH
    have hrl : raw.length ≤ 1000 := by have := wsum_len raw; omega
    have HT := Lib.hid (newtape_any A0 t c0 ht hc (by omega) w hrt (Nat.le_refl _))
    have HPs := Lib.hid (fun W (hW : TapeB W w.heap.size w.heap.size) => tapepks_any hW 2 (by unfold i64B; omega) 6 (by omega) (by omega))
    have hA1 := and_nn from_ 65535 (by omega) (by omega)
    have hA2 := and_nn from_ 15 (by omega) (by omega)
    generalize hz1 : bits .and .i64 from_ 65535 = z1 at *
    generalize hz2 : bits .and .i64 from_ 15 = z2 at *
    have HW := Lib.hid hv
    clear ht hrt hv
    go_enter Try.func5, Try.ntmps5
    go_upto_region 4 with (first
      | (go_at_call 21; (with_reducible refine HH.out.mono ?_); rintro e w1 ⟨rfl, rfl⟩)
      | (go_at_call 8; (with_reducible refine HT.out.mono ?_); rintro e w1 ⟨rfl, hT1, hb1⟩)
      | (go_at_call 22; (with_reducible refine (HPs.out _ hT1).mono ?_); rintro e w2 ⟨v2, l, rfl, hl, hpk, ho2, hT2, hg2⟩))
    have bb2 := below_one hb1 hg2 (Nat.le_refl _)
    have hls := tape_sum hpk
    obtain ⟨A2, c2, rfl, hc2, hr2⟩ := ho2.reads PkR.good (S := fun b => b < w2.heap.size) (fun b _ hl => hl)
    have hrr2 := hrr.below PkR.good (Below.mono (B' := w.heap.size) bb2 (Nat.le_refl _))
    have hs02 := bb2.size
    have hrr2 := hrr2.weak PkR.good (S' := fun b => b < w2.heap.size) (fun b hb _ => Nat.lt_of_lt_of_le hb hs02)
    have S1 := Lib.hid (fun W (hb : Below w2.heap.size w2 W) => splits_any (c := c2) (hr2.below PkR.good hb) (by omega) from_ f0 f1 (by omega))
    have S2 := Lib.hid (fun W (hb : Below w2.heap.size w2 W) => splits_any (c := c2) (hr2.below PkR.good hb) (by omega) z1 (by omega) (by omega) (by omega))
    have S3 := Lib.hid (fun W (hb : Below w2.heap.size w2 W) => splits_any (c := c2) (hr2.below PkR.good hb) (by omega) (2147483647 - z2) (by omega) (by omega) (by omega))
    have S4 := Lib.hid (fun W (hb : Below w2.heap.size w2 W) => splits_any (c := cr) (hrr2.below PkR.good hb) (by omega) from_ f0 f1 (by have := HW.out; omega))
    have HR2 := Lib.hid (fun W (hb : Below w2.heap.size w2 W) => hr2.below PkR.good hb)
    have HRR := Lib.hid (fun W (hb : Below w2.heap.size w2 W) => hrr2.below PkR.good hb)
    have hs2 := bb2.size
    have HS5 := Lib.hid (show wsum (l ++ raw) ≤ 1000000 by rw [wsum_append]; have := HW.out; omega)
    clear hr2 hrr hrr2 hls ho2 hpk
    go_wp2_with (first
      | (go_at_call 23; (with_reducible refine (S1.out _ (Below.refl _ _)).mono ?_); rintro e w3 ⟨rfl, hb3⟩)
      | (go_at_call 23; (with_reducible refine (S2.out _ hb3).mono ?_); rintro e w4 ⟨rfl, hb4⟩; have hb4 := below_then hb3 hb4)
      | (go_at_call 23; (with_reducible refine (S3.out _ hb4).mono ?_); rintro e w5 ⟨rfl, hb5⟩; have hb5 := below_then hb4 hb5)
      | (go_at_call 23; (with_reducible refine (S4.out _ hb5).mono ?_); rintro e w6 ⟨rfl, hb6⟩; have hb6 := below_then hb5 hb6; have hs6 := hb6.size; have rl := HR2.out _ (below_alloc hb6 (.cells #[] 25)))
      | (at_builtin; (refine wpList_append_Gw (by kernel_rfl) (.tmp 35) (.tmp 36) _ rfl PkR.good _ (.agg #[.int .i64 0, .int .i64 0, .int .i64 0, .bool false, .bool false, .slice none 0 0]) 56 Try.underlying49 info_pk rfl (by omega) rfl (OwnG.empty PkR 6 25 w6 w6.heap.size (fun b => b < w2.heap.size) (Nat.le_refl _)) (fun b => b < w2.heap.size) A2 c2 l.length l rfl rfl rl (fun b hb _ => hb) (fun b hb h => by have hb' : (Value.slice (some ⟨w6.heap.size, 0, none⟩) 0 0).ownBlock = some b := hb; have h9 : w6.heap.size = b := (by simpa [Value.ownBlock] using hb'); have h8 : b < w2.heap.size := h; omega) (fun b hb => by simp; omega) (by simp; omega) (by simp) ?_); intro v7 w7 ho7 hg7 hv7; go_must (rw [List.nil_append] at ho7); go_must (have hb67b : Below w6.heap.size w6 w7 := Below.grown (below_alloc (Below.refl w6.heap.size w6) _) hg7 (by simp) (fun b hb => by have hb' : (Value.slice (some ⟨w6.heap.size, 0, none⟩) 0 0).ownBlock = some b := hb; have h9 : w6.heap.size = b := (by simpa [Value.ownBlock] using hb'); omega)); have hb67 : w6.heap.size ≤ w7.heap.size := hb67b.size; go_must (have rr7 := HRR.out _ (hb6.trans (hb67b.mono hs6))))
      | (at_builtin; go_must (refine wpList_append_Gw (by kernel_rfl) (.tmp 37) (.tmp 38) _ rfl PkR.good w7 (.agg #[.int .i64 0, .int .i64 0, .int .i64 0, .bool false, .bool false, .slice none 0 0]) 56 Try.underlying49 info_pk rfl (by omega) rfl ho7 (fun b => b < w2.heap.size) Ar cr raw.length raw rfl rfl rr7 (fun b hb _ => hb) (fun b hb h => by have h9 := (ho7.own_ge b hb).1; have h8 : b < w2.heap.size := h; omega) (fun b hb => by have : b < w2.heap.size := hb; omega) (by omega) hb67 ?_); intro v8 w8 ho8 hg8 hv8; have hb8 : Below w6.heap.size w7 w8 := Below.grown (Below.refl _ _) hg8 hb67 (fun b hb => (ho7.own_ge b hb).1); obtain ⟨A8, c8, rfl, hc8, hr8⟩ := ho8.reads PkR.good (S := fun b => b < w8.heap.size) (fun b _ hl => hl); have S5 := splits_any (c := c8) hr8 (by simp; omega) 0 (by omega) (by omega) HS5.out; rw [List.length_append] at S5)
      | (go_at_call 23; (with_reducible refine S5.mono ?_); rintro e w9 ⟨rfl, hb9⟩)
      | (go_at_call 16; (with_reducible refine (HK.out _).mono ?_); rintro e w10 ⟨rfl, hb10⟩))
    go_ret
    exact ⟨rfl, below_then bb2 (below_then hb6 (((hb67b.trans hb8).trans (hb9.mono (by have := hb8.size; omega))).trans (hb10.mono (by have := hb8.size; have := hb9.size; omega))))⟩
end Go.Proofs.Ytkgenjgomnalpaa.pageSplits
