/- known(). -/
import Derived.Test.YtbmgnclfecejeaaPicUpd
set_option linter.unusedSimpArgs false
set_option linter.unusedVariables false
namespace Go.Proofs.Ytbmgnclfecejeaa
open Go.RowKit

theorem lit_rdll (w : World) : RdLL ((w.alloc (.cells #[.int .i64 3, .int .i64 15] 3)).alloc (.cells #[.slice (some ⟨w.heap.size, 0, none⟩) 2 2] 25)) (w.heap.size + 2) .i64 (some ⟨w.heap.size + 1, 0, none⟩) [[3, 15]] := fun j hj => by
  obtain rfl : j = 0 := by simp at hj; omega
  refine ⟨⟨w.heap.size + 1, 0, none⟩, some ⟨w.heap.size, 0, none⟩, 2, rfl, by simp, ?_, by simp, ?_⟩
  · have := (Blk.new1 w (.cells #[.int .i64 3, .int .i64 15] 3) 25 #[.slice (some ⟨w.heap.size, 0, none⟩) 2 2]).cell 0
    rw [add_mk]
    exact this
  · exact ((RdI.lit w .i64 [3, 15] 3 _ (by simp [ic])).alloc (by simp) _).more (by omega)

theorem below_alloc' {a w : World} {B : Nat} (h : Below B a w) (hB : B ≤ w.heap.size) (o : Obj) : Below B a (w.alloc o) := h.alloc hB o

set_option maxHeartbeats 4000000 in
theorem known_any (w : World) : Calls Try.prog 13 #[] w fun e w' => e = .returned (.bool true) ∧ Below w.heap.size w w' := by
  have HN := Lib.hid (fun W => new_no 65 1 8 1 (by decide) W)
  have HF := Lib.hid (fun W => fold_any 15 4 W)
  have HW := Lib.hid (fun W => wrap_any (-1) 4 W)
  rw [show foldP 15 4 = -1 by decide] at HF
  rw [show wrapP (-1) 4 = 15 by decide] at HW
  have HE : ∀ W, Calls Try.prog 32 #[.agg #[.int .i64 0, .int .i64 0, .int .i64 0, .slice none 0 0]] W fun e w' => e = .returned (.bool false) ∧ Below W.heap.size W w' := fun W =>
    (is_any (w := W) (B := 0) (q := ⟨0, 0, 0, []⟩) (A := none) (c := 0) (fun j hj => absurd hj (by simp)) (Nat.zero_le _)).mono fun e w' h => ⟨h.1.trans (ret_bool (by decide)), h.2⟩
  have HI : ∀ W', Below (w.heap.size + 2) ((w.alloc (.cells #[.int .i64 3, .int .i64 15] 3)).alloc (.cells #[.slice (some ⟨w.heap.size, 0, none⟩) 2 2] 25)) W' →
      Calls Try.prog 32 #[.agg #[.int .i64 2, .int .i64 1, .int .i64 4, .slice (some ⟨w.heap.size + 1, 0, none⟩) 1 1]] W' fun e w' => e = .returned (.bool true) ∧ Below W'.heap.size W' w' := fun W' hb =>
    (is_any (q := ⟨2, 1, 4, [[3, 15]]⟩) (c := 1) ((lit_rdll w).below hb (Nat.le_refl _)) (Nat.le_trans (by simp) hb.size)).mono fun e w' h => ⟨h.1.trans (ret_bool (by decide)), h.2⟩
  have HC : ∀ W', Below (w.heap.size + 2) ((w.alloc (.cells #[.int .i64 3, .int .i64 15] 3)).alloc (.cells #[.slice (some ⟨w.heap.size, 0, none⟩) 2 2] 25)) W' →
      Calls Try.prog 23 #[.agg #[.int .i64 2, .int .i64 1, .int .i64 4, .slice (some ⟨w.heap.size + 1, 0, none⟩) 1 1], .int .i64 1, .int .i64 0, .int .i64 1, .int .i64 1] W' fun e w' =>
        ∃ G g C c, e = .returned (.tuple #[.agg #[.int .i64 1, .int .i64 1, .int .i64 4, .slice (some ⟨G, 0, none⟩) 1 C], .int .i64 0]) ∧ 1 ≤ C ∧ 1 ≤ c ∧ w'.cell? ⟨G, 0, none⟩ = some (.slice (some ⟨g, 0, none⟩) 1 c) ∧ w'.cell? ⟨g, 0, none⟩ = some (.int .i64 15) ∧ G < w'.heap.size ∧ g < w'.heap.size ∧ Below W'.heap.size W' w' := fun W' hb =>
    (cut_yes (W := 2) (H := 1) (d := 4) (p := [[3, 15]]) (c := 1) ((lit_rdll w).below hb (Nat.le_refl _)) (Nat.le_trans (by simp) hb.size) 1 0 1 1 (by decide) (by decide)).mono fun e w' h => by
      obtain ⟨A', c', h1, h2, h3⟩ := h
      rw [show cutLL [[3, 15]] 2 1 0 1 1 = [[15]] by decide] at h2
      obtain ⟨G, C, g, c, hv, hC, h4, h5, h6, _, h7, _⟩ := OwnLL.at_ h2 (j := 0) (by decide) (by decide) (by decide)
      simp only [Value.slice.injEq] at hv
      obtain ⟨rfl, _, rfl⟩ := hv
      obtain ⟨g', c9, hv, _, hg9, _, h8, _⟩ := h7.row (by decide)
      simp only [Value.slice.injEq, Option.some.injEq, Addr.mk.injEq] at hv
      obtain ⟨⟨rfl, _⟩, _⟩ := hv
      refine ⟨G, g, _, c, h1, hC, h6, h4, h8 0 (by decide), ?_, hg9, h3⟩
      have := OwnLL.form h2
      obtain ⟨A5, c5, hv, _, _, h9⟩ := this
      simp only [Value.slice.injEq] at hv
      exact (h9 ⟨G, 0, none⟩ hv.1.symm).2
  replace HE := Lib.hid HE
  replace HI := Lib.hid HI
  replace HC := Lib.hid HC
  go_enter Try.func13, Try.ntmps13
  go_wp2_with (first
    | (go_at_call 23; go_must (refine (HC.out _ (below_alloc' (Below.refl _ _) (by simp) _)).mono ?_); rintro e w1 ⟨G, g, C, c, rfl, h1, h2, h3, h4, h5, h6, hb1⟩; have hp1 := (Blk.new2 w _ _ 28 #[.int .i64 2, .int .i64 1, .int .i64 4, .slice (some ⟨w.heap.size + 1, 0, none⟩) 1 1]).below hb1 (by simp); have bb1 := below_then (below_alloc (below_alloc (below_alloc (Below.refl w.heap.size w) _) _) _) hb1; have bc1 := (below_alloc' (Below.refl (w.heap.size + 2) _) (by simp) _).trans (hb1.mono (by simp)); clear hb1)
    | (go_at_call 27; go_must (refine (HN.out _).mono ?_); rintro e w2 ⟨rfl, hb2⟩; have hx2 := below_then (below_alloc (Below.refl w1.heap.size w1) _) hb2; have hq2 := (Blk.new w1 28 #[.int .i64 1, .int .i64 1, .int .i64 4, .slice (some ⟨G, 0, none⟩) 1 C]).below hb2 (by simp); have hp2 := hp1.below hx2 hp1.lt; have bb2 := below_then bb1 hx2; have bc2 := bc1.trans (hx2.mono (by have := bb1.size; have := hp1.lt; omega)); have h3' := (hx2.cell (p := ⟨G, 0, none⟩) h5).trans h3; have h4' := (hx2.cell (p := ⟨g, 0, none⟩) h6).trans h4; have h5' := Nat.lt_of_lt_of_le h5 hx2.size; have h6' := Nat.lt_of_lt_of_le h6 hx2.size; clear hb2 hx2 h3 h4 h5 h6 hp1 bb1 bc1; have hp3 := hp2.alloc (.cells #[.int .i64 0, .int .i64 0, .int .i64 0, .slice none 0 0] 28); have sz2 := hp2.lt; obtain ⟨x0, x1, x2, x3, _⟩ := hp3.four)
    | (go_at_call 32; (with_reducible refine (HI.out _ (below_alloc' (by assumption) (by omega) _)).mono ?_); rintro e w3 ⟨rfl, hb3⟩; have hx3 := below_then (below_alloc (Below.refl w2.heap.size w2) _) hb3; have hq3 := hq2.below hx3 hq2.lt; have hz3 := (Blk.new w2 28 #[.int .i64 0, .int .i64 0, .int .i64 0, .slice none 0 0]).below hb3 (by simp); have hg3 := (hx3.cell (p := ⟨G, 0, none⟩) h5').trans h3'; have hg4 := (hx3.cell (p := ⟨g, 0, none⟩) h6').trans h4'; have bb3 := below_then bb2 hx3; clear x0 x1 x2 x3 hb3; obtain ⟨y0, y1, y2, y3, _⟩ := hq3.four; obtain ⟨z0, z1, z2, z3, _⟩ := hz3.four)
    | (go_at_call 11; go_must (refine (HF.out _).mono ?_); rintro e w4 ⟨rfl, rfl⟩)
    | (go_at_call 9; go_must (refine (HW.out _).mono ?_); rintro e w4 ⟨rfl, rfl⟩)
    | (go_at_call 32; (with_reducible refine (HE.out _).mono ?_); rintro e w4 ⟨rfl, hb4⟩))
  go_ret
  exact ⟨rfl, below_then bb3 hb4⟩
end Go.Proofs.Ytbmgnclfecejeaa
