/- palette.keyOf, palette.point. -/
import Derived.Test.YtbbflddhbamjbaaPlL
import Derived.Test.YtbbflddhbamjbaaAgg
import Derived.Test.YtbbflddhbamjbaaPicSame
import Derived.Deep.DeepCutAuto
set_option linter.unusedSimpArgs false
set_option linter.unusedVariables false
namespace Go.Proofs.Ytbbflddhbamjbaa
open Go.RowKit

theorem len4 {l : List Int} (h : l.length = 4) : ∃ a b c d, l = [a, b, c, d] := by
  match l, h with
  | [a, b, c, d], _ => exact ⟨a, b, c, d, rfl⟩
theorem putAt_key {l : List Int} (hl : l.length ≤ 4) : putAt [.int .i64 0, .int .i64 0, .int .i64 0, .int .i64 0] 0 (ic .i64 l) = ic .i64 (keyC l) := by
  have e : ([.int .i64 0, .int .i64 0, .int .i64 0, .int .i64 0] : List Value) = ic .i64 (List.replicate 4 0) := rfl
  rw [e, putAt_ic, updB, keyC]
  congr 1
  simp only [List.take_zero, List.nil_append, Nat.zero_add]
  rw [List.take_append, List.take_of_length_le hl, List.drop_replicate, List.take_replicate]
  congr 2; omega
theorem size_int : (Try.prog.info? 3).map (·.size) = some 1 := by kernel_rfl
set_option maxHeartbeats 2000000 in
theorem keyof_any {l : List Int} {A : Option Addr} {c : Nat} {w : World} {B : Nat} (hr : RdI w B .i64 A l) (hB : B ≤ w.heap.size) (h0 : 0 < l.length) (hl : l.length ≤ 4) :
    Calls Try.prog 53 #[.slice A l.length c] w fun e w' => e = .returned (colV (keyC l)) ∧ Below w.heap.size w w' := by
  obtain ⟨x, y, u, v, hk⟩ := len4 (keyC_len l)
  have HK := Lib.hid hk
  have hpt := putAt_key hl
  rw [hk] at hpt
  go_enter Try.func53, Try.ntmps53
  go_upto_region 2 with fail
  have b1 := below_alloc (below_alloc (Below.refl w.heap.size w) (.cells #[.int .i64 0, .int .i64 0, .int .i64 0, .int .i64 0] 70)) (.cells #[.int .i64 0, .int .i64 0, .int .i64 0, .int .i64 0] 70)
  have k0 := (Blk.new w 70 #[.int .i64 0, .int .i64 0, .int .i64 0, .int .i64 0]).alloc (.cells #[.int .i64 0, .int .i64 0, .int .i64 0, .int .i64 0] 70)
  have k1 := Blk.new1 w (.cells #[.int .i64 0, .int .i64 0, .int .i64 0, .int .i64 0] 70) 70 #[.int .i64 0, .int .i64 0, .int .i64 0, .int .i64 0]
  generalize (w.alloc (.cells #[.int .i64 0, .int .i64 0, .int .i64 0, .int .i64 0] 70)).alloc (.cells #[.int .i64 0, .int .i64 0, .int .i64 0, .int .i64 0] 70) = w1 at *
  have hr1 := hr.below b1 hB
  obtain ⟨ad, rfl, had, _⟩ := hr1.at_ h0
  have hpt' : putAt (#[.int .i64 0, .int .i64 0, .int .i64 0, .int .i64 0] : Array Value).toList 0 (ic .i64 l) = [.int .i64 x, .int .i64 y, .int .i64 u, .int .i64 v] := hpt
  have hcp : ∀ ty, (Builtin.copy_ #[22, 22] ty #[.slice (some ⟨w.heap.size + 1, 0, none⟩) 4 4, .slice (some ad) l.length c]).run Try.prog w1 = .ok (goInt l.length) (w1.setRow (w.heap.size + 1) #[.int .i64 x, .int .i64 y, .int .i64 u, .int .i64 v]) := fun ty => by
    have h := run_copy_cells_n (P := Try.prog) w1 22 22 ty 3 (w.heap.size + 1) 0 4 4 ad l.length c 1 _ _ (ic .i64 l) Try.underlying22 size_int k1 (by rw [ic_length, Nat.mul_one]; exact (Nat.min_eq_left hl).symm) (fun j v hv => by
      obtain ⟨ad2, e, _, h⟩ := hr1.2 h0
      cases e
      exact h j v hv) (by simp [ic_length]; omega) (ic_cell _ _)
    rw [show Nat.min l.length 4 = l.length from Nat.min_eq_left hl, hpt'] at h
    exact h
  clear hpt hpt' hr1 hr
  go_upto_region 3 with fail
  have hm9 : Mod (· = w.heap.size + 1) w1 (w1.setRow (w.heap.size + 1) #[.int .i64 x, .int .i64 y, .int .i64 u, .int .i64 v]) := (Mod.refl (fun b => b = w.heap.size + 1) w1).setRow (fun _ => rfl) _
  have b2 : Below w.heap.size w (w1.setRow (w.heap.size + 1) #[.int .i64 x, .int .i64 y, .int .i64 u, .int .i64 v]) :=
    b1.trans (hm9.below b1.size (fun b hb => by omega))
  have k0 := k0.mod hm9 (by omega)
  have k1 := k1.setRow #[.int .i64 x, .int .i64 y, .int .i64 u, .int .i64 v]
  generalize w1.setRow (w.heap.size + 1) #[.int .i64 x, .int .i64 y, .int .i64 u, .int .i64 v] = w2 at *
  have z0 := k1.cell 0
  have z1 := k1.cell 1
  have z2 := k1.cell 2
  have z3 := k1.cell 3
  have f0 := k0.frozen 0
  have f1 := k0.frozen 1
  have f2 := k0.frozen 2
  have f3 := k0.frozen 3
  have y0 := k0.cell 0
  have y1 := k0.cell 1
  have y2 := k0.cell 2
  have y3 := k0.cell 3
  clear hcp
  go_wp2
  refine bodyPost_ret (v := .agg #[.int .i64 x, .int .i64 y, .int .i64 u, .int .i64 v]) (by simp [results, Try.results53, go_sem, y0, y1, y2, y3]) rfl ?_
  exact ⟨by rw [HK.out]; rfl, b2.setCell (by simp) _ |>.setCell (by simp) _ |>.setCell (by simp) _ |>.setCell (by simp) _⟩

theorem key_step {L : List Int} {j : Nat} (h : j < L.length) (hl : L.length ≤ 4) : keyC (L.take (j + 1)) = (keyC (L.take j)).set j (L.getD j 0) := by
  have hg : L.getD j 0 = L[j] := by rw [List.getD_eq_getElem?_getD, List.getElem?_eq_getElem h]; rfl
  rw [hg]
  refine List.ext_getElem (by simp [keyC]) fun k h1 h2 => ?_
  have hk : k < 4 := by rw [keyC_len] at h1; exact h1
  simp only [keyC, List.getElem_take, List.getElem_set]
  by_cases hkj : j = k
  · subst hkj
    rw [if_pos rfl, List.getElem_append_left (by rw [List.length_take]; omega), List.getElem_take]
  · rw [if_neg hkj]
    by_cases hlt : k < j
    · rw [List.getElem_append_left (by rw [List.length_take]; omega), List.getElem_append_left (by rw [List.length_take]; omega), List.getElem_take, List.getElem_take]
    · rw [List.getElem_append_right (by rw [List.length_take]; omega), List.getElem_append_right (by rw [List.length_take]; omega), List.getElem_replicate, List.getElem_replicate]
/-- the samples of a place -/
def colAt (p : List (List Int)) (i : Nat) : List Int := p.map fun l => l.getD i 0
set_option maxHeartbeats 4000000 in
theorem point_any {W H D : Int} {p : List (List Int)} {A : Option Addr} {c i : Nat} {w : World} {B : Nat} (hr : RdLL w B .i64 A p) (hB : B ≤ w.heap.size) (hp : p.length ≤ 4) (hi : ∀ l ∈ p, i < l.length) :
    Calls Try.prog 45 #[.agg #[.int .i64 W, .int .i64 H, .int .i64 D, .slice A p.length c], .int .i64 (i : Int)] w fun e w' => e = .returned (colV (keyC (colAt p i))) ∧ Below w.heap.size w w' := by
  have HI := Lib.hid hi
  clear hi
  obtain ⟨L, hL⟩ : ∃ L, colAt p i = L := ⟨_, rfl⟩
  have HLe := Lib.hid hL
  go_enter Try.func45, Try.ntmps45
  go_upto_region 2 with fail
  have kb := ((Blk.new w 30 #[.int .i64 W, .int .i64 H, .int .i64 D, .slice A p.length c]).alloc (.cells #[.int .i64 0, .int .i64 0, .int .i64 0, .int .i64 0] 70)).alloc (.cells #[.int .i64 0, .int .i64 0, .int .i64 0, .int .i64 0] 70)
  have k4 := (Blk.new1 w (.cells #[.int .i64 W, .int .i64 H, .int .i64 D, .slice A p.length c] 30) 70 #[.int .i64 0, .int .i64 0, .int .i64 0, .int .i64 0]).alloc (.cells #[.int .i64 0, .int .i64 0, .int .i64 0, .int .i64 0] 70)
  have k5 := Blk.new2 w (.cells #[.int .i64 W, .int .i64 H, .int .i64 D, .slice A p.length c] 30) (.cells #[.int .i64 0, .int .i64 0, .int .i64 0, .int .i64 0] 70) 70 #[.int .i64 0, .int .i64 0, .int .i64 0, .int .i64 0]
  have b1 := below_alloc (below_alloc (below_alloc (Below.refl w.heap.size w) (.cells #[.int .i64 W, .int .i64 H, .int .i64 D, .slice A p.length c] 30)) (.cells #[.int .i64 0, .int .i64 0, .int .i64 0, .int .i64 0] 70)) (.cells #[.int .i64 0, .int .i64 0, .int .i64 0, .int .i64 0] 70)
  generalize ((w.alloc (.cells #[.int .i64 W, .int .i64 H, .int .i64 D, .slice A p.length c] 30)).alloc (.cells #[.int .i64 0, .int .i64 0, .int .i64 0, .int .i64 0] 70)).alloc (.cells #[.int .i64 0, .int .i64 0, .int .i64 0, .int .i64 0] 70) = w1 at *
  have b0 := kb.cell 0
  have b3 := kb.cell 3
  have HL := Lib.hid (show L.length ≤ 4 ∧ L.length = p.length ∧ ∀ j, j < p.length → L.getD j 0 = (p.getD j []).getD i 0 from hL ▸ ⟨by simp [colAt]; exact hp, by simp [colAt], fun j hj => by
    simp [colAt, List.getD_eq_getElem?_getD, List.getElem?_eq_getElem hj]⟩)
  clear hL
  go_wp2
  go_loopw [11] (fun jv wr => ∃ j : Nat, j ≤ p.length ∧ jv = .int .i64 j ∧ Blk wr (w.heap.size + 1 + 1) 70 (ic .i64 (keyC (L.take j))).toArray ∧ Blk wr (w.heap.size + 1) 70 #[.int .i64 0, .int .i64 0, .int .i64 0, .int .i64 0] ∧ Below w.heap.size w wr) (fun jv _ => p.length - (intOf jv).toNat)
  case atStart => exact ⟨0, Nat.zero_le _, rfl, k5, k4, b1⟩
  case round =>
    obtain ⟨j, hj, rfl, hk5, hk4, hbr⟩ := hrel
    by_cases hlt : j < p.length
    · obtain ⟨ad, Aj, cj, rfl, hadB, hcell, hcj, hrj⟩ := (hr.below hbr hB) j hlt
      have hlen := HI.out _ (mem_getD hlt)
      obtain ⟨ad2, rfl, _, hcell2⟩ := hrj.at_ hlen
      have hstep : Blk (wr.setCell ⟨w.heap.size + 1 + 1, j, none⟩ (.int .i64 ((p.getD j []).getD i 0))) (w.heap.size + 1 + 1) 70 (ic .i64 (keyC (L.take (j + 1)))).toArray := by
        have h := hk5.set_ j (.int .i64 ((p.getD j []).getD i 0))
        rw [← HL.out.2.2 j hlt] at h ⊢
        have e : (ic .i64 (keyC (L.take j))).toArray.setIfInBounds j (.int .i64 (L.getD j 0)) = (ic .i64 (keyC (L.take (j + 1)))).toArray := by
          rw [key_step (by have := HL.out.2.1; omega) HL.out.1]
          simp [ic, List.map_set]
        rw [e] at h
        exact h
      have hfz := hk5.frozen j
      have hj4 : j < 4 := by omega
      have zj : ∃ u, wr.cell? ⟨w.heap.size + 1 + 1, j, none⟩ = some u := by
        have h := hk5.cell j
        rw [List.getElem?_toArray, List.getElem?_eq_getElem (by rw [ic_length, keyC_len]; exact hj4)] at h
        exact ⟨_, h⟩
      obtain ⟨uj, zj⟩ := zj
      have HSt := Lib.hid hstep
      clear hstep
      generalize (p.getD j []).getD i 0 = x at *
      generalize p.getD j [] = r at *
      go_wp2
      go_roundw
      case rel => exact ⟨j + 1, by omega, by go_num, HSt.out, hk4.far (by simp) _, hbr.setCell (by simp; omega) _⟩
      case measure => simp [intOf]; omega
    · have hjl : j = p.length := by omega
      subst hjl
      rw [← HL.out.2.1, List.take_length] at hk5
      obtain ⟨x, y, u, v, hk⟩ := len4 (keyC_len L)
      have HK := Lib.hid hk
      rw [hk] at hk5
      have z0 := hk5.cell 0
      have z1 := hk5.cell 1
      have z2 := hk5.cell 2
      have z3 := hk5.cell 3
      have f0 := hk4.frozen 0
      have f1 := hk4.frozen 1
      have f2 := hk4.frozen 2
      have f3 := hk4.frozen 3
      have y0 := hk4.cell 0
      have y1 := hk4.cell 1
      have y2 := hk4.cell 2
      have y3 := hk4.cell 3
      simp only [ic, List.map_cons, List.map_nil, List.getElem?_toArray, List.getElem?_cons_zero, List.getElem?_cons_succ] at z0 z1 z2 z3
      go_wp2
      refine bodyPost_ret (v := .agg #[.int .i64 x, .int .i64 y, .int .i64 u, .int .i64 v]) (by simp [results, Try.results45, go_sem, y0, y1, y2, y3]) rfl ?_
      exact ⟨by rw [HLe.out, HK.out]; rfl, hbr.setCell (by simp) _ |>.setCell (by simp) _ |>.setCell (by simp) _ |>.setCell (by simp) _⟩
end Go.Proofs.Ytbbflddhbamjbaa
