/- The reference's PicPaste where the part lies in the picture. -/
import Derived.Test.YtbmgnclfecejeaaPicRPaste
namespace Go.Proofs.Ytbmgnclfecejeaa
open Go.RowKit

set_option maxHeartbeats 8000000 in
theorem rpaste_yes {w : World} {B : Nat} {W H a b : Nat} {d : Int} {p q : List (List Int)} {A A2 : Option Addr} {c c2 : Nat} (hr : RdLL w B .i64 A p) (hr2 : RdLL w B .i64 A2 q) (hB : B ≤ w.heap.size) (x y : Nat)
    (hq1 : isB ⟨W, H, d, p⟩ = true) (hq2 : isB ⟨a, b, d, q⟩ = true) (hlen : p.length = q.length) (hi : insB W H x y a b = true) :
    Calls Try.prog 38 #[.agg #[.int .i64 W, .int .i64 H, .int .i64 d, .slice A p.length c], .agg #[.int .i64 a, .int .i64 b, .int .i64 d, .slice A2 q.length c2], .int .i64 x, .int .i64 y] w
      fun e w' => ∃ A' c', e = .returned (.tuple #[.agg #[.int .i64 W, .int .i64 H, .int .i64 d, .slice A' p.length c'], .int .i64 0]) ∧
        OwnLL w' w.heap.size 25 3 .i64 (.slice A' p.length c') (pasteLL p q W x y a b p.length) ∧ Below w.heap.size w w' := by
  have HI := fun W' (hb : Below w.heap.size w W') => picis_any (q := ⟨W, H, d, p⟩) (c := c) (hr.below hb hB) (Nat.le_trans hB hb.size) (len63 hq1)
  have HJ := fun W' (hb : Below w.heap.size w W') => picis_any (q := ⟨a, b, d, q⟩) (c := c2) (hr2.below hb hB) (Nat.le_trans hB hb.size) (len63 hq2)
  simp only [hq1, hq2] at HI HJ
  rw [← hlen] at HJ
  obtain ⟨b1, b2, b3, b4, b5, b6, b7, b8, b9⟩ := isB_all hq1
  obtain ⟨_, _, _, _, _, _, _, _, c9⟩ := isB_all hq2
  have hrows := (ins_rows (L := W * H) hi rfl).1
  have HX := fun w => lies_any x a W (by omega) (by omega) (by simp only [insB, decide_eq_true_eq] at hi; omega) (by simp only [insB, decide_eq_true_eq] at hi; omega) w
  have HY := fun w => lies_any y b H (by omega) (by omega) (by simp only [insB, decide_eq_true_eq] at hi; omega) (by simp only [insB, decide_eq_true_eq] at hi; omega) w
  have hi2 := hi
  rw [ins_lies, Bool.and_eq_true] at hi2
  simp only [hi2.1] at HX
  simp only [hi2.2] at HY
  simp only [insB, decide_eq_true_eq] at hi
  obtain ⟨i1, i2, i3, i4, i5, i6⟩ := hi
  obtain ⟨m1, m2⟩ := mul_64 (a := W) (b := H) (by omega) (by omega)
  have hWH : W * H ≤ 4096 ∧ 0 < W * H := by
    have : ((W * H : Nat) : Int) = (W : Int) * H := by simp
    omega
  have hlp : ∀ j, j < p.length → (p.getD j []).length = W * H ∧ (q.getD j []).length = b * a := fun j hj => ⟨(b9 _ (mem_getD hj)).1, by rw [(c9 _ (mem_getD (i := j) (by omega))).1, Nat.mul_comm]⟩
  rw [← hlen]
  have HQ := Lib.hid hlen
  replace HI := Lib.hid HI
  replace HJ := Lib.hid HJ
  replace HX := Lib.hid HX
  replace HY := Lib.hid HY
  replace hrows := Lib.hid hrows
  replace hWH := Lib.hid hWH
  replace hlp := Lib.hid hlp
  clear hq1 hq2 hi2 hlen m1 m2 b9 c9
  obtain ⟨R, hR⟩ : ∃ R, R = pasteLL p q W x y a b p.length := ⟨_, rfl⟩
  have HR : Hid (R.length = p.length ∧ ∀ j, j < p.length → R.getD j [] = pastePl (p.getD j []) W x y (q.getD j []) a b) := by
    rw [hR]
    exact ⟨pasteLL_length _ _ _ _ _ _ _ _, fun j hj => by rw [pasteLL_get _ _ _ _ _ _ _ _ hj, if_pos hj]⟩
  rw [← hR]
  clear hR
  go_enter Try.func38, Try.ntmps38
  go_wp2_with (first
    | (go_at_call 44; (with_reducible refine (HI.out _ (by repeat (first | exact Below.refl _ _ | assumption | refine Below.drew ?_ | refine below_drewN ?_ _ | refine below_alloc ?_ _))).mono ?_); rintro e w1 ⟨rfl, hb1⟩; have hb0 := ((Blk.new1 w (.cells #[.int .i64 W, .int .i64 H, .int .i64 d, .slice A p.length c] 28) 28 #[.int .i64 a, .int .i64 b, .int .i64 d, .slice A2 p.length c2]).alloc (.cells #[.int .i64 0, .int .i64 0, .int .i64 0, .slice none 0 0] 28)).below hb1 (by simp <;> omega); have hba := (((Blk.new w 28 #[.int .i64 W, .int .i64 H, .int .i64 d, .slice A p.length c]).alloc (.cells #[.int .i64 a, .int .i64 b, .int .i64 d, .slice A2 p.length c2] 28)).alloc (.cells #[.int .i64 0, .int .i64 0, .int .i64 0, .slice none 0 0] 28)).below hb1 (by simp <;> omega); have hbz := (Blk.new2 w _ _ 28 #[.int .i64 0, .int .i64 0, .int .i64 0, .slice none 0 0]).below hb1 (by simp); have bb := below_then (below_alloc (below_alloc (below_alloc (Below.refl w.heap.size w) _) _) _) hb1; clear hb1; obtain ⟨x0, x1, x2, x3, _⟩ := hb0.four)
    | (go_at_call 44; (with_reducible refine (HJ.out _ (by repeat (first | exact Below.refl _ _ | assumption | refine Below.drew ?_ | refine below_drewN ?_ _ | refine below_alloc ?_ _))).mono ?_); rintro e w2 ⟨rfl, hb2⟩; have hbz2 := hbz.below hb2 hbz.lt; have hbx2 := hb0.below hb2 hb0.lt; have hba2 := hba.below hb2 hba.lt; clear x0 x1 x2 x3; obtain ⟨x0, x1, x2, x3, _⟩ := hbx2.four; obtain ⟨y0, y1, y2, y3, _⟩ := hba2.four; have bb2 := below_then bb hb2; obtain ⟨z0, z1, z2, z3, f0, f1, f2, f3⟩ := hbz2.four; clear hbz hb0 hba hb2)
    | (go_at_call 48; (with_reducible refine (HX.out _).mono ?_); rintro e w3 ⟨rfl, rfl⟩)
    | (go_at_call 48; (with_reducible refine (HY.out _).mono ?_); rintro e w3 ⟨rfl, rfl⟩))
  obtain ⟨g, hg⟩ : ∃ g, g = w2.heap.size := ⟨_, rfl⟩
  have hgw : w.heap.size + 2 < g := by rw [hg]; exact hbz2.lt
  obtain ⟨wa, hwa⟩ : ∃ wa, wa = w2.alloc (.cells #[.int .i64 W, .int .i64 H, .int .i64 d, .slice none 0 0] 28) := ⟨_, rfl⟩
  rw [← hwa, ← hg]
  have bxa : Below w.heap.size w wa := by rw [hwa]; exact below_alloc bb2 _
  have e0 : Blk wa w.heap.size 28 #[.int .i64 W, .int .i64 H, .int .i64 d, .slice A p.length c] := by
    rw [hwa]
    exact hba2.alloc _
  have e1 : Blk wa (w.heap.size + 1) 28 #[.int .i64 a, .int .i64 b, .int .i64 d, .slice A2 p.length c2] := by
    rw [hwa]
    exact hbx2.alloc _
  have e2 : Blk wa (w.heap.size + 1 + 1) 28 #[.int .i64 0, .int .i64 0, .int .i64 0, .slice none 0 0] := by
    rw [hwa]
    exact hbz2.alloc _
  have e3 : Blk wa g 28 #[.int .i64 W, .int .i64 H, .int .i64 d, .slice none 0 0] := by
    rw [hwa, hg]
    exact Blk.new w2 _ _
  clear x0 x1 x2 x3 y0 y1 y2 y3 z0 z1 z2 z3 f0 f1 f2 f3 hbz2 hbx2 hba2 bb bb2 hwa hg
  go_loopw [11] (fun i wr => ∃ (j : Nat) (v : Value), j ≤ p.length ∧ i = .int .i64 j ∧ Below w.heap.size w wr ∧ Blk wr w.heap.size 28 #[.int .i64 W, .int .i64 H, .int .i64 d, .slice A p.length c] ∧ Blk wr (w.heap.size + 1) 28 #[.int .i64 a, .int .i64 b, .int .i64 d, .slice A2 p.length c2] ∧ Blk wr (w.heap.size + 1 + 1) 28 #[.int .i64 0, .int .i64 0, .int .i64 0, .slice none 0 0] ∧
      Blk wr g 28 #[.int .i64 W, .int .i64 H, .int .i64 d, v] ∧ OwnLL wr (g + 1) 25 3 .i64 v (R.take j)) (fun i _ => p.length - (intOf i).toNat)
  case atStart => exact ⟨0, _, Nat.zero_le _, rfl, bxa, e0, e1, e2, e3, by simpa using OwnLL.nil_ _ _ _ _ _⟩
  case round =>
    obtain ⟨j, v, hj, rfl, hbx, hb0, hb1, hb2, hb3, hll⟩ := hrel
    obtain ⟨y0, _, _, y3, _⟩ := hb0.four
    obtain ⟨x0, x1, _, x3, _⟩ := hb1.four
    by_cases hlt : j < p.length
    · obtain ⟨ad, Aj, cj, rfl, hadB, hcell, hcj, hrj⟩ := (hr.below hbx hB) j hlt
      obtain ⟨ad2, Ak, ck, rfl, hadB2, hcell2, hck, hrk⟩ := (hr2.below hbx hB) j (by rw [← HQ.out]; exact hlt)
      have HE : Hid (R.take (j + 1) = R.take j ++ [pastePl (p.getD j []) W x y (q.getD j []) a b] ∧ (R.take j).length = j ∧ (pastePl (p.getD j []) W x y (q.getD j []) a b).length = (p.getD j []).length) := by
        have hjR : j < R.length := by rw [HR.out.1]; exact hlt
        refine ⟨?_, by rw [List.length_take]; omega, pastePl_length b (by rw [(hlp.out j hlt).1]; exact hrows.out)⟩
        rw [List.take_succ_eq_append_getElem hjR, ← HR.out.2 j hlt]
        simp [List.getD, hjR]
      have hlx := Lib.hid (hlp.out j hlt)
      generalize p.getD j [] = l at *
      generalize q.getD j [] = l2 at *
      have hB2 : B ≤ w.heap.size := hB
      have hsz : g + 1 ≤ wr.heap.size := hb3.lt
      have hszr := hbx.size
      have hgs : ¬ g = w.heap.size := by omega
      have hgs1 : ¬ g = w.heap.size + 1 := by omega
      have hadg : ¬ g = ad.block := by omega
      have hadg2 : ¬ g = ad2.block := by omega
      obtain ⟨_, _, _, k3, _, _, _, f3⟩ := hb3.four
      have HOver := Lib.hid (fun W' (hb : Below wr.heap.size wr W') => over_any (c := cj) (c2 := ck) (hrj.below hb (by omega)) (hrk.below hb (by omega)) (Nat.le_trans (show B ≤ wr.heap.size by omega) hb.size) W x y a b (by omega) (by omega) (by omega) (by omega) (by omega) (by rw [hlx.out.1]; exact hWH.out.1) (by rw [hlx.out.1]; exact hWH.out.2) (by rw [hlx.out.1]; exact hrows.out) hlx.out.2)
      go_wp2
      refine wp_region_last (S := (fun w' => w'.cell? ⟨w.heap.size, 0, none⟩ = some (.int .i64 W) ∧ w'.cell? ⟨w.heap.size, 3, none⟩ = some (.slice (some ad) p.length c) ∧ w'.cell? (ad.add j) = some (.slice Aj l.length cj) ∧ w'.cell? ⟨w.heap.size + 1, 0, none⟩ = some (.int .i64 a) ∧ w'.cell? ⟨w.heap.size + 1, 1, none⟩ = some (.int .i64 b) ∧ w'.cell? ⟨w.heap.size + 1, 3, none⟩ = some (.slice (some ad2) p.length c2) ∧ w'.cell? (ad2.add j) = some (.slice Ak l2.length ck) ∧ w'.cell? ⟨g, 3, none⟩ = some v)) 24 _ (by simp only [List.pop_toArray, List.dropLast_cons_cons, List.dropLast_singleton]; rfl) (by kernel_rfl) (by kernel_rfl) (by kernel_rfl) (by kernel_rfl) (by kernel_rfl) ?_ (fun hHeld => ?_)
      focus exact ⟨y0, y3, hcell, x0, x1, x3, hcell2, k3⟩
      refine wpAnyH_take (i := 0) (v := ?_) rfl (by kernel_rfl) (by kernel_rfl) (by kernel_rfl) (fun _ _ _ h => h) (Or.inl ⟨by rfl, ?_⟩) (by assumption) ?_
      rotate_left
      focus
        intro w9 hSw
        (try dsimp only at hSw)
        go_simp
        (try with_reducible rfl)
      (try simp only [Act.put, List.setIfInBounds_toArray, List.set_cons_zero, List.set_cons_succ])
      refine wpAnyH_take (i := 1) (v := ?_) rfl (by kernel_rfl) (by kernel_rfl) (by kernel_rfl) (fun _ _ _ h => h) (Or.inl ⟨by rfl, ?_⟩) (by assumption) ?_
      rotate_left
      focus
        intro w9 hSw
        (try dsimp only at hSw)
        go_simp
        (try with_reducible rfl)
      (try simp only [Act.put, List.setIfInBounds_toArray, List.set_cons_zero, List.set_cons_succ])
      refine wpAnyH_take (i := 2) (v := ?_) rfl (by kernel_rfl) (by kernel_rfl) (by kernel_rfl) (fun _ _ _ h => h) (Or.inl ⟨by rfl, ?_⟩) (by assumption) ?_
      rotate_left
      focus
        intro w9 hSw
        (try dsimp only at hSw)
        go_simp
        (try with_reducible rfl)
      (try simp only [Act.put, List.setIfInBounds_toArray, List.set_cons_zero, List.set_cons_succ])
      refine wpAnyH_take (i := 3) (v := ?_) rfl (by kernel_rfl) (by kernel_rfl) (by kernel_rfl) (fun _ _ _ h => h) (Or.inl ⟨by rfl, ?_⟩) (by assumption) ?_
      rotate_left
      focus
        intro w9 hSw
        (try dsimp only at hSw)
        go_simp
        (try with_reducible rfl)
      (try simp only [Act.put, List.setIfInBounds_toArray, List.set_cons_zero, List.set_cons_succ])
      refine wpAnyH_take (i := 4) (v := ?_) rfl (by kernel_rfl) (by kernel_rfl) (by kernel_rfl) (fun _ _ _ h => h) (Or.inl ⟨by rfl, ?_⟩) (by assumption) ?_
      rotate_left
      focus
        intro w9 hSw
        (try dsimp only at hSw)
        go_simp
        (try with_reducible rfl)
      (try simp only [Act.put, List.setIfInBounds_toArray, List.set_cons_zero, List.set_cons_succ])
      refine wpAnyH_take (i := 5) (v := ?_) rfl (by kernel_rfl) (by kernel_rfl) (by kernel_rfl) (fun _ _ _ h => h) (Or.inl ⟨by rfl, ?_⟩) (by assumption) ?_
      rotate_left
      focus
        intro w9 hSw
        (try dsimp only at hSw)
        go_simp
        (try with_reducible rfl)
      (try simp only [Act.put, List.setIfInBounds_toArray, List.set_cons_zero, List.set_cons_succ])
      refine wpAnyH_take (i := 6) (v := ?_) rfl (by kernel_rfl) (by kernel_rfl) (by kernel_rfl) (fun _ _ _ h => h) (Or.inl ⟨by rfl, ?_⟩) (by assumption) ?_
      rotate_left
      focus
        intro w9 hSw
        (try dsimp only at hSw)
        go_simp
        (try with_reducible rfl)
      (try simp only [Act.put, List.setIfInBounds_toArray, List.set_cons_zero, List.set_cons_succ])
      refine wpAnyH_take (i := 7) (v := ?_) rfl (by kernel_rfl) (by kernel_rfl) (by kernel_rfl) (fun _ _ _ h => h) (Or.inl ⟨by rfl, ?_⟩) (by assumption) ?_
      rotate_left
      focus
        intro w9 hSw
        (try dsimp only at hSw)
        go_simp
        (try with_reducible rfl)
      (try simp only [Act.put, List.setIfInBounds_toArray, List.set_cons_zero, List.set_cons_succ])
      refine wpAnyH_take (i := 8) (v := ?_) rfl (by kernel_rfl) (by kernel_rfl) (by kernel_rfl) (fun _ _ _ h => h) (Or.inl ⟨by rfl, ?_⟩) (by assumption) ?_
      rotate_left
      focus
        intro w9 hSw
        (try dsimp only at hSw)
        go_simp
        (try with_reducible rfl)
      (try simp only [Act.put, List.setIfInBounds_toArray, List.set_cons_zero, List.set_cons_succ])
      refine wpAnyH_take (i := 9) (v := ?_) rfl (by kernel_rfl) (by kernel_rfl) (by kernel_rfl) (fun _ _ _ h => h) (Or.inl ⟨by rfl, ?_⟩) (by assumption) ?_
      rotate_left
      focus
        intro w9 hSw
        (try dsimp only at hSw)
        go_simp
        (try with_reducible rfl)
      (try simp only [Act.put, List.setIfInBounds_toArray, List.set_cons_zero, List.set_cons_succ])
      refine wpAnyH_take (i := 10) (v := ?_) rfl (by kernel_rfl) (by kernel_rfl) (by kernel_rfl) (fun _ _ _ h => h) (Or.inl ⟨by rfl, ?_⟩) (by assumption) ?_
      rotate_left
      focus
        intro w9 hSw
        (try dsimp only at hSw)
        go_simp
        (try with_reducible rfl)
      (try simp only [Act.put, List.setIfInBounds_toArray, List.set_cons_zero, List.set_cons_succ])
      refine wpAnyH_take (i := 11) (v := ?_) rfl (by kernel_rfl) (by kernel_rfl) (by kernel_rfl) (fun _ _ _ h => h) (Or.inl ⟨by rfl, ?_⟩) (by assumption) ?_
      rotate_left
      focus
        intro w9 hSw
        (try dsimp only at hSw)
        go_simp
        (try with_reducible rfl)
      (try simp only [Act.put, List.setIfInBounds_toArray, List.set_cons_zero, List.set_cons_succ])
      refine wpAnyH_take (i := 12) (v := ?_) rfl (by kernel_rfl) (by kernel_rfl) (by kernel_rfl) (fun _ _ _ h => h) (Or.inl ⟨by rfl, ?_⟩) (by assumption) ?_
      rotate_left
      focus
        intro w9 hSw
        (try dsimp only at hSw)
        go_simp
        (try with_reducible rfl)
      (try simp only [Act.put, List.setIfInBounds_toArray, List.set_cons_zero, List.set_cons_succ])
      refine wpAnyH_take (i := 13) (v := ?_) rfl (by kernel_rfl) (by kernel_rfl) (by kernel_rfl) (fun _ _ _ h => h) (Or.inl ⟨by rfl, ?_⟩) (by assumption) ?_
      rotate_left
      focus
        intro w9 hSw
        (try dsimp only at hSw)
        go_simp
        (try with_reducible rfl)
      (try simp only [Act.put, List.setIfInBounds_toArray, List.set_cons_zero, List.set_cons_succ])
      refine wpAnyH_take (i := 14) (v := ?_) rfl (by kernel_rfl) (by kernel_rfl) (by kernel_rfl) (fun _ _ _ h => h) (Or.inl ⟨by rfl, ?_⟩) (by assumption) ?_
      rotate_left
      focus
        intro w9 hSw
        (try dsimp only at hSw)
        go_simp
        (try with_reducible rfl)
      (try simp only [Act.put, List.setIfInBounds_toArray, List.set_cons_zero, List.set_cons_succ])
      refine wpAnyH_take (i := 15) (v := ?_) rfl (by kernel_rfl) (by kernel_rfl) (by kernel_rfl) (fun _ _ _ h => h) (Or.inl ⟨by rfl, ?_⟩) (by assumption) ?_
      rotate_left
      focus
        intro w9 hSw
        (try dsimp only at hSw)
        go_simp
        (try with_reducible rfl)
      (try simp only [Act.put, List.setIfInBounds_toArray, List.set_cons_zero, List.set_cons_succ])
      refine wpAnyH_take (i := 16) (v := ?_) rfl (by kernel_rfl) (by kernel_rfl) (by kernel_rfl) (fun _ _ _ h => h) (Or.inl ⟨by rfl, ?_⟩) (by assumption) ?_
      rotate_left
      focus
        intro w9 hSw
        (try dsimp only at hSw)
        go_simp
        (try with_reducible rfl)
      (try simp only [Act.put, List.setIfInBounds_toArray, List.set_cons_zero, List.set_cons_succ])
      refine wpAnyH_take (i := 17) (v := ?_) rfl (by kernel_rfl) (by kernel_rfl) (by kernel_rfl) (fun _ _ _ h => h) (Or.inl ⟨by rfl, ?_⟩) (by assumption) ?_
      rotate_left
      focus
        intro w9 hSw
        (try dsimp only at hSw)
        go_simp
        (try with_reducible rfl)
      (try simp only [Act.put, List.setIfInBounds_toArray, List.set_cons_zero, List.set_cons_succ])
      refine wpAnyH_take (i := 18) (v := ?_) rfl (by kernel_rfl) (by kernel_rfl) (by kernel_rfl) (fun _ _ _ h => h) (Or.inl ⟨by rfl, ?_⟩) (by assumption) ?_
      rotate_left
      focus
        intro w9 hSw
        (try dsimp only at hSw)
        go_simp
        (try with_reducible rfl)
      (try simp only [Act.put, List.setIfInBounds_toArray, List.set_cons_zero, List.set_cons_succ])
      refine wpAnyH_take (i := 19) (v := ?_) rfl (by kernel_rfl) (by kernel_rfl) (by kernel_rfl) (fun _ _ _ h => h) (Or.inl ⟨by rfl, ?_⟩) (by assumption) ?_
      rotate_left
      focus
        intro w9 hSw
        (try dsimp only at hSw)
        go_simp
        (try with_reducible rfl)
      (try simp only [Act.put, List.setIfInBounds_toArray, List.set_cons_zero, List.set_cons_succ])
      refine wpAnyH_ready (rs := [20]) (by kernel_rfl) (by simp) (AllReadyH.cons rfl (fun K hK => ?_) AllReadyH.nil)
      go_simp
      go_at_call 50
      refine (HOver.out _ (by repeat (first | exact Below.refl _ _ | assumption | refine Below.drew ?_ | refine below_drewN ?_ _ | refine below_alloc ?_ _))).mono ?_
      rintro e w1 ⟨A1, c1, rfl, hown1', hbel1'⟩
      have hbel1 := below_undrew hbel1'
      clear hbel1'
      generalize pastePl l W x y l2 a b = pl at *
      have hown1 : OwnI w1 wr.heap.size 3 .i64 (.slice A1 pl.length c1) pl := by
        rw [HE.out.2.2]
        exact hown1'
      clear hown1'
      have h0w := hb0.below hbel1 hb0.lt
      have h1w := hb1.below hbel1 hb1.lt
      have h3w := hb3.below hbel1 hb3.lt
      have u0 := h0w.cell 0
      have u3 := h0w.cell 3
      have v0 := h1w.cell 0
      have v1 := h1w.cell 1
      have v3 := h1w.cell 3
      have g3 := h3w.cell 3
      have uj := (hbel1.cell (p := ad.add j) (by rw [add_block]; omega)).trans hcell
      have uk := (hbel1.cell (p := ad2.add j) (by rw [add_block]; omega)).trans hcell2
      have hlo1 : ∀ ad, A1 = some ad → wr.heap.size ≤ ad.block := hown1.lo
      refine hK.out _ _ ?_ (fun hHeld => ?_)
      focus
       (try dsimp only)
       first | (simp [*, World.cell?_alloc_some, World.cell?_setCell_far, add_block]; done) | go_keep
      clear hK K
      refine wpAnyH_ready (rs := [21]) (by kernel_rfl) (by simp) (AllReadyH.cons rfl (fun K hK => ?_) AllReadyH.nil)
      go_simp
      refine hK.out _ _ ?_ (fun hHeld => ?_)
      focus
       (try dsimp only)
       first | (simp [*, World.cell?_alloc_some, World.cell?_setCell_far, add_block]; done) | go_keep
      clear hK K
      refine wpAnyH_ready (rs := [22]) (by kernel_rfl) (by simp) (AllReadyH.cons rfl (fun K hK => ?_) AllReadyH.nil)
      refine step_push_ll (by rfl) (.tmp 69) (.tmp 89) _ (by rfl) w1 (g + 1) 25 3 .i64 24 Try.underlying26 info_ints (by omega) (by decide) v (by rfl) _ _ hll (by exact hbel1) _ _ (by rfl) (by rfl) A1 _ _ pl HE.out.2.2.symm (hown1.base_ (by exact hsz)) (by exact hlo1) (by rw [HE.out.2.1]; omega) (by have := hbel1.size; exact Nat.le_trans hsz this) ?_
      intro v2 w2 hL2 hb2'
      have h0x := h0w.below hb2' (by omega)
      have h1x := h1w.below hb2' (by omega)
      have h3x := h3w.below hb2' (by omega)
      have t0 := h0x.cell 0
      have t3 := h0x.cell 3
      have s0 := h1x.cell 0
      have s1 := h1x.cell 1
      have s3 := h1x.cell 3
      have tj := (hb2'.cell (p := ad.add j) (by rw [add_block]; omega)).trans uj
      have tk := (hb2'.cell (p := ad2.add j) (by rw [add_block]; omega)).trans uk
      obtain ⟨_, _, _, k3x, _, _, _, f3x⟩ := h3x.four
      obtain ⟨A3, c3', hv2, hq2⟩ := hL2.form
      clear hq2
      subst hv2
      refine hK.out _ _ ?_ (fun hHeld => ?_)
      focus
       (try dsimp only)
       first | (simp [*, World.cell?_alloc_some, World.cell?_setCell_far, add_block]; done) | go_keep
      clear hK K
      refine wpAnyH_take (i := 23) (v := ?_) rfl (by kernel_rfl) (by kernel_rfl) (by kernel_rfl) (fun _ _ _ h => h) (Or.inl ⟨by rfl, ?_⟩) (by assumption) ?_
      rotate_left
      focus
        intro w9 hSw
        (try dsimp only at hSw)
        go_simp
        (try with_reducible rfl)
      (try simp only [Act.put, List.setIfInBounds_toArray, List.set_cons_zero, List.set_cons_succ])
      refine wpAnyH_done (by kernel_rfl) (lastQ_step rfl (fun K hK => ?_)) _
      go_simp
      refine hK _ _ ?_
      clear hK K
      have hL3 : OwnLL w2 (g + 1) 25 3 .i64 (.slice A3 (j + 1) c3') (R.take (j + 1)) := by
        rw [← HE.out.1, HE.out.1, List.length_append, HE.out.2.1, ← HE.out.1] at hL2
        exact hL2
      have hbw : Below (g + 1) wr w2 := (hbel1.mono (by omega)).trans hb2'
      have hmin : min j R.length = j := by have := HR.out.1; omega
      rw [hmin]
      go_wp2
      go_roundw
      case rel =>
        exact ⟨j + 1, _, by omega, by go_num, (hbx.trans (hbw.mono (by omega))).setCell (by simp; omega) _, h0x.far (by simp; omega) _, h1x.far (by simp; omega) _, (hb2.below hbw (by omega)).far (by simp; omega) _, h3x.set_ 3 _, hL3.far (by simp) _⟩
      case measure => simp [intOf]; omega
    · have hjl : j = p.length := by omega
      subst hjl
      rw [← HR.out.1, List.take_length] at hll
      obtain ⟨A', c', hv, hc', _, _⟩ := hll.form
      rw [HR.out.1] at hv
      subst hv
      obtain ⟨k0, k1, k2, k3, _⟩ := hb3.four
      obtain ⟨q0, q1, q2, q3, f0, f1, f2, f3⟩ := hb2.four
      go_wp2
      refine bodyPost_ret (v := .tuple #[.agg #[.int .i64 W, .int .i64 H, .int .i64 d, .slice A' p.length c'], .int .i64 0]) (by simp [results, Try.results38, go_sem, q0, q1, q2, q3]) rfl ⟨A', c', rfl, ?_, ?_⟩
      · exact ((((hll.far (by simp; omega) _).far (by simp; omega) _).far (by simp; omega) _).far (by simp; omega) _).base_ (by omega)
      · exact (((hbx.setCell (by simp; omega) _).setCell (by simp; omega) _).setCell (by simp; omega) _).setCell (by simp; omega) _
end Go.Proofs.Ytbmgnclfecejeaa
