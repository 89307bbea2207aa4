/- The reference's PicCut. -/
import Derived.Test.YtbmgnclfecejeaaPicRPart
import Derived.Deep.RegionHeldLaw
import Derived.Test.YtbmgnclfecejeaaPicLast
namespace Go.Proofs.Ytbmgnclfecejeaa
open Go.RowKit

set_option maxHeartbeats 2000000 in
theorem rcut_not {w : World} {B : Nat} {q : Pc} {A : Option Addr} {c : Nat} (hr : RdLL w B .i64 A q.p) (hB : B ≤ w.heap.size) (h63 : Len63 q.p) (x y a b : Int) (hq : isB q = false) :
    Calls Try.prog 37 #[.agg #[.int .i64 q.w, .int .i64 q.h, .int .i64 q.d, .slice A q.p.length c], .int .i64 x, .int .i64 y, .int .i64 a, .int .i64 b] w fun e w' => e = .returned (.tuple #[emptyP, .int .i64 1]) ∧ Below w.heap.size w w' := by
  have HI := fun (W : World) (hb : Below w.heap.size w W) => picis_any (c := c) (hr.below hb hB) (Nat.le_trans hB hb.size) h63
  simp only [hq] at HI
  have HI := Lib.hid HI
  clear hq h63
  obtain ⟨qw, qh, qd, qp⟩ := q
  simp only at *
  go_enter Try.func37, Try.ntmps37
  go_wp2_with (first
    | (go_at_call 44; go_must (refine (HI.out _ (by repeat (first | exact Below.refl _ _ | assumption | refine Below.drew ?_ | refine below_drewN ?_ _ | refine below_alloc ?_ _))).mono ?_); rintro e w1 ⟨rfl, hb1⟩; have hbz := (Blk.new1 w _ 28 #[.int .i64 0, .int .i64 0, .int .i64 0, .slice none 0 0]).below hb1 (by simp); obtain ⟨z0, z1, z2, z3, f0, f1, f2, f3⟩ := hbz.four))
  have bb := below_then (below_alloc (below_alloc (Below.refl w.heap.size w) _) _) hb1
  exact bodyPost_ret (v := .tuple #[emptyP, .int .i64 1]) (by simp [results, Try.results37, go_sem, z0, z1, z2, z3, emptyP]) rfl ⟨rfl, (((bb.setCell (by simp) _).setCell (by simp) _).setCell (by simp) _).setCell (by simp) _⟩


theorem ins_lies (W H x y a b : Int) : insB W H x y a b = (liesB x a W && liesB y b H) := by
  simp only [insB, liesB]
  rw [← Bool.decide_and, decide_eq_decide]
  omega

set_option maxHeartbeats 2000000 in
theorem rcut_out {w : World} {B : Nat} {q : Pc} {A : Option Addr} {c : Nat} (hr : RdLL w B .i64 A q.p) (hB : B ≤ w.heap.size) (h63 : Len63 q.p) (x y a b : Int) (hx : x ≤ 9223372036854775807) (hy : y ≤ 9223372036854775807) (ha : a ≤ 9223372036854775807) (hb : b ≤ 9223372036854775807) (hq : isB q = true) (hi : insB q.w q.h x y a b = false) :
    Calls Try.prog 37 #[.agg #[.int .i64 q.w, .int .i64 q.h, .int .i64 q.d, .slice A q.p.length c], .int .i64 x, .int .i64 y, .int .i64 a, .int .i64 b] w fun e w' => e = .returned (.tuple #[emptyP, .int .i64 6]) ∧ Below w.heap.size w w' := by
  have HI := fun W (hb : Below w.heap.size w W) => picis_any (c := c) (hr.below hb hB) (Nat.le_trans hB hb.size) h63
  simp only [hq] at HI
  have hp : possB q.w q.h q.d q.p.length = true := by rw [isB, Bool.and_eq_true] at hq; exact hq.1
  simp only [possB, decide_eq_true_eq] at hp
  have HX := fun w => lies_any x a q.w hp.1 hp.2.1 hx ha w
  have HY := fun w => lies_any y b q.h hp.2.2.1 hp.2.2.2.1 hy hb w
  rw [ins_lies] at hi
  replace HI := Lib.hid HI
  obtain ⟨qw, qh, qd, qp⟩ := q
  simp only at *
  generalize liesB x a qw = bx at *
  generalize liesB y b qh = bY at *
  replace HX := Lib.hid HX
  replace HY := Lib.hid HY
  clear hq hp h63 hx hy ha hb
  have hbxy : bx = false ∨ (bx = true ∧ bY = false) := by cases bx <;> simp_all
  clear hi
  rcases hbxy with rfl | ⟨rfl, rfl⟩
  all_goals
    go_enter Try.func37, Try.ntmps37
    go_wp2_with (first
      | (go_at_call 44; go_must (refine (HI.out _ (by repeat (first | exact Below.refl _ _ | assumption | refine Below.drew ?_ | refine below_drewN ?_ _ | refine below_alloc ?_ _))).mono ?_); rintro e w1 ⟨rfl, hb1⟩; have hbz := (Blk.new1 w _ 28 #[.int .i64 0, .int .i64 0, .int .i64 0, .slice none 0 0]).below hb1 (by simp); have hbx := ((Blk.new w 28 #[.int .i64 qw, .int .i64 qh, .int .i64 qd, .slice A qp.length c]).alloc (.cells #[.int .i64 0, .int .i64 0, .int .i64 0, .slice none 0 0] 28)).below hb1 (by simp <;> omega); have bb := below_then (below_alloc (below_alloc (Below.refl w.heap.size w) _) _) hb1; clear hb1; obtain ⟨x0, x1, x2, x3, _⟩ := hbx.four; obtain ⟨z0, z1, z2, z3, f0, f1, f2, f3⟩ := hbz.four)
      | (go_at_call 48; (with_reducible refine (HX.out _).mono ?_); rintro e w2 ⟨rfl, rfl⟩)
      | (go_at_call 48; (with_reducible refine (HY.out _).mono ?_); rintro e w2 ⟨rfl, rfl⟩))
    exact bodyPost_ret (v := .tuple #[emptyP, .int .i64 6]) (by simp [results, Try.results37, go_sem, z0, z1, z2, z3, emptyP]) rfl ⟨rfl, (((bb.setCell (by simp) _).setCell (by simp) _).setCell (by simp) _).setCell (by simp) _⟩

set_option maxHeartbeats 8000000 in
theorem rcut_yes {w : World} {B : Nat} {W H : Nat} {d : Int} {p : List (List Int)} {A : Option Addr} {c : Nat} (hr : RdLL w B .i64 A p) (hB : B ≤ w.heap.size) (x y a b : Nat) (hq : isB ⟨W, H, d, p⟩ = true) (hi : insB W H x y a b = true) :
    Calls Try.prog 37 #[.agg #[.int .i64 W, .int .i64 H, .int .i64 d, .slice A p.length c], .int .i64 x, .int .i64 y, .int .i64 a, .int .i64 b] w fun e w' => ∃ A' c', e = .returned (.tuple #[.agg #[.int .i64 a, .int .i64 b, .int .i64 d, .slice A' p.length c'], .int .i64 0]) ∧
      OwnLL w' w.heap.size 25 3 .i64 (.slice A' p.length c') (cutLL p W x y a b) ∧ Below w.heap.size w w' := by
  have hsm := isB_small hq
  have h63 : Len63 p := ⟨by have := hsm.1; simp at this; omega, fun l hl => by have := hsm.2 l hl; omega⟩
  have HI := fun W' (hb : Below w.heap.size w W') => picis_any (q := ⟨W, H, d, p⟩) (c := c) (hr.below hb hB) (Nat.le_trans hB hb.size) h63
  simp only [hq] at HI
  have hp : possB W H d p.length = true := by rw [isB, Bool.and_eq_true] at hq; exact hq.1
  have hpl : ∀ l ∈ p, l.length = W * H := fun l hl => ((isB_all hq).2.2.2.2.2.2.2.2 l hl).1
  simp only [possB, decide_eq_true_eq] at hp
  obtain ⟨b1, b2, b3, b4, b5, b6, b7, b8⟩ := hp
  have hrows := (ins_rows (L := W * H) hi rfl).1
  have HX := fun w => lies_any x a W b1 b2 (by simp only [insB, decide_eq_true_eq] at hi; omega) (by simp only [insB, decide_eq_true_eq] at hi; omega) w
  have HY := fun w => lies_any y b H b3 b4 (by simp only [insB, decide_eq_true_eq] at hi; omega) (by simp only [insB, decide_eq_true_eq] at hi; omega) w
  have hi2 := hi
  rw [ins_lies, Bool.and_eq_true] at hi2
  simp only [hi2.1] at HX
  simp only [hi2.2] at HY
  simp only [insB, decide_eq_true_eq] at hi
  obtain ⟨i1, i2, i3, i4, i5, i6⟩ := hi
  replace HI := Lib.hid HI
  replace HX := Lib.hid HX
  replace HY := Lib.hid HY
  replace hpl := Lib.hid hpl
  replace hrows := Lib.hid hrows
  clear hq hi2 hsm h63
  obtain ⟨m1, m2⟩ := mul_64 (a := W) (b := H) ⟨b1, b2⟩ ⟨b3, b4⟩
  have hWH : W * H ≤ 4096 := by
    have : ((W * H : Nat) : Int) = (W : Int) * H := by simp
    omega
  replace hWH := Lib.hid hWH
  clear m1 m2
  go_enter Try.func37, Try.ntmps37
  go_wp2_with (first
    | (go_at_call 44; go_must (refine (HI.out _ (by repeat (first | exact Below.refl _ _ | assumption | refine Below.drew ?_ | refine below_drewN ?_ _ | refine below_alloc ?_ _))).mono ?_); rintro e w1 ⟨rfl, hb1⟩; have hbz := (Blk.new1 w _ 28 #[.int .i64 0, .int .i64 0, .int .i64 0, .slice none 0 0]).below hb1 (by simp); have hbx := ((Blk.new w 28 #[.int .i64 W, .int .i64 H, .int .i64 d, .slice A p.length c]).alloc (.cells #[.int .i64 0, .int .i64 0, .int .i64 0, .slice none 0 0] 28)).below hb1 (by simp <;> omega); have bb := below_then (below_alloc (below_alloc (Below.refl w.heap.size w) _) _) hb1; clear hb1; obtain ⟨x0, x1, x2, x3, _⟩ := hbx.four)
    | (go_at_call 48; (with_reducible refine (HX.out _).mono ?_); rintro e w2 ⟨rfl, rfl⟩)
    | (go_at_call 48; (with_reducible refine (HY.out _).mono ?_); rintro e w2 ⟨rfl, rfl⟩))
  obtain ⟨g, hg⟩ : ∃ g, g = w1.heap.size := ⟨_, rfl⟩
  have hgw : w.heap.size + 1 < g := by rw [hg]; exact hbz.lt
  obtain ⟨wa, hwa⟩ : ∃ wa, wa = w1.alloc (.cells #[.int .i64 a, .int .i64 b, .int .i64 d, .slice none 0 0] 28) := ⟨_, rfl⟩
  rw [← hwa, ← hg]
  have bxa : Below w.heap.size w wa := by rw [hwa]; exact below_alloc bb _
  have c1 : Blk wa (w.heap.size + 1) 28 #[.int .i64 0, .int .i64 0, .int .i64 0, .slice none 0 0] := by
    rw [hwa]
    exact hbz.alloc _
  have c0 : Blk wa w.heap.size 28 #[.int .i64 W, .int .i64 H, .int .i64 d, .slice A p.length c] := by
    rw [hwa]
    exact hbx.alloc _
  have c2 : Blk wa g 28 #[.int .i64 a, .int .i64 b, .int .i64 d, .slice none 0 0] := by
    rw [hwa, hg]
    exact Blk.new w1 _ _
  clear x0 x1 x2 x3 hbx hbz bb hwa hg
  go_loopw [13] (fun i wr => ∃ (j : Nat) (v : Value), j ≤ p.length ∧ i = .int .i64 j ∧ Below w.heap.size w wr ∧ Blk wr w.heap.size 28 #[.int .i64 W, .int .i64 H, .int .i64 d, .slice A p.length c] ∧ Blk wr (w.heap.size + 1) 28 #[.int .i64 0, .int .i64 0, .int .i64 0, .slice none 0 0] ∧
      Blk wr g 28 #[.int .i64 a, .int .i64 b, .int .i64 d, v] ∧ OwnLL wr (g + 1) 25 3 .i64 v (cutLL (p.take j) W x y a b)) (fun i _ => p.length - (intOf i).toNat)
  case atStart => exact ⟨0, _, Nat.zero_le _, rfl, bxa, c0, c1, c2, by simpa [cutLL] using OwnLL.nil_ _ _ _ _ _⟩
  case round =>
    obtain ⟨j, v, hj, rfl, hbx, hb0, hb1, hb2, hll⟩ := hrel
    obtain ⟨y0, y1, y2, y3, _⟩ := hb0.four
    clear y1 y2
    by_cases hlt : j < p.length
    · obtain ⟨ad, Aj, cj, rfl, hadB, hcell, hcj, hrj⟩ := (hr.below hbx hB) j hlt
      have HE : Hid (cutLL (p.take (j + 1)) W x y a b = cutLL (p.take j) W x y a b ++ [cutPl (p.getD j []) W x y a b] ∧ (p.getD j []).length = W * H ∧ (cutLL (p.take j) W x y a b).length = j) := by
        have e : p.getD j [] = p[j] := by simp [List.getD, List.getElem?_eq_getElem hlt]
        rw [Hid, e]
        exact ⟨by rw [List.take_succ_eq_append_getElem hlt, cutLL, List.map_append]; rfl, hpl.out _ (List.getElem_mem hlt), by rw [cutLL, List.length_map, List.length_take]; omega⟩
      generalize p.getD j [] = l at *
      have hB2 : B ≤ w.heap.size := hB
      have hsz : g + 1 ≤ wr.heap.size := hb2.lt
      have hszr := hbx.size
      have hgs : ¬ g = w.heap.size := by omega
      have hadg : ¬ g = ad.block := by omega
      have hadg' : ¬ ad.block = g := by omega
      obtain ⟨_, _, _, k3, _, _, _, f3⟩ := hb2.four
      have HPart := Lib.hid (fun W' (hb : Below wr.heap.size wr W') => part_any (c := cj) (hrj.below hb (by omega)) (Nat.le_trans (show B ≤ wr.heap.size by omega) hb.size) W x y a b (by omega) (by omega) (by omega) (by omega) (by omega) (by rw [HE.out.2.1]; exact hWH.out) (by rw [HE.out.2.1]; exact hrows.out))
      go_wp2
      refine wp_region_last (S := (fun w' => w'.cell? ⟨w.heap.size, 0, none⟩ = some (.int .i64 W) ∧ w'.cell? ⟨w.heap.size, 3, none⟩ = some (.slice (some ad) p.length c) ∧ w'.cell? (ad.add j) = some (.slice Aj l.length cj) ∧ w'.cell? ⟨g, 3, none⟩ = some v)) 17 _ (by simp only [List.pop_toArray, List.dropLast_cons_cons, List.dropLast_singleton]; rfl) (by kernel_rfl) (by kernel_rfl) (by kernel_rfl) (by kernel_rfl) (by kernel_rfl) ?_ (fun hHeld => ?_)
      focus exact ⟨y0, y3, hcell, k3⟩
      refine wpAnyH_take (i := 0) (v := ?_) rfl (by kernel_rfl) (by kernel_rfl) (by kernel_rfl) (fun _ _ _ h => h) (Or.inl ⟨by rfl, ?_⟩) (by assumption) ?_
      rotate_left
      focus
        intro w9 hSw
        (try dsimp only at hSw)
        go_simp
        (try with_reducible rfl)
      (try simp only [Act.put, List.setIfInBounds_toArray, List.set_cons_zero, List.set_cons_succ])
      refine wpAnyH_take (i := 1) (v := ?_) rfl (by kernel_rfl) (by kernel_rfl) (by kernel_rfl) (fun _ _ _ h => h) (Or.inl ⟨by rfl, ?_⟩) (by assumption) ?_
      rotate_left
      focus
        intro w9 hSw
        (try dsimp only at hSw)
        go_simp
        (try with_reducible rfl)
      (try simp only [Act.put, List.setIfInBounds_toArray, List.set_cons_zero, List.set_cons_succ])
      refine wpAnyH_take (i := 2) (v := ?_) rfl (by kernel_rfl) (by kernel_rfl) (by kernel_rfl) (fun _ _ _ h => h) (Or.inl ⟨by rfl, ?_⟩) (by assumption) ?_
      rotate_left
      focus
        intro w9 hSw
        (try dsimp only at hSw)
        go_simp
        (try with_reducible rfl)
      (try simp only [Act.put, List.setIfInBounds_toArray, List.set_cons_zero, List.set_cons_succ])
      refine wpAnyH_take (i := 3) (v := ?_) rfl (by kernel_rfl) (by kernel_rfl) (by kernel_rfl) (fun _ _ _ h => h) (Or.inl ⟨by rfl, ?_⟩) (by assumption) ?_
      rotate_left
      focus
        intro w9 hSw
        (try dsimp only at hSw)
        go_simp
        (try with_reducible rfl)
      (try simp only [Act.put, List.setIfInBounds_toArray, List.set_cons_zero, List.set_cons_succ])
      refine wpAnyH_take (i := 4) (v := ?_) rfl (by kernel_rfl) (by kernel_rfl) (by kernel_rfl) (fun _ _ _ h => h) (Or.inl ⟨by rfl, ?_⟩) (by assumption) ?_
      rotate_left
      focus
        intro w9 hSw
        (try dsimp only at hSw)
        go_simp
        (try with_reducible rfl)
      (try simp only [Act.put, List.setIfInBounds_toArray, List.set_cons_zero, List.set_cons_succ])
      refine wpAnyH_take (i := 5) (v := ?_) rfl (by kernel_rfl) (by kernel_rfl) (by kernel_rfl) (fun _ _ _ h => h) (Or.inl ⟨by rfl, ?_⟩) (by assumption) ?_
      rotate_left
      focus
        intro w9 hSw
        (try dsimp only at hSw)
        go_simp
        (try with_reducible rfl)
      (try simp only [Act.put, List.setIfInBounds_toArray, List.set_cons_zero, List.set_cons_succ])
      refine wpAnyH_take (i := 6) (v := ?_) rfl (by kernel_rfl) (by kernel_rfl) (by kernel_rfl) (fun _ _ _ h => h) (Or.inl ⟨by rfl, ?_⟩) (by assumption) ?_
      rotate_left
      focus
        intro w9 hSw
        (try dsimp only at hSw)
        go_simp
        (try with_reducible rfl)
      (try simp only [Act.put, List.setIfInBounds_toArray, List.set_cons_zero, List.set_cons_succ])
      refine wpAnyH_take (i := 7) (v := ?_) rfl (by kernel_rfl) (by kernel_rfl) (by kernel_rfl) (fun _ _ _ h => h) (Or.inl ⟨by rfl, ?_⟩) (by assumption) ?_
      rotate_left
      focus
        intro w9 hSw
        (try dsimp only at hSw)
        go_simp
        (try with_reducible rfl)
      (try simp only [Act.put, List.setIfInBounds_toArray, List.set_cons_zero, List.set_cons_succ])
      refine wpAnyH_take (i := 8) (v := ?_) rfl (by kernel_rfl) (by kernel_rfl) (by kernel_rfl) (fun _ _ _ h => h) (Or.inl ⟨by rfl, ?_⟩) (by assumption) ?_
      rotate_left
      focus
        intro w9 hSw
        (try dsimp only at hSw)
        go_simp
        (try with_reducible rfl)
      (try simp only [Act.put, List.setIfInBounds_toArray, List.set_cons_zero, List.set_cons_succ])
      refine wpAnyH_take (i := 9) (v := ?_) rfl (by kernel_rfl) (by kernel_rfl) (by kernel_rfl) (fun _ _ _ h => h) (Or.inl ⟨by rfl, ?_⟩) (by assumption) ?_
      rotate_left
      focus
        intro w9 hSw
        (try dsimp only at hSw)
        go_simp
        (try with_reducible rfl)
      (try simp only [Act.put, List.setIfInBounds_toArray, List.set_cons_zero, List.set_cons_succ])
      refine wpAnyH_take (i := 10) (v := ?_) rfl (by kernel_rfl) (by kernel_rfl) (by kernel_rfl) (fun _ _ _ h => h) (Or.inl ⟨by rfl, ?_⟩) (by assumption) ?_
      rotate_left
      focus
        intro w9 hSw
        (try dsimp only at hSw)
        go_simp
        (try with_reducible rfl)
      (try simp only [Act.put, List.setIfInBounds_toArray, List.set_cons_zero, List.set_cons_succ])
      refine wpAnyH_take (i := 11) (v := ?_) rfl (by kernel_rfl) (by kernel_rfl) (by kernel_rfl) (fun _ _ _ h => h) (Or.inl ⟨by rfl, ?_⟩) (by assumption) ?_
      rotate_left
      focus
        intro w9 hSw
        (try dsimp only at hSw)
        go_simp
        (try with_reducible rfl)
      (try simp only [Act.put, List.setIfInBounds_toArray, List.set_cons_zero, List.set_cons_succ])
      refine wpAnyH_take (i := 12) (v := ?_) rfl (by kernel_rfl) (by kernel_rfl) (by kernel_rfl) (fun _ _ _ h => h) (Or.inl ⟨by rfl, ?_⟩) (by assumption) ?_
      rotate_left
      focus
        intro w9 hSw
        (try dsimp only at hSw)
        go_simp
        (try with_reducible rfl)
      (try simp only [Act.put, List.setIfInBounds_toArray, List.set_cons_zero, List.set_cons_succ])
      refine wpAnyH_ready (rs := [13]) (by kernel_rfl) (by simp) (AllReadyH.cons rfl (fun K hK => ?_) AllReadyH.nil)
      go_simp
      go_at_call 49
      refine (HPart.out _ (by repeat (first | exact Below.refl _ _ | assumption | refine Below.drew ?_ | refine below_drewN ?_ _ | refine below_alloc ?_ _))).mono ?_
      rintro e w1 ⟨A1, c1', rfl, hown1, hbel1'⟩
      have hbel1 := below_undrew hbel1'
      clear hbel1'
      have u0 := (hb0.below hbel1 hb0.lt).cell 0
      have u3 := (hb0.below hbel1 hb0.lt).cell 3
      have uj := (hbel1.cell (p := ad.add j) (by rw [add_block]; omega)).trans hcell
      have k3' := (hb2.below hbel1 (by exact hsz)).cell 3
      have k3a := ((hb2.below hbel1 (by exact hsz)).alloc (.cells #[.slice A1 (cutPl l W x y a b).length c1'] 25)).cell 3
      have hlo1 : ∀ ad, A1 = some ad → wr.heap.size ≤ ad.block := hown1.lo
      refine hK.out _ _ ?_ (fun hHeld => ?_)
      focus
       (try dsimp only)
       first | (simp [*, World.cell?_alloc_some, World.cell?_setCell_far, add_block]; done) | go_keep
      clear hK K
      refine wpAnyH_ready (rs := [14]) (by kernel_rfl) (by simp) (AllReadyH.cons rfl (fun K hK => ?_) AllReadyH.nil)
      go_simp
      refine hK.out _ _ ?_ (fun hHeld => ?_)
      focus
       (try dsimp only)
       first | (simp [*, World.cell?_alloc_some, World.cell?_setCell_far, add_block]; done) | go_keep
      clear hK K
      refine wpAnyH_ready (rs := [15]) (by kernel_rfl) (by simp) (AllReadyH.cons rfl (fun K hK => ?_) AllReadyH.nil)
      refine step_push_ll (by rfl) (.tmp 46) (.tmp 59) _ (by rfl) w1 (g + 1) 25 3 .i64 24 Try.underlying26 info_ints (by omega) (by decide) v (by rfl) _ _ hll (by exact hbel1) _ _ (by rfl) (by rfl) A1 _ _ (cutPl l W x y a b) (by rfl) (hown1.base_ (by exact hsz)) (by exact hlo1) (by rw [HE.out.2.2]; omega) (by have := hbel1.size; exact Nat.le_trans hsz this) ?_
      intro v2 w2 hL2 hb2'
      have hb2x := (hb2.below hbel1 (by exact hsz)).below hb2' (by omega)
      have hb0x := (hb0.below hbel1 (by exact hb0.lt)).below hb2' (by omega)
      have t0 := hb0x.cell 0
      have t3 := hb0x.cell 3
      have tj := (hb2'.cell (p := ad.add j) (by rw [add_block]; omega)).trans uj
      obtain ⟨_, _, _, k3x, _, _, _, f3x⟩ := hb2x.four
      obtain ⟨A2, c2', hv2, hq2⟩ := hL2.form
      clear hq2
      subst hv2
      refine hK.out _ _ ?_ (fun hHeld => ?_)
      focus
       (try dsimp only)
       first | (simp [*, World.cell?_alloc_some, World.cell?_setCell_far, add_block]; done) | go_keep
      clear hK K
      refine wpAnyH_take (i := 16) (v := ?_) rfl (by kernel_rfl) (by kernel_rfl) (by kernel_rfl) (fun _ _ _ h => h) (Or.inl ⟨by rfl, ?_⟩) (by assumption) ?_
      rotate_left
      focus
        intro w9 hSw
        (try dsimp only at hSw)
        go_simp
        (try with_reducible rfl)
      (try simp only [Act.put, List.setIfInBounds_toArray, List.set_cons_zero, List.set_cons_succ])
      refine wpAnyH_done (by kernel_rfl) (lastQ_step rfl (fun K hK => ?_)) _
      go_simp
      refine hK _ _ ?_
      clear hK K
      all_goals
        have hL3 : OwnLL w2 (g + 1) 25 3 .i64 (.slice A2 (j + 1) c2') (cutLL (p.take (j + 1)) W x y a b) := by
          rw [← HE.out.1, HE.out.1, List.length_append, HE.out.2.2, ← HE.out.1] at hL2
          exact hL2
        have hbw : Below (g + 1) wr w2 := (hbel1.mono (by omega)).trans hb2'
        rw [HE.out.2.2]
        go_wp2
        go_roundw
        case rel =>
          exact ⟨j + 1, _, by omega, by go_num, (hbx.trans (hbw.mono (by omega))).setCell (by simp; omega) _, (hb0.below hbw (by omega)).far (by simp; omega) _, (hb1.below hbw (by omega)).far (by simp; omega) _, hb2x.set_ 3 _, hL3.far (by simp) _⟩
        case measure => simp [intOf]; omega
    · have hjl : j = p.length := by omega
      subst hjl
      rw [List.take_length] at hll
      obtain ⟨A', c', hv, hc', _, _⟩ := hll.form
      rw [cutLL, List.length_map] at hv
      subst hv
      obtain ⟨k0, k1, k2, k3, _⟩ := hb2.four
      obtain ⟨q0, q1, q2, q3, f0, f1, f2, f3⟩ := hb1.four
      go_wp2
      refine bodyPost_ret (v := .tuple #[.agg #[.int .i64 a, .int .i64 b, .int .i64 d, .slice A' p.length c'], .int .i64 0]) (by simp [results, Try.results37, go_sem, q0, q1, q2, q3]) rfl ⟨A', c', rfl, ?_, ?_⟩
      · exact ((((hll.far (by simp; omega) _).far (by simp; omega) _).far (by simp; omega) _).far (by simp; omega) _).base_ (by omega)
      · exact (((hbx.setCell (by simp) _).setCell (by simp) _).setCell (by simp) _).setCell (by simp) _
end Go.Proofs.Ytbmgnclfecejeaa
