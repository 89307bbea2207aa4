/- palette.Paint. -/
import Derived.Test.YtbbflddhbamjbaaPlMay
import Derived.Test.YtbbflddhbamjbaaPlOwn
import Derived.Deep.DeepCutAuto
set_option linter.unusedSimpArgs false
set_option linter.unusedVariables false
namespace Go.Proofs.Ytbbflddhbamjbaa
open Go.RowKit

def paintOk (l : List Int) (a b : Int) (P : Pal) : Bool := palB P && decide (1 ≤ a ∧ a ≤ 64 ∧ 1 ≤ b ∧ b ≤ 64 ∧ (l.length : Int) = a * b)
def inB (P : Pal) (i : Int) : Bool := decide (0 ≤ i ∧ i < P.c.length)
def paintE (l : List Int) (a b : Int) (P : Pal) : Int := if paintOk l a b P = true then (if l.all (inB P) = true then 0 else 6) else 1
/-- one plane -/
def paintK (l : List Int) (P : Pal) (k : Nat) : List Int := l.map fun i => (P.c.getD i.toNat []).getD k 0
def paintL (l : List Int) (P : Pal) (n : Nat) : List (List Int) := (List.range n).map (paintK l P)
def paintQ (l : List Int) (a b : Int) (P : Pal) : Pc := if paintE l a b P = 0 then ⟨a, b, P.d, paintL l P P.n.toNat⟩ else ⟨0, 0, 0, []⟩
theorem paint_no {l : List Int} {a b : Int} {P : Pal} (h : paintOk l a b P = false) : paintE l a b P = 1 ∧ paintQ l a b P = ⟨0, 0, 0, []⟩ := by
  have e : paintE l a b P = 1 := by rw [paintE, h]; rfl
  exact ⟨e, by rw [paintQ, e]; rfl⟩
theorem paint_out {l : List Int} {a b : Int} {P : Pal} (h : paintOk l a b P = true) (h2 : l.all (inB P) = false) : paintE l a b P = 6 ∧ paintQ l a b P = ⟨0, 0, 0, []⟩ := by
  have e : paintE l a b P = 6 := by rw [paintE, h, h2]; rfl
  exact ⟨e, by rw [paintQ, e]; rfl⟩
theorem paint_yes {l : List Int} {a b : Int} {P : Pal} (h : paintOk l a b P = true) (h2 : l.all (inB P) = true) : paintE l a b P = 0 ∧ paintQ l a b P = ⟨a, b, P.d, paintL l P P.n.toNat⟩ := by
  have e : paintE l a b P = 0 := by rw [paintE, h, h2]; rfl
  exact ⟨e, by rw [paintQ, e]; rfl⟩
def PaintPost (w : World) (Q : Pc) (E : Int) (e : Ending) (w' : World) : Prop :=
  ∃ A' c', e = .returned (.tuple #[.agg #[.int .i64 Q.w, .int .i64 Q.h, .int .i64 Q.d, .slice A' Q.p.length c'], .int .i64 E]) ∧ RdLL w' w'.heap.size .i64 A' Q.p ∧ Below w.heap.size w w'
theorem PaintPost.zero {w w' : World} {E : Int} {e : Ending} (h : e = .returned (.tuple #[.agg #[.int .i64 0, .int .i64 0, .int .i64 0, .slice none 0 0], .int .i64 E])) (hb : Below w.heap.size w w') : PaintPost w ⟨0, 0, 0, []⟩ E e w' :=
  ⟨none, 0, h, fun j hj => absurd hj (by simp), hb⟩

set_option maxHeartbeats 4000000 in
set_option maxRecDepth 100000 in
theorem paint_head {l : List Int} {A A2 : Option Addr} {c c2 : Nat} {a b : Int} {P : Pal} {w : World} {B : Nat} (hr2 : RdLL w B .i64 A2 P.c) (hB : B ≤ w.heap.size) (h : paintOk l a b P = false) :
    Calls Try.prog 22 #[.slice A l.length c, .int .i64 a, .int .i64 b, palV P A2 c2] w (PaintPost w ⟨0, 0, 0, []⟩ 1) := by
  have HMy := fun W (hb : Below w.heap.size w W) => may_any (c := c2) (hr2.below hb hB) (Nat.le_trans hB hb.size)
  have hz : ∀ w2, Below ((w.alloc (.cells #[.int .i64 P.d, .int .i64 P.n, .slice A2 P.c.length c2] 25)).alloc (.cells #[.int .i64 0, .int .i64 0, .int .i64 0, .slice none 0 0] 30)).heap.size ((w.alloc (.cells #[.int .i64 P.d, .int .i64 P.n, .slice A2 P.c.length c2] 25)).alloc (.cells #[.int .i64 0, .int .i64 0, .int .i64 0, .slice none 0 0] 30)) w2 →
      Blk w2 (w.heap.size + 1) 30 #[.int .i64 0, .int .i64 0, .int .i64 0, .slice none 0 0] := fun w2 hb2 => (Blk.new1 w _ _ _).below hb2 (by simp)
  have HZ := Lib.hid hz
  have hb0 : Below w.heap.size w ((w.alloc (.cells #[.int .i64 P.d, .int .i64 P.n, .slice A2 P.c.length c2] 25)).alloc (.cells #[.int .i64 0, .int .i64 0, .int .i64 0, .slice none 0 0] 30)) := below_alloc (below_alloc (Below.refl _ _) _) _
  have HB0 := Lib.hid hb0
  clear hz hb0
  have hw : palV P A2 c2 = .agg #[.int .i64 P.d, .int .i64 P.n, .slice A2 P.c.length c2] := rfl
  rw [hw] at HMy ⊢
  cases hp : palB P with
  | false =>
    simp only [hp] at HMy
    have HMy := Lib.hid (HMy _ HB0.out)
    clear h hp hw
    go_enter Try.func22, Try.ntmps22
    go_wp2_with (first
      | (go_at_call 37; (with_reducible refine HMy.out.mono ?_); rintro e w1 ⟨rfl, hb1⟩; have kz := HZ.out _ hb1; obtain ⟨z0, z1, z2, z3, f0, f1, f2, f3⟩ := kz.four))
    refine bodyPost_ret (v := .tuple #[.agg #[.int .i64 0, .int .i64 0, .int .i64 0, .slice none 0 0], .int .i64 1]) (by simp [results, Try.results22, go_sem, z0, z1, z2, z3]) rfl ?_
    exact PaintPost.zero rfl (below_then HB0.out hb1 |>.setCell (by simp) _ |>.setCell (by simp) _ |>.setCell (by simp) _ |>.setCell (by simp) _)
  | true =>
    simp only [hp] at HMy
    have HMy := Lib.hid (HMy _ HB0.out)
    rw [paintOk, hp, Bool.true_and, decide_eq_false_iff_not] at h
    have hcase : a < 1 ∨ (¬ a < 1 ∧ 64 < a) ∨ (¬ a < 1 ∧ ¬ 64 < a ∧ b < 1) ∨ (¬ a < 1 ∧ ¬ 64 < a ∧ ¬ b < 1 ∧ 64 < b) ∨ (¬ a < 1 ∧ ¬ 64 < a ∧ ¬ b < 1 ∧ ¬ 64 < b ∧ ¬ (l.length : Int) = a * b) := by
      by_cases h9 : (l.length : Int) = a * b
      · omega
      · omega
    clear h hp hw
    rcases hcase with h1 | ⟨h1, h2⟩ | ⟨h1, h2, h3⟩ | ⟨h1, h2, h3, h4⟩ | ⟨h1, h2, h3, h4, h5⟩
    · go_enter Try.func22, Try.ntmps22
      go_wp2_with (first
        | (go_at_call 37; (with_reducible refine HMy.out.mono ?_); rintro e w1 ⟨rfl, hb1⟩; have kz := HZ.out _ hb1; obtain ⟨z0, z1, z2, z3, f0, f1, f2, f3⟩ := kz.four))
      refine bodyPost_ret (v := .tuple #[.agg #[.int .i64 0, .int .i64 0, .int .i64 0, .slice none 0 0], .int .i64 1]) (by simp [results, Try.results22, go_sem, z0, z1, z2, z3]) rfl ?_
      exact PaintPost.zero rfl (below_then HB0.out hb1 |>.setCell (by simp) _ |>.setCell (by simp) _ |>.setCell (by simp) _ |>.setCell (by simp) _)
    · go_enter Try.func22, Try.ntmps22
      go_wp2_with (first
        | (go_at_call 37; (with_reducible refine HMy.out.mono ?_); rintro e w1 ⟨rfl, hb1⟩; have kz := HZ.out _ hb1; obtain ⟨z0, z1, z2, z3, f0, f1, f2, f3⟩ := kz.four))
      refine bodyPost_ret (v := .tuple #[.agg #[.int .i64 0, .int .i64 0, .int .i64 0, .slice none 0 0], .int .i64 1]) (by simp [results, Try.results22, go_sem, z0, z1, z2, z3]) rfl ?_
      exact PaintPost.zero rfl (below_then HB0.out hb1 |>.setCell (by simp) _ |>.setCell (by simp) _ |>.setCell (by simp) _ |>.setCell (by simp) _)
    · go_enter Try.func22, Try.ntmps22
      go_wp2_with (first
        | (go_at_call 37; (with_reducible refine HMy.out.mono ?_); rintro e w1 ⟨rfl, hb1⟩; have kz := HZ.out _ hb1; obtain ⟨z0, z1, z2, z3, f0, f1, f2, f3⟩ := kz.four))
      refine bodyPost_ret (v := .tuple #[.agg #[.int .i64 0, .int .i64 0, .int .i64 0, .slice none 0 0], .int .i64 1]) (by simp [results, Try.results22, go_sem, z0, z1, z2, z3]) rfl ?_
      exact PaintPost.zero rfl (below_then HB0.out hb1 |>.setCell (by simp) _ |>.setCell (by simp) _ |>.setCell (by simp) _ |>.setCell (by simp) _)
    · go_enter Try.func22, Try.ntmps22
      go_wp2_with (first
        | (go_at_call 37; (with_reducible refine HMy.out.mono ?_); rintro e w1 ⟨rfl, hb1⟩; have kz := HZ.out _ hb1; obtain ⟨z0, z1, z2, z3, f0, f1, f2, f3⟩ := kz.four))
      refine bodyPost_ret (v := .tuple #[.agg #[.int .i64 0, .int .i64 0, .int .i64 0, .slice none 0 0], .int .i64 1]) (by simp [results, Try.results22, go_sem, z0, z1, z2, z3]) rfl ?_
      exact PaintPost.zero rfl (below_then HB0.out hb1 |>.setCell (by simp) _ |>.setCell (by simp) _ |>.setCell (by simp) _ |>.setCell (by simp) _)
    · obtain ⟨m1, m2⟩ := mul_64 (a := a) (b := b) (by omega) (by omega)
      have hwr : IntKind.i64.wrap (a * b) = a * b := IntWalk.i64_in _ (by omega)
      have q1 : ((l.length : Int) != a * b) = true := by simpa using h5
      clear h5
      go_enter Try.func22, Try.ntmps22
      go_wp2_with (first
        | (go_at_call 37; (with_reducible refine HMy.out.mono ?_); rintro e w1 ⟨rfl, hb1⟩; have kz := HZ.out _ hb1; obtain ⟨z0, z1, z2, z3, f0, f1, f2, f3⟩ := kz.four))
      refine bodyPost_ret (v := .tuple #[.agg #[.int .i64 0, .int .i64 0, .int .i64 0, .slice none 0 0], .int .i64 1]) (by simp [results, Try.results22, go_sem, z0, z1, z2, z3]) rfl ?_
      exact PaintPost.zero rfl (below_then HB0.out hb1 |>.setCell (by simp) _ |>.setCell (by simp) _ |>.setCell (by simp) _ |>.setCell (by simp) _)

theorem inB_at {l : List Int} {P : Pal} {j : Nat} (hj : j < l.length) (h : l.all (inB P) = true) : ∃ i : Nat, l.getD j 0 = i ∧ i < P.c.length := by
  have h1 := List.all_eq_true.1 h _ (List.getElem_mem hj)
  simp only [inB, decide_eq_true_eq] at h1
  have e : l.getD j 0 = l[j] := by simp [List.getD, List.getElem?_eq_getElem hj]
  rw [e]
  exact ⟨l[j].toNat, by omega, by omega⟩
theorem all_take_succ {l : List Int} {p : Int → Bool} {j : Nat} (hj : j < l.length) (h : (l.take j).all p = true) (hx : p (l.getD j 0) = true) : (l.take (j + 1)).all p = true := by
  have e : l.getD j 0 = l[j] := by simp [List.getD, List.getElem?_eq_getElem hj]
  rw [List.take_succ_eq_append_getElem hj, List.all_append, h, ← e, Bool.true_and, List.all_cons, List.all_nil, Bool.and_true]
  exact hx
theorem all_bad {l : List Int} {p : Int → Bool} {j : Nat} (hj : j < l.length) (hx : p (l.getD j 0) = false) : l.all p = false := by
  have e : l.getD j 0 = l[j] := by simp [List.getD, List.getElem?_eq_getElem hj]
  rw [List.all_eq_false]
  exact ⟨l[j], List.getElem_mem hj, by rw [← e, hx]; simp⟩
/-- the planes while plane j is being painted, k numbers of it -/
def pK (l : List Int) (P : Pal) (n j k : Nat) : List (List Int) := paintL l P j ++ ((paintK l P j).take k ++ List.replicate (l.length - k) 0) :: List.replicate (n - j - 1) []
def pJ (l : List Int) (P : Pal) (n j : Nat) : List (List Int) := paintL l P j ++ List.replicate (n - j) []
theorem paintL_len (l : List Int) (P : Pal) (n : Nat) : (paintL l P n).length = n := by simp [paintL]
theorem paintK_len (l : List Int) (P : Pal) (k : Nat) : (paintK l P k).length = l.length := by simp [paintK]
theorem pJ_len {l : List Int} {P : Pal} {n j : Nat} (h : j ≤ n) : (pJ l P n j).length = n := by simp [pJ, paintL_len]; omega
theorem pK_len {l : List Int} {P : Pal} {n j k : Nat} (h : j < n) : (pK l P n j k).length = n := by simp [pK, paintL_len]; omega
theorem pJ_set {l : List Int} {P : Pal} {n j : Nat} (h : j < n) : (pJ l P n j).set j (List.replicate l.length 0) = pK l P n j 0 := by
  rw [pJ, pK, List.set_append, if_neg (by rw [paintL_len]; omega), paintL_len, Nat.sub_self]
  obtain ⟨m, hm⟩ : ∃ m, n - j = m + 1 := ⟨n - j - 1, by omega⟩
  rw [hm, List.replicate_succ]
  simp [List.set_cons_zero]
theorem pK_get {l : List Int} {P : Pal} {n j k : Nat} : (pK l P n j k).getD j [] = (paintK l P j).take k ++ List.replicate (l.length - k) 0 := by
  rw [pK, List.getD_eq_getElem?_getD, List.getElem?_append_right (by rw [paintL_len]; omega), paintL_len, Nat.sub_self]
  rfl
theorem pK_rowlen {l : List Int} {P : Pal} {n j k : Nat} (h : k ≤ l.length) : ((pK l P n j k).getD j []).length = l.length := by
  rw [pK_get, List.length_append, List.length_take, paintK_len, List.length_replicate]; omega
theorem pK_set {l : List Int} {P : Pal} {n j k : Nat} (h : k < l.length) : (pK l P n j k).set j (((pK l P n j k).getD j []).set k ((P.c.getD (l.getD k 0).toNat []).getD j 0)) = pK l P n j (k + 1) := by
  rw [pK_get, pK, pK, List.set_append, if_neg (by rw [paintL_len]; omega), paintL_len, Nat.sub_self, List.set_cons_zero]
  congr 2
  have hk : k < (paintK l P j).length := by rw [paintK_len]; exact h
  have e1 : (paintK l P j)[k] = (P.c.getD (l.getD k 0).toNat []).getD j 0 := by
    simp only [paintK, List.getElem_map]
    congr 3
    simp [List.getD, List.getElem?_eq_getElem h]
  have hl : ((paintK l P j).take k).length = k := by rw [List.length_take]; omega
  obtain ⟨m, hm⟩ : ∃ m, l.length - k = m + 1 := ⟨l.length - k - 1, by omega⟩
  rw [List.set_append, if_neg (by omega), hl, Nat.sub_self, hm, List.replicate_succ, List.set_cons_zero, List.take_succ_eq_append_getElem hk, e1, show l.length - (k + 1) = m by omega]
  simp
theorem pK_full {l : List Int} {P : Pal} {n j : Nat} (h : j < n) : pK l P n j l.length = pJ l P n (j + 1) := by
  rw [pK, pJ, List.take_of_length_le (by rw [paintK_len]; omega), Nat.sub_self, List.replicate_zero, List.append_nil, show n - (j + 1) = n - j - 1 by omega, paintL, paintL, List.range_succ, List.map_append]
  simp
theorem pJ_full {l : List Int} {P : Pal} {n : Nat} : pJ l P n n = paintL l P n := by rw [pJ, Nat.sub_self, List.replicate_zero, List.append_nil]

set_option maxHeartbeats 8000000 in
set_option maxRecDepth 100000 in
theorem paint_any {l : List Int} {A A2 : Option Addr} {c c2 : Nat} {a b : Int} {P : Pal} {w : World} {B : Nat} (hr : RdI w B .i64 A l) (hr2 : RdLL w B .i64 A2 P.c) (hB : B ≤ w.heap.size) :
    Calls Try.prog 22 #[.slice A l.length c, .int .i64 a, .int .i64 b, palV P A2 c2] w (PaintPost w (paintQ l a b P) (paintE l a b P)) := by
  cases hok : paintOk l a b P with
  | false =>
    rw [(paint_no hok).1, (paint_no hok).2]
    exact paint_head hr2 hB hok
  | true =>
    have hok' := hok
    rw [paintOk, Bool.and_eq_true, decide_eq_true_eq] at hok'
    obtain ⟨hp, a1, a2, b1, b2, hlen⟩ := hok'
    have HO := Lib.hid (fun h2 => paint_out hok h2)
    have HY := Lib.hid (fun h2 => paint_yes hok h2)
    have hpb := hp
    rw [palB_iff] at hpb
    have hhd := hpb.1
    simp only [headB, decide_eq_true_eq] at hhd
    have HRow := Lib.hid (fun i (hi : i < P.c.length) => (rowOk_all (hpb.2 i hi)).1)
    have HMy := fun W (hb : Below w.heap.size w W) => may_any (c := c2) (hr2.below hb hB) (Nat.le_trans hB hb.size)
    simp only [hp] at HMy
    replace HMy := Lib.hid HMy
    clear hok hp hpb
    obtain ⟨m1, m2⟩ := mul_64 (a := a) (b := b) (by omega) (by omega)
    have hwr : IntKind.i64.wrap (a * b) = (l.length : Int) := by rw [hlen]; exact IntWalk.i64_in _ (by omega)
    have q1 : ((l.length : Int) != (l.length : Int)) = false := by simp
    have hm4 : l.length ≤ 4096 ∧ 1 ≤ l.length := by omega
    clear hlen m1 m2
    obtain ⟨nn, hnn⟩ := Int.eq_ofNat_of_zero_le (show 0 ≤ P.n by omega)
    have HAll := Lib.hid (fun j (hj : j < l.length) (h : l.all (inB P) = true) => inB_at hj h)
    have HTk := Lib.hid (fun j (hj : j < l.length) (h : (l.take j).all (inB P) = true) (hx : inB P (l.getD j 0) = true) => all_take_succ hj h hx)
    have HBd := Lib.hid (fun j (hj : j < l.length) (hx : inB P (l.getD j 0) = false) => all_bad (p := inB P) hj hx)
    have HIn := Lib.hid (show ∀ i, inB P i = decide (0 ≤ i ∧ i < P.c.length) from fun _ => rfl)
    have hJ := fun j (h : j ≤ nn) => pJ_len (l := l) (P := P) h
    have HJs := Lib.hid (fun j (h : j < nn) => pJ_set (l := l) (P := P) h)
    have HJl := Lib.hid hJ
    have HKl := Lib.hid (fun j k (h : j < nn) => pK_len (l := l) (P := P) (k := k) h)
    have HKr := Lib.hid (fun j k (h : k ≤ l.length) => pK_rowlen (l := l) (P := P) (n := nn) (j := j) h)
    have HKs := Lib.hid (fun j k (h : k < l.length) => pK_set (l := l) (P := P) (n := nn) (j := j) h)
    have HKf := Lib.hid (fun j (h : j < nn) => pK_full (l := l) (P := P) h)
    have HJ0 := Lib.hid (show pJ l P nn 0 = List.replicate nn [] from by simp [pJ, paintL])
    have HLl := Lib.hid (paintL_len l P nn)
    have HJf := Lib.hid (pJ_full (l := l) (P := P) (n := nn))
    rw [hnn, Int.toNat_natCast] at HY
    rw [hnn] at hhd HRow
    generalize paintQ l a b P = Q at *
    generalize paintE l a b P = E at *
    clear hJ
    obtain ⟨d, n, cs⟩ := P
    simp only at hnn hhd HIn HRow HAll HKs hr2 HMy
    subst hnn
    generalize pJ l ⟨d, (nn : Int), cs⟩ nn = RJ at *
    generalize pK l ⟨d, (nn : Int), cs⟩ nn = RK at *
    generalize paintL l ⟨d, (nn : Int), cs⟩ nn = RL at *
    generalize inB ⟨d, (nn : Int), cs⟩ = IB at *
    simp only [palV] at HMy ⊢
    have hmk := fun W => run_make_one (P := Try.prog) W 23 Try.underlying23 info_ints (z := .slice none 0 0) rfl (by omega) .i64 nn (by omega)
    go_enter Try.func22, Try.ntmps22
    go_upto_region 3 with (first
      | (go_at_call 37; (with_reducible refine (HMy.out _ (by repeat (first | exact Below.refl _ _ | assumption | refine Below.drew ?_ | refine below_drewN ?_ _ | refine below_alloc ?_ _))).mono ?_); rintro e w1 ⟨rfl, hb1⟩))
    have kp := ((Blk.new w 25 #[.int .i64 d, .int .i64 (nn : Int), .slice A2 cs.length c2]).alloc (.cells #[.int .i64 0, .int .i64 0, .int .i64 0, .slice none 0 0] 30)).below hb1 (by simp; omega)
    have kz := (Blk.new1 w (.cells #[.int .i64 d, .int .i64 (nn : Int), .slice A2 cs.length c2] 25) 30 #[.int .i64 0, .int .i64 0, .int .i64 0, .slice none 0 0]).below hb1 (by simp)
    have bb := below_then (below_alloc (below_alloc (Below.refl w.heap.size w) _) _) hb1
    clear hb1 HMy
    have p0 := kp.cell 0
    have p1 := kp.cell 1
    have p2 := kp.cell 2
    have hkz := kz.lt
    go_wp2
    go_loop [46] (fun iv => ∃ j : Nat, j ≤ l.length ∧ iv = .int .i64 j ∧ (l.take j).all IB = true) (fun iv => l.length - (intOf iv).toNat)
    case atStart => exact ⟨0, Nat.zero_le _, rfl, by simp⟩
    case round =>
      obtain ⟨j, hj, rfl, hall⟩ := hrel
      have HA := Lib.hid hall
      clear hall
      by_cases hlt : j < l.length
      · obtain ⟨ad, rfl, _, k0⟩ := (hr.below bb hB).at_ hlt
        have HTj := Lib.hid (HTk.out j hlt HA.out)
        have HBj := Lib.hid (HBd.out j hlt)
        generalize l.getD j 0 = x at *
        have hx := HIn.out x
        by_cases hx0 : x < 0
        · obtain ⟨hE, hQ⟩ := HO.out (HBj.out (by rw [hx]; exact decide_eq_false (by omega)))
          subst hE hQ
          obtain ⟨z0, z1, z2, z3, f0, f1, f2, f3⟩ := kz.four
          go_wp2
          refine bodyPost_ret (v := .tuple #[.agg #[.int .i64 0, .int .i64 0, .int .i64 0, .slice none 0 0], .int .i64 6]) (by simp [results, Try.results22, go_sem, z0, z1, z2, z3]) rfl ?_
          exact PaintPost.zero rfl (bb |>.setCell (by simp) _ |>.setCell (by simp) _ |>.setCell (by simp) _ |>.setCell (by simp) _)
        · by_cases hx1 : (cs.length : Int) ≤ x
          · obtain ⟨hE, hQ⟩ := HO.out (HBj.out (by rw [hx]; exact decide_eq_false (by omega)))
            subst hE hQ
            obtain ⟨z0, z1, z2, z3, f0, f1, f2, f3⟩ := kz.four
            go_wp2
            refine bodyPost_ret (v := .tuple #[.agg #[.int .i64 0, .int .i64 0, .int .i64 0, .slice none 0 0], .int .i64 6]) (by simp [results, Try.results22, go_sem, z0, z1, z2, z3]) rfl ?_
            exact PaintPost.zero rfl (bb |>.setCell (by simp) _ |>.setCell (by simp) _ |>.setCell (by simp) _ |>.setCell (by simp) _)
          · have HT := Lib.hid (HTj.out (by rw [hx]; exact decide_eq_true (by omega)))
            clear hx
            go_wp2
            go_round
            case rel => exact ⟨j + 1, by omega, by go_num, HT.out⟩
            case measure => simp [intOf]; omega
      · have hjl : j = l.length := by omega
        subst hjl
        have HA2 := Lib.hid (show l.all IB = true by have := HA.out; rwa [List.take_length] at this)
        obtain ⟨hE, hQ⟩ := HY.out HA2.out
        subst hE hQ
        have HAt := Lib.hid (fun j hj => HAll.out j hj HA2.out)
        clear HO HY HTk HBd HIn HA HA2 HAll
        go_upto_region 10 with fail
        have hL0 := OwnLL.made (base := w1.heap.size) (eS := 22) (e := 3) (k := .i64) w1 (Nat.le_refl _) (n := nn) (by omega)
        have b0 := below_alloc (Below.refl w1.heap.size w1) (.cells (Array.replicate nn (.slice none 0 0)) 22)
        rw [← HJ0.out] at hL0
        have hkp := kp.lt
        generalize w1.alloc (.cells (Array.replicate nn (.slice none 0 0)) 22) = wa at *
        clear hmk p0 p1 p2
        go_wp2
        go_loopw [66] (fun iv wr => ∃ j : Nat, j ≤ nn ∧ iv = .int .i64 j ∧ OwnLL wr w1.heap.size 22 3 .i64 (.slice (some ⟨w1.heap.size, 0, none⟩) nn nn) (RJ j) ∧ Below w1.heap.size w1 wr) (fun iv _ => nn - (intOf iv).toNat)
        case atStart => exact ⟨0, Nat.zero_le _, rfl, hL0, b0⟩
        case round =>
          obtain ⟨j, hj, rfl, hown, hbr⟩ := hrel
          have hszr := hbr.size
          by_cases hjn : j < nn
          · have hjl2 := HJl.out j hj
            have HOw := Lib.hid hown
            obtain ⟨hGb, hGl, hGc⟩ := hown.head
            obtain ⟨⟨uj, hcj⟩, hfj⟩ := hGc j (by omega)
            have hb1 := below_alloc (Below.refl wr.heap.size wr) (.cells (Array.replicate l.length (.int .i64 0)) 3)
            have how1 := OwnI.made (e := 3) (k := .i64) wr (Nat.le_refl _) (n := l.length) (by omega)
            have hmi := fun W => run_make_ints (P := Try.prog) W 22 Try.underlying22 info_int (by omega) .i64 l.length l.length (Nat.le_refl _) (by omega)
            have hput := OwnLL.put hown (by decide) (only_below hb1 (some wr.heap.size)) (.inr (Nat.le_refl _)) (i := j) (by omega) (how1.base_ hszr) (fun ad h => by injection h with h; subst h; exact Nat.le_refl _)
            rw [HJs.out j hjn] at hput
            have hcj1 := (hb1.cell hGl).trans hcj
            have hfj1 : (wr.alloc (.cells (Array.replicate l.length (.int .i64 0)) 3)).frozen? ⟨w1.heap.size, j, none⟩ = false := by
              obtain ⟨_, _, h⟩ := (hown.below hb1).head
              exact (h j (by omega)).2
            clear hGc
            rw [List.length_replicate] at hput
            have hbc : Below w1.heap.size w1 ((wr.alloc (.cells (Array.replicate l.length (.int .i64 0)) 3)).setCell ⟨w1.heap.size, j, none⟩ (.slice (some ⟨wr.heap.size, 0, none⟩) l.length l.length)) := (hbr.trans (hb1.mono hszr)).setCell (by simp) _
            rw [World.setCell_alloc_past (w := wr) _ _ _ _ hGl] at hput hbc
            go_upto_region 14 with fail
            generalize (wr.setCell ⟨w1.heap.size, j, none⟩ (.slice (some ⟨wr.heap.size, 0, none⟩) l.length l.length)).alloc (.cells (Array.replicate l.length (.int .i64 0)) 3) = wc at *
            clear hmi hcj hfj hcj1 hfj1 how1 hb1 HOw hown uj
            obtain ⟨wo, rfl⟩ : ∃ wo : World, wo = wr := ⟨_, rfl⟩
            go_wp2
            go_loopw [77] (fun kv w3 => ∃ k : Nat, k ≤ l.length ∧ kv = .int .i64 k ∧ OwnLL w3 w1.heap.size 22 3 .i64 (.slice (some ⟨w1.heap.size, 0, none⟩) nn nn) (RK j k) ∧ Below w1.heap.size w1 w3) (fun kv _ => l.length - (intOf kv).toNat)
            case atStart => exact ⟨0, Nat.zero_le _, rfl, hput, hbc⟩
            case round =>
              obtain ⟨k, hk, rfl, hown3, hb3⟩ := hrel
              by_cases hkl : k < l.length
              · obtain ⟨G, C, g, cg, hv, hC, hcell, hcg, hgb, hgc, hgf, _, hset⟩ := hown3.cell_ (j := j) (i := k) (by decide) (by rw [HKl.out j k hjn]; exact hjn) (by rw [HKr.out j k hk]; exact hkl)
                simp only [Value.slice.injEq, Option.some.injEq, Addr.mk.injEq, and_true] at hv
                obtain ⟨rfl, hclr, rfl⟩ := hv
                have b03 := bb.trans (hb3.mono bb.size)
                obtain ⟨ix, hix, hixl⟩ := HAt.out k hkl
                obtain ⟨ad, rfl, _, k0⟩ := (hr.below b03 hB).at_ hkl
                rw [hix] at k0
                obtain ⟨ad2, Ai, ci, rfl, _, k1, hci, hri⟩ := (hr2.below b03 hB) ix hixl
                have hrow := HRow.out ix hixl
                obtain ⟨ad3, rfl, _, k2⟩ := hri.at_ (j := j) (by omega)
                have kp3 := kp.below hb3 hkp
                have k3 := kp3.cell 2
                have hSt := hset ((cs.getD ix []).getD j 0)
                have e9 := HKs.out j k hkl
                rw [hix, Int.toNat_natCast] at e9
                rw [e9] at hSt
                rw [HKr.out j k hk] at hcell hcg
                have HSt := Lib.hid hSt
                have hrl : (cs.getD ix []).length = nn := by omega
                rw [hrl] at k1 hci
                clear hset hSt e9 hclr hC hix hrow hri hrl
                generalize (RK j k).getD j [] = rr at *
                generalize rr.getD k 0 = u0 at *
                generalize (cs.getD ix []).getD j 0 = x at *
                have d0 : wr.drew.cell? (ad.add k) = some (.int .i64 (ix : Int)) := k0
                have d1 : wr.drew.cell? (ad2.add ix) = some (.slice (some ad3) nn ci) := k1
                have d2 : wr.drew.cell? (ad3.add j) = some (.int .i64 x) := k2
                have d3 : wr.drew.cell? ⟨w.heap.size, 2, none⟩ = some (.slice (some ad2) cs.length c2) := k3
                have d4 : wr.drew.cell? ⟨w1.heap.size, j, none⟩ = some (.slice (some ⟨g, 0, none⟩) l.length cg) := hcell
                have d5 : wr.drew.cell? ⟨g, k, none⟩ = some (.int .i64 u0) := hgc
                have d6 : wr.drew.frozen? ⟨g, k, none⟩ = false := hgf
                have hixi : (ix : Int) < (cs.length : Int) := by omega
                have hjni : (j : Int) < (nn : Int) := by omega
                have hkli : (k : Int) < (l.length : Int) := by omega
                go_upto_region 17 with fail
                refine wp_still_tail 14 (by kernel_rfl) (by kernel_rfl) ?_
                simp only [List.take_succ_cons, List.take_zero, List.drop_succ_cons, List.drop_zero]
                repeat still_step
                refine wpStill_nil ?_
                go_wp2
                go_roundw
                case rel => exact ⟨k + 1, by omega, by go_num, HSt.out.drew, (below_put (B := w1.heap.size) (g := g) hb3 hgb).drew⟩
                case measure => simp [intOf]; omega
              · have hkq : k = l.length := by omega
                subst hkq
                rw [HKf.out j hjn] at hown3
                have HOk := Lib.hid hown3
                clear hown3
                go_wp2
                go_roundw
                case rel => exact ⟨j + 1, by omega, by go_num, HOk.out, hb3⟩
                case measure => simp [intOf]; omega
          · have hjl : j = nn := by omega
            subst hjl
            rw [HJf.out] at hown
            have b0r := bb.trans (hbr.mono bb.size)
            have kpr := kp.below hbr hkp
            have kzr := kz.below hbr hkz
            obtain ⟨z0, z1, z2, z3, f0, f1, f2, f3⟩ := kzr.four
            have p0 := kpr.cell 0
            have HOk := Lib.hid hown
            clear hown
            go_wp2
            refine bodyPost_ret (v := .tuple #[.agg #[.int .i64 a, .int .i64 b, .int .i64 d, .slice (some ⟨w1.heap.size, 0, none⟩) j j], .int .i64 0]) (by simp [results, Try.results22, go_sem, z0, z1, z2, z3]) rfl ?_
            refine ⟨some ⟨w1.heap.size, 0, none⟩, j, by rw [HLl.out], ?_, b0r |>.setCell (by simp) _ |>.setCell (by simp) _ |>.setCell (by simp) _ |>.setCell (by simp) _⟩
            exact rdOwn ((((HOk.out.far (by exact hkz) _).far (by exact hkz) _).far (by exact hkz) _).far (by exact hkz) _) (Below.refl _ _)
end Go.Proofs.Ytbbflddhbamjbaa
