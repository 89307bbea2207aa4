/- palette.Index. -/
import Derived.Test.YtbbflddhbamjbaaPlMay
import Derived.Test.YtbbflddhbamjbaaPlRMay
import Derived.Test.YtbbflddhbamjbaaPlOwn
set_option linter.unusedSimpArgs false
set_option linter.unusedVariables false
namespace Go.Proofs.Ytbbflddhbamjbaa
open Go.RowKit

def idxOk (q : Pc) (P : Pal) : Bool := palB P && isB q && decide (P.d = q.d) && decide (P.n = q.p.length)
def idxB (q : Pc) (P : Pal) : Bool := idxOk q P && (List.range (q.w * q.h).toNat).all fun i => decide (colAt q.p i ∈ P.c)
def idxL (q : Pc) (P : Pal) : List Int := if idxB q P = true then (List.range (q.w * q.h).toNat).map fun i => findI P.c (colAt q.p i) else []
theorem idx_no {q : Pc} {P : Pal} (h : idxOk q P = false) : idxB q P = false ∧ idxL q P = [] := by
  have e : idxB q P = false := by rw [idxB, h, Bool.false_and]
  exact ⟨e, by rw [idxL, e]; rfl⟩
theorem idx_out {q : Pc} {P : Pal} {i : Nat} (hi : i < (q.w * q.h).toNat) (h : colAt q.p i ∉ P.c) : idxB q P = false ∧ idxL q P = [] := by
  have e : idxB q P = false := by
    rw [idxB, Bool.and_eq_false_iff]
    right
    rw [List.all_eq_false]
    exact ⟨i, List.mem_range.2 hi, by rw [decide_eq_false h]; simp⟩
  exact ⟨e, by rw [idxL, e]; rfl⟩
theorem idx_yes {q : Pc} {P : Pal} (h : idxOk q P = true) (h2 : ∀ i, i < (q.w * q.h).toNat → colAt q.p i ∈ P.c) : idxB q P = true ∧ idxL q P = (List.range (q.w * q.h).toNat).map fun i => findI P.c (colAt q.p i) := by
  have e : idxB q P = true := by
    rw [idxB, h, Bool.true_and, List.all_eq_true]
    exact fun i hi => decide_eq_true (h2 i (List.mem_range.1 hi))
  exact ⟨e, by rw [idxL, if_pos e]⟩
/-- the first i numbers written -/
def preL (f : Nat → Int) (m i : Nat) : List Int := (List.range m).map fun j => if j < i then f j else 0
theorem preL_len (f : Nat → Int) (m i : Nat) : (preL f m i).length = m := by simp [preL]
theorem preL_zero (f : Nat → Int) (m : Nat) : preL f m 0 = List.replicate m 0 := by
  refine List.ext_getElem (by simp [preL]) fun j h1 h2 => ?_
  simp [preL]
theorem preL_set {f : Nat → Int} {m i : Nat} : (preL f m i).set i (f i) = preL f m (i + 1) := by
  refine List.ext_getElem (by simp [preL]) fun j h1 h2 => ?_
  simp only [preL, List.getElem_set, List.getElem_map, List.getElem_range]
  by_cases hj : i = j
  · subst hj; rw [if_pos rfl, if_pos (by omega)]
  · rw [if_neg hj]
    by_cases h3 : j < i
    · rw [if_pos h3, if_pos (by omega)]
    · rw [if_neg h3, if_neg (by omega)]
theorem preL_full {f : Nat → Int} {m : Nat} : preL f m m = (List.range m).map f := List.map_congr_left fun j hj => by rw [if_pos (List.mem_range.1 hj)]
/-- the places by key -/
def plcT (c : List (List Int)) (i : Nat) : List (List Int × Value) := (List.range i).map fun j => (keyC (c.getD j []), .int .i64 (j : Int))
theorem plcT_succ (c : List (List Int)) (i : Nat) : plcT c (i + 1) = plcT c i ++ [(keyC (c.getD i []), .int .i64 (i : Int))] := by
  rw [plcT, plcT, List.range_succ, List.map_append]; rfl
theorem rows_of {P : Pal} (h : palB P = true) : (∀ r ∈ P.c, ((r.length : Nat) : Int) = P.n ∧ ∀ x ∈ r, okV P.d x = true) ∧ P.c.Nodup := by
  rw [palB_iff] at h
  refine ⟨fun r hr => ?_, ?_⟩
  · obtain ⟨i, hi, rfl⟩ := List.getElem_of_mem hr
    have h1 := rowOk_all (h.2 i hi)
    rw [getDL hi] at h1
    exact ⟨h1.1, h1.2.1⟩
  · rw [List.nodup_iff_pairwise_ne, List.pairwise_iff_getElem]
    intro i j hi hj hij e
    have h1 := (rowOk_all (h.2 j hj)).2.2
    rw [getDL hj, ← e] at h1
    exact h1 (List.mem_iff_getElem.2 ⟨i, by rw [List.length_take]; omega, List.getElem_take⟩)
theorem plc_is {c : List (List Int)} {n : Nat} (hn : n ≤ 4) (hc : ∀ r ∈ c, r.length = n) (hd : c.Nodup) {r : List Int} (hr : r.length = n) : mget (plcT c c.length) (keyC r) = if r ∈ c then some (.int .i64 (findI c r)) else none := by
  have hnd : ((plcT c c.length).map (·.1)).Nodup := by
    rw [plcT, List.map_map, List.nodup_iff_pairwise_ne, List.pairwise_map]
    refine List.Pairwise.imp_of_mem ?_ (List.nodup_iff_pairwise_ne.1 List.nodup_range)
    intro a b ha hb hab e
    rw [List.mem_range] at ha hb
    simp only [Function.comp] at e
    rw [getDL ha, getDL hb] at e
    have := keyC_inj hn (hc _ (List.getElem_mem ha)) (hc _ (List.getElem_mem hb)) e
    exact hab ((List.getElem_inj hd).1 this)
  by_cases h : r ∈ c
  · rw [if_pos h]
    obtain ⟨i, hi, rfl⟩ := List.getElem_of_mem h
    have hf : findI c c[i] = i := findI_at hi (getDL hi) (fun h9 => by
      obtain ⟨j, hj, e⟩ := List.mem_iff_getElem.1 h9
      rw [List.length_take] at hj
      rw [List.getElem_take] at e
      have := (List.getElem_inj hd).1 e
      omega)
    rw [hf]
    have hm : ((keyC c[i], Value.int .i64 (i : Int)) : List Int × Value) ∈ plcT c c.length := List.mem_map.2 ⟨i, List.mem_range.2 hi, by rw [getDL hi]⟩
    exact mget_some hnd hm
  · rw [if_neg h, mget_none]
    intro p hp e
    obtain ⟨j, hj, rfl⟩ := List.mem_map.1 hp
    rw [List.mem_range] at hj
    simp only at e
    rw [getDL hj] at e
    have := keyC_inj hn (hc _ (List.getElem_mem hj)) hr e
    exact h (this ▸ List.getElem_mem hj)
theorem plc_new {c : List (List Int)} {n i : Nat} (hn : n ≤ 4) (hc : ∀ r ∈ c, r.length = n) (hd : c.Nodup) (hi : i < c.length) : ∀ p ∈ plcT c i, p.1 ≠ keyC (c.getD i []) := fun p hp e => by
  obtain ⟨j, hj, rfl⟩ := List.mem_map.1 hp
  rw [List.mem_range] at hj
  simp only at e
  rw [getDL (by omega), getDL hi] at e
  have := keyC_inj hn (hc _ (List.getElem_mem (by omega))) (hc _ (List.getElem_mem hi)) e
  have := (List.getElem_inj hd).1 this
  omega
theorem map_ci : Try.prog.underlying 79 = some (.map 70 3) := Try.underlying79
theorem zero_i (W : World) : (zeroValue 3).run Try.prog W = .ok (.int .i64 0) W := Try.zeroValue3 W
def IdxPost (w : World) (L : List Int) (b : Bool) (e : Ending) (w' : World) : Prop :=
  ∃ A' c', e = .returned (.tuple #[.slice A' L.length c', .bool b]) ∧ L.length ≤ c' ∧ RdI w' w'.heap.size .i64 A' L ∧ Below w.heap.size w w'
theorem IdxPost.none_ {w w' : World} {e : Ending} (h : e = .returned (.tuple #[.slice none 0 0, .bool false])) (hb : Below w.heap.size w w') : IdxPost w [] false e w' := ⟨none, 0, h, Nat.le_refl _, RdI.nil_, hb⟩

set_option maxHeartbeats 4000000 in
set_option maxRecDepth 100000 in
theorem index_head {q : Pc} {A A2 : Option Addr} {c c2 : Nat} {P : Pal} {w : World} {B : Nat} (hr : RdLL w B .i64 A q.p) (hr2 : RdLL w B .i64 A2 P.c) (hB : B ≤ w.heap.size) (h : idxOk q P = false) :
    Calls Try.prog 21 #[picV q A c, palV P A2 c2] w (IdxPost w [] false) := by
  have HMy := fun W (hb : Below w.heap.size w W) => may_any (c := c2) (hr2.below hb hB) (Nat.le_trans hB hb.size)
  have HIs := fun W (hb : Below w.heap.size w W) => is_any (c := c) (hr.below hb hB) (Nat.le_trans hB hb.size)
  have HB0 := Lib.hid (show Below w.heap.size w ((w.alloc (.cells #[.int .i64 q.w, .int .i64 q.h, .int .i64 q.d, .slice A q.p.length c] 30)).alloc (.cells #[.int .i64 P.d, .int .i64 P.n, .slice A2 P.c.length c2] 25)) from below_alloc (below_alloc (Below.refl _ _) _) _)
  have HPic := Lib.hid (show Blk ((w.alloc (.cells #[.int .i64 q.w, .int .i64 q.h, .int .i64 q.d, .slice A q.p.length c] 30)).alloc (.cells #[.int .i64 P.d, .int .i64 P.n, .slice A2 P.c.length c2] 25)) w.heap.size 30 #[.int .i64 q.w, .int .i64 q.h, .int .i64 q.d, .slice A q.p.length c] from (Blk.new w _ _).alloc _)
  have HPal := Lib.hid (show Blk ((w.alloc (.cells #[.int .i64 q.w, .int .i64 q.h, .int .i64 q.d, .slice A q.p.length c] 30)).alloc (.cells #[.int .i64 P.d, .int .i64 P.n, .slice A2 P.c.length c2] 25)) (w.heap.size + 1) 25 #[.int .i64 P.d, .int .i64 P.n, .slice A2 P.c.length c2] from Blk.new1 w _ _ _)
  have hw : palV P A2 c2 = .agg #[.int .i64 P.d, .int .i64 P.n, .slice A2 P.c.length c2] := rfl
  have hw2 : picV q A c = .agg #[.int .i64 q.w, .int .i64 q.h, .int .i64 q.d, .slice A q.p.length c] := rfl
  rw [hw] at HMy ⊢
  rw [hw2]
  cases hp : palB P with
  | false =>
    simp only [hp] at HMy
    have HMy := Lib.hid HMy
    clear h hp hw hw2 HIs HPic HPal
    go_enter Try.func21, Try.ntmps21
    go_wp2_with (first
      | (go_at_call 37; (with_reducible refine (HMy.out _ (by repeat (first | exact Below.refl _ _ | assumption | refine Below.drew ?_ | refine below_drewN ?_ _ | refine below_alloc ?_ _))).mono ?_); rintro e w1 ⟨rfl, hb1⟩))
    go_ret2
    exact IdxPost.none_ rfl (below_then HB0.out hb1)
  | true =>
    simp only [hp] at HMy
    have HMy := Lib.hid HMy
    cases hq : isB q with
    | false =>
      simp only [hq] at HIs
      have HIs := Lib.hid HIs
      clear h hp hq hw hw2 HPal
      go_enter Try.func21, Try.ntmps21
      go_wp2_with (first
        | (go_at_call 37; (with_reducible refine (HMy.out _ HB0.out).mono ?_); rintro e w1 ⟨rfl, hb1⟩; have kq := HPic.out.below hb1 (by simp; omega); obtain ⟨x0, x1, x2, x3, _⟩ := kq.four)
        | (go_at_call 44; (with_reducible refine (HIs.out _ (below_then HB0.out hb1)).mono ?_); rintro e w2 ⟨rfl, hb2⟩))
      go_ret2
      exact IdxPost.none_ rfl (below_then (below_then HB0.out hb1) hb2)
    | true =>
      simp only [hq] at HIs
      have HIs := Lib.hid HIs
      rw [idxOk, hp, hq, Bool.true_and, Bool.true_and, Bool.and_eq_false_iff, decide_eq_false_iff_not, decide_eq_false_iff_not] at h
      have hcase : ¬ P.d = q.d ∨ (P.d = q.d ∧ ¬ P.n = q.p.length) := by omega
      clear h hp hq hw hw2
      have HC := Lib.hid hcase
      clear hcase
      rcases HC.out with h1 | ⟨h1, h2⟩
      · have t1 : (P.d != q.d) = true := by simpa using h1
        clear h1
        go_enter Try.func21, Try.ntmps21
        go_wp2_with (first
          | (go_at_call 37; (with_reducible refine (HMy.out _ HB0.out).mono ?_); rintro e w1 ⟨rfl, hb1⟩; have kq := HPic.out.below hb1 (by simp; omega); obtain ⟨x0, x1, x2, x3, _⟩ := kq.four)
          | (go_at_call 44; (with_reducible refine (HIs.out _ (below_then HB0.out hb1)).mono ?_); rintro e w2 ⟨rfl, hb2⟩; have kq2 := kq.below hb2 kq.lt; clear x0 x1 x2 x3; obtain ⟨x0, x1, x2, x3, _⟩ := kq2.four; have kp2 := (HPal.out.below hb1 (by simp)).below hb2 (HPal.out.below hb1 (by simp)).lt; have y0 := kp2.cell 0; have y1 := kp2.cell 1))
        go_ret2
        exact IdxPost.none_ rfl (below_then (below_then HB0.out hb1) hb2)
      · have t1 : (P.d != q.d) = false := by rw [h1]; simp
        have t2 : (P.n != (q.p.length : Int)) = true := by simpa using h2
        clear h1 h2
        go_enter Try.func21, Try.ntmps21
        go_wp2_with (first
          | (go_at_call 37; (with_reducible refine (HMy.out _ HB0.out).mono ?_); rintro e w1 ⟨rfl, hb1⟩; have kq := HPic.out.below hb1 (by simp; omega); obtain ⟨x0, x1, x2, x3, _⟩ := kq.four)
          | (go_at_call 44; (with_reducible refine (HIs.out _ (below_then HB0.out hb1)).mono ?_); rintro e w2 ⟨rfl, hb2⟩; have kq2 := kq.below hb2 kq.lt; clear x0 x1 x2 x3; obtain ⟨x0, x1, x2, x3, _⟩ := kq2.four; have kp2 := (HPal.out.below hb1 (by simp)).below hb2 (HPal.out.below hb1 (by simp)).lt; have y0 := kp2.cell 0; have y1 := kp2.cell 1))
        go_ret2
        exact IdxPost.none_ rfl (below_then (below_then HB0.out hb1) hb2)

set_option maxHeartbeats 8000000 in
set_option maxRecDepth 100000 in
theorem index_any {q : Pc} {A A2 : Option Addr} {c c2 : Nat} {P : Pal} {w : World} {B : Nat} (hr : RdLL w B .i64 A q.p) (hr2 : RdLL w B .i64 A2 P.c) (hB : B ≤ w.heap.size) :
    Calls Try.prog 21 #[picV q A c, palV P A2 c2] w (IdxPost w (idxL q P) (idxB q P)) := by
  cases hok : idxOk q P with
  | false =>
    rw [(idx_no hok).1, (idx_no hok).2]
    exact index_head hr hr2 hB hok
  | true =>
    have hok' := hok
    simp only [idxOk, Bool.and_eq_true, decide_eq_true_eq] at hok'
    obtain ⟨⟨⟨hp, hq⟩, hd⟩, hn⟩ := hok'
    have HO := Lib.hid (fun i hi h2 => idx_out (q := q) (P := P) (i := i) hi h2)
    have HY := Lib.hid (fun h2 => idx_yes hok h2)
    obtain ⟨hrw, hnd⟩ := rows_of hp
    have hpb := hp
    rw [palB_iff] at hpb
    have hhd := hpb.1
    simp only [headB, decide_eq_true_eq] at hhd
    obtain ⟨s1, s2, s3, s4, s5⟩ := isB_sum hq
    obtain ⟨nn, hnn⟩ := Int.eq_ofNat_of_zero_le (show 0 ≤ P.n by omega)
    obtain ⟨m1, m2⟩ := mul_64 s1 s2
    obtain ⟨m, hm⟩ : ∃ m : Nat, q.w * q.h = m := ⟨(q.w * q.h).toNat, by omega⟩
    have hplen : q.p.length = nn := by omega
    have HRl := Lib.hid (show ∀ r ∈ P.c, r.length = nn from fun r hr => by have := (hrw r hr).1; omega)
    have HRc := Lib.hid (show ∀ r ∈ P.c, Col (keyC r) from fun r hr => keyC_col fun x hx => okV_c64 hhd.2.1 ((hrw r hr).2 x hx))
    have HNd := Lib.hid hnd
    have HPl := Lib.hid (show ∀ l ∈ q.p, l.length = m from fun l hl => by have := (s5 l hl).2.1; omega)
    have HCc := Lib.hid (show ∀ i, Col (keyC (colAt q.p i)) from fun i => keyC_col fun x hx => by
      obtain ⟨l, hl, rfl⟩ := List.mem_map.1 hx
      rw [List.getD_eq_getElem?_getD]
      cases h9 : l[i]? with
      | none => exact ⟨by simp, by simp⟩
      | some y =>
        have := (s5 l hl).2.2 y (List.mem_of_getElem? h9)
        simp only [Option.getD_some]
        exact ⟨by omega, by omega⟩)
    have HCl := Lib.hid (show ∀ i, (colAt q.p i).length = nn from fun i => by simp [colAt, hplen])
    have HIs := fun W (hb : Below w.heap.size w W) => is_any (c := c) (hr.below hb hB) (Nat.le_trans hB hb.size)
    have HMy := fun W (hb : Below w.heap.size w W) => may_any (c := c2) (hr2.below hb hB) (Nat.le_trans hB hb.size)
    simp only [hp] at HMy
    simp only [hq] at HIs
    have HPt := fun i (hi : i < m) W (hb : Below w.heap.size w W) => point_any (W := q.w) (H := q.h) (D := q.d) (c := c) (i := i) (hr.below hb hB) (Nat.le_trans hB hb.size) (by omega) (fun l hl => by rw [HPl.out l hl]; exact hi)
    replace HMy := Lib.hid HMy
    replace HIs := Lib.hid HIs
    clear hok hp hq hpb hrw hnd s5
    rw [hm, Int.toNat_natCast] at HO HY
    have hm4 : m ≤ 4096 ∧ 1 ≤ m := by omega
    generalize idxL q P = L at *
    generalize idxB q P = BB at *
    obtain ⟨qw, qh, qd, qp⟩ := q
    obtain ⟨d, n, cs⟩ := P
    simp only [palV, picV] at *
    subst hnn hd
    have hwr : IntKind.i64.wrap (qw * qh) = (m : Int) := by rw [hm]; exact IntWalk.i64_in _ (by omega)
    have t1 : (d != d) = false := by simp
    have t2 : ((nn : Int) != (nn : Int)) = false := by simp
    rw [hplen] at HIs HPt ⊢
    replace HPt := Lib.hid HPt
    have hmk := fun W => run_makeMap (P := Try.prog) 79 W
    have HPlc := Lib.hid (fun (r : List Int) (hr : r.length = nn) => plc_is (c := cs) (by omega) HRl.out HNd.out hr)
    have HNew := Lib.hid (fun i (hi : i < cs.length) => plc_new (c := cs) (i := i) (by omega) HRl.out HNd.out hi)
    clear hm m1 m2 hn hplen
    go_enter Try.func21, Try.ntmps21
    go_upto_region 4 with (first
      | (go_at_call 37; (with_reducible refine (HMy.out _ (by repeat (first | exact Below.refl _ _ | assumption | refine Below.drew ?_ | refine below_drewN ?_ _ | refine below_alloc ?_ _))).mono ?_); rintro e w1 ⟨rfl, hb1⟩; have kq := ((Blk.new w 30 #[.int .i64 qw, .int .i64 qh, .int .i64 d, .slice A nn c]).alloc (.cells #[.int .i64 d, .int .i64 (nn : Int), .slice A2 cs.length c2] 25)).below hb1 (by simp; omega); have kp := (Blk.new1 w (.cells #[.int .i64 qw, .int .i64 qh, .int .i64 d, .slice A nn c] 30) 25 #[.int .i64 d, .int .i64 (nn : Int), .slice A2 cs.length c2]).below hb1 (by simp); have bb := below_then (below_alloc (below_alloc (Below.refl w.heap.size w) _) _) hb1; clear hb1; obtain ⟨x0, x1, x2, x3, _⟩ := kq.four)
      | (go_at_call 44; (with_reducible refine (HIs.out _ bb).mono ?_); rintro e w2 ⟨rfl, hb2⟩; have kq2 := kq.below hb2 kq.lt; clear x0 x1 x2 x3; obtain ⟨x0, x1, x2, x3, _⟩ := kq2.four; have kp2 := kp.below hb2 kp.lt; have y0 := kp2.cell 0; have y1 := kp2.cell 1; have y2 := kp2.cell 2; have bb2 := below_then bb hb2))
    clear x0 x1 x2 x3 y0 y1 y2 kq kp hb2 bb HMy HIs
    have kq3 := kq2.alloc (.map #[] 0)
    have kp3 := kp2.alloc (.map #[] 0)
    have bb3 := below_alloc bb2 (.map #[] 0)
    have hm3 := MapC.made w2
    have hmb := kp2.lt
    have hs2 : (w2.alloc (.map #[] 0)).heap.size = w2.heap.size + 1 := by simp
    have b23 := below_alloc (Below.refl w2.heap.size w2) (.map #[] 0)
    generalize w2.alloc (.map #[] 0) = w3 at *
    have y2 := kp3.cell 2
    clear hmk
    have hk3l := kp3.lt
    have hq3l := kq3.lt
    go_wp2
    go_loopw [40] (fun iv wr => ∃ j : Nat, j ≤ cs.length ∧ iv = .int .i64 j ∧ MapC wr w2.heap.size (plcT cs j) ∧ Below w2.heap.size w2 wr) (fun iv _ => cs.length - (intOf iv).toNat)
    case atStart => exact ⟨0, Nat.zero_le _, rfl, hm3, b23⟩
    case round =>
      obtain ⟨j, hj, rfl, hmr, hbr⟩ := hrel
      have HM := Lib.hid hmr
      have hml := hmr.lt
      have hszr := hbr.size
      clear hmr
      by_cases hlt : j < cs.length
      · obtain ⟨ad, Aj, cj, rfl, hadB, hcell, hcj, hrj⟩ := (hr2.below (bb2.trans (hbr.mono bb2.size)) hB) j hlt
        have hmem : cs.getD j [] ∈ cs := mem_getD hlt
        have HCol := Lib.hid (HRc.out _ hmem)
        have hlen := HRl.out _ hmem
        have HN := Lib.hid (HNew.out j hlt)
        have HT := Lib.hid (plcT_succ cs j)
        have hBr : B ≤ wr.heap.size := Nat.le_trans hB (Nat.le_trans bb2.size hszr)
        have HKy := Lib.hid (keyof_any (c := cj) hrj hBr (by omega) (by omega))
        clear hmem
        generalize cs.getD j [] = r at *
        subst hlen
        go_wp2_with (first
          | (go_at_call 53; (with_reducible refine HKy.out.mono ?_); rintro e w4 ⟨rfl, hb4⟩)
          | (at_mapUpdate; (refine wpList_put_c rfl map_ci (.tmp 45) (.tmp 47) (.tmp 48) rfl (b := w2.heap.size) (l := plcT cs j) rfl (keyC r) rfl (.int .i64 (j : Int)) rfl (HM.out.below hb4 hml) HCol.out HN.out ?_); intro w5 hm5 hg5))
        go_roundw
        case rel => exact ⟨j + 1, by omega, by go_num, by rw [HT.out]; exact hm5, below_only (hbr.trans (hb4.mono hszr)) hg5 (Nat.le_trans hszr hb4.size) (Nat.le_refl _)⟩
        case measure => simp [intOf]; omega
      · have hjl : j = cs.length := by omega
        subst hjl
        have bbr := bb2.trans (hbr.mono bb2.size)
        have kqr := kq2.below hbr kq2.lt
        obtain ⟨x0, x1, x2, x3, _⟩ := kqr.four
        have hmi := fun W => run_make_ints (P := Try.prog) W 22 Try.underlying22 info_int (by omega) .i64 m m (Nat.le_refl _) (by omega)
        go_upto_region 10 with fail
        have how := OwnI.made (e := 3) (k := .i64) wr (Nat.le_refl _) (n := m) (by omega)
        have bw := below_alloc (Below.refl wr.heap.size wr) (.cells (Array.replicate m (.int .i64 0)) 3)
        rw [List.length_replicate, ← preL_zero (fun i => findI cs (colAt qp i)) m] at how
        have hbc := hbr.trans (bw.mono hszr)
        have HMc := Lib.hid (HM.out.below bw hml)
        obtain ⟨gl, hgl⟩ : ∃ gl, gl = wr.heap.size := ⟨_, rfl⟩
        rw [← hgl] at how ⊢
        have hglb : w2.heap.size ≤ gl ∧ w2.heap.size < gl := by omega
        generalize wr.alloc (.cells (Array.replicate m (.int .i64 0)) 3) = wc at *
        clear hmi x0 x1 x2 x3 HM hgl bw hbr
        have kqc := kq2.below hbc kq2.lt
        have hf := Lib.hid (show ∀ i, (fun i => findI cs (colAt qp i)) i = findI cs (colAt qp i) from fun _ => rfl)
        generalize (fun i => findI cs (colAt qp i)) = f at *
        go_wp2
        obtain ⟨wo, rfl⟩ : ∃ wo : World, wo = wr := ⟨_, rfl⟩
        go_loopw [58] (fun iv wr => ∃ i : Nat, i ≤ m ∧ iv = .int .i64 i ∧ (∀ k, k < i → colAt qp k ∈ cs) ∧ OwnI wr gl 3 .i64 (.slice (some ⟨gl, 0, none⟩) m m) (preL f m i) ∧ Below gl wc wr ∧ gl < wr.heap.size) (fun iv _ => m - (intOf iv).toNat)
        case atStart => exact ⟨0, Nat.zero_le _, rfl, fun k hk => absurd hk (by omega), how, Below.refl _ _, (World.ownsRow.lt how gl rfl).2⟩
        case round =>
          obtain ⟨i, hi, rfl, hin, hown, hbr, hgs⟩ := hrel
          have HOw := Lib.hid hown
          have HIn := Lib.hid hin
          clear hin hown
          have kqr := kqc.below hbr (by have := kq2.lt; omega)
          obtain ⟨x0, x1, x2, x3, _⟩ := kqr.four
          have b0r := bb2.trans ((hbc.trans (hbr.mono (by omega))).mono bb2.size)
          by_cases hlt : i < m
          · have HPi := Lib.hid (HPt.out i hlt wr b0r)
            have hmr := HMc.out.below hbr (by omega)
            have hml2 := hmr.lt
            have HLk := fun W (h : Below wr.heap.size wr W) => hmr.look2 map_ci zero_i (HCc.out i) W (h.block _ hml2)
            rw [HPlc.out (colAt qp i) (HCl.out i)] at HLk
            have HOi := Lib.hid (HO.out i hlt)
            have hfi := Lib.hid (hf.out i)
            by_cases hmem : colAt qp i ∈ cs
            · rw [if_pos hmem, ← hfi.out] at HLk
              simp only [Option.getD_some, Option.isSome_some] at HLk
              replace HLk := Lib.hid HLk
              have HMe := Lib.hid hmem
              clear hmr hmem
              generalize hcv : keyC (colAt qp i) = kc at *
              clear hcv
              go_upto_region 14 with (first
                | (go_at_call 45; (with_reducible refine HPi.out.mono ?_); rintro e w4 ⟨rfl, hb4⟩; have hlk := HLk.out _ hb4))
              have how4 := HOw.out.below hb4
              obtain ⟨g', c', hv, hgb, hgl4, hcc, hcl, hfr, hset⟩ := how4.row (by rw [preL_len]; omega)
              rw [preL_len] at hv hcl
              simp only [Value.slice.injEq, Option.some.injEq, Addr.mk.injEq, and_true, true_and] at hv
              obtain ⟨rfl, rfl⟩ := hv
              have z0 := hcl i hlt
              have z1 := hfr i
              have hst := hset i (f i)
              rw [preL_set] at hst
              have HSt := Lib.hid hst
              have hbw := hbr.trans (hb4.mono (Nat.le_of_lt hgs))
              have hs4 := hb4.size
              clear hst hset hcl hfr how4 hlk hcc hfi
              generalize (preL f m i).getD i 0 = u0 at *
              generalize f i = fi at *
              have hlti : (i : Int) < (m : Int) := by omega
              go_wp2
              go_roundw
              case rel =>
                exact ⟨i + 1, by omega, by go_num, fun k hk => by
                      rcases Nat.lt_succ_iff_lt_or_eq.1 hk with h | h
                      · exact HIn.out k h
                      · rw [h]; exact HMe.out, HSt.out, below_put (g := gl) hbw (Nat.le_refl _), by simp; omega⟩
              case measure => simp [intOf]; omega
            · rw [if_neg hmem] at HLk
              simp only [Option.getD_none, Option.isSome_none] at HLk
              replace HLk := Lib.hid HLk
              obtain ⟨hB, hL⟩ := HOi.out hmem
              subst hB hL
              clear hmr hmem hfi
              generalize hcv : keyC (colAt qp i) = kc at *
              clear hcv
              go_wp2_with (first
                | (go_at_call 45; (with_reducible refine HPi.out.mono ?_); rintro e w4 ⟨rfl, hb4⟩; have hlk := HLk.out _ hb4))
              go_ret2
              exact IdxPost.none_ rfl (below_then b0r hb4)
          · have him : i = m := by omega
            subst him
            obtain ⟨hB, hL⟩ := HY.out (fun k hk => HIn.out k hk)
            have hLl : L.length = i := by rw [hL]; simp
            have hLe : L = preL f i i := by rw [hL, preL_full]
            subst hB
            have HRd := Lib.hid (show RdI wr wr.heap.size .i64 (some ⟨gl, 0, none⟩) L by
              have h := HOw.out
              rw [← hLe] at h
              obtain ⟨A9, c9, hv, _, h9, _⟩ := h.form
              simp only [Value.slice.injEq] at hv
              rw [hv.1]; exact h9)
            have HLe := Lib.hid hLl
            clear hL hLe hLl HOw
            go_wp2
            go_ret2
            exact ⟨some ⟨gl, 0, none⟩, i, by rw [HLe.out]; rfl, by rw [HLe.out]; exact Nat.le_refl _, HRd.out, b0r⟩
end Go.Proofs.Ytbbflddhbamjbaa
