/- palette.Ranked. -/
import Derived.Test.YtbbflddhbamjbaaPlIdx
import Derived.Test.YtbbflddhbamjbaaPlStb
import Derived.Test.YtbbflddhbamjbaaPlSort
import Derived.Test.YtbbflddhbamjbaaPicClone
import Derived.Test.YtbbflddhbamjbaaLb
set_option linter.unusedSimpArgs false
set_option linter.unusedVariables false
namespace Go.Proofs.Ytbbflddhbamjbaa
open Go.RowKit

/-- how often each number below n is there -/
def cntL (l : List Int) (n : Nat) : List Int := (List.range n).map fun i : Nat => ((l.count (i : Int) : Nat) : Int)
theorem cntL_len (l : List Int) (n : Nat) : (cntL l n).length = n := by simp [cntL]
theorem cntL_get {l : List Int} {n i : Nat} (h : i < n) : (cntL l n).getD i 0 = ((l.count (i : Int) : Nat) : Int) := by
  rw [List.getD_eq_getElem?_getD, List.getElem?_eq_getElem (by rw [cntL_len]; exact h)]
  simp [cntL]
theorem cntL_bd {l : List Int} {n : Nat} (h : l.length ≤ 1000000000) : ∀ x ∈ cntL l n, 0 ≤ x ∧ x ≤ 1000000000 := fun x hx => by
  obtain ⟨i, _, rfl⟩ := List.mem_map.1 hx
  have := List.count_le_length (a := (i : Int)) (l := l)
  omega
theorem cntL_nil (n : Nat) : cntL [] n = List.replicate n 0 := by
  refine List.ext_getElem (by simp [cntL]) fun j h1 h2 => ?_
  simp [cntL]
theorem cntL_step {l : List Int} {n j i : Nat} (hj : j < l.length) (hi : l.getD j 0 = (i : Int)) (hin : i < n) : (cntL (l.take j) n).set i ((cntL (l.take j) n).getD i 0 + 1) = cntL (l.take (j + 1)) n := by
  have e : l[j] = (i : Int) := by rw [← hi, List.getD_eq_getElem?_getD, List.getElem?_eq_getElem hj]; rfl
  rw [cntL_get hin]
  refine List.ext_getElem (by simp [cntL]) fun k h1 h2 => ?_
  rw [cntL_len] at h2
  rw [List.getElem_set]
  simp only [cntL, List.getElem_map, List.getElem_range]
  rw [List.take_succ_eq_append_getElem hj, List.count_append, e]
  by_cases hik : i = k
  · subst hik
    rw [if_pos rfl]
    simp
  · rw [if_neg hik]
    have : List.count (k : Int) [(i : Int)] = 0 := List.count_eq_zero.2 (by simp; omega)
    rw [this]
    simp
/-- what Ranked answers -/
def RankIs (q : Pc) (P : Pal) (Q : Pal) (b : Bool) : Prop :=
  b = idxB q P ∧ if idxB q P = true then Q.d = P.d ∧ Q.n = P.n ∧ ∃ (N : Nat) (os : List (SI N)), P.c.length = N + 1 ∧ Srt (ltC (cntL (idxL q P) (N + 1))) (List.finRange (N + 1)) os ∧ Srd (ltC (cntL (idxL q P) (N + 1))) os ∧ Q.c = os.map fun i => P.c.getD i.val [] else Q = palZ
def RankPost (w : World) (q : Pc) (P : Pal) (e : Ending) (w' : World) : Prop :=
  ∃ Q b A' c', e = .returned (.tuple #[palV Q A' c', .bool b]) ∧ RankIs q P Q b ∧ Q.c.length ≤ c' ∧ RdLL w' w'.heap.size .i64 A' Q.c ∧ Below w.heap.size w w'
theorem idxL_in {q : Pc} {P : Pal} : ∀ x ∈ idxL q P, ∃ i : Nat, x = i ∧ i < P.c.length := fun x hx => by
  unfold idxL at hx
  split at hx
  · rename_i hb
    obtain ⟨i, hi, rfl⟩ := List.mem_map.1 hx
    rw [idxB, Bool.and_eq_true, List.all_eq_true] at hb
    have hm := of_decide_eq_true (hb.2 i hi)
    rw [findI, if_pos hm]
    exact ⟨_, rfl, List.idxOf_lt_length_iff.2 hm⟩
  · cases hx
theorem idxL_len {q : Pc} {P : Pal} : (idxL q P).length ≤ 4096 := by
  unfold idxL
  split
  · rename_i hb
    rw [idxB, Bool.and_eq_true] at hb
    have h1 := hb.1
    simp only [idxOk, Bool.and_eq_true] at h1
    obtain ⟨s1, s2, _⟩ := isB_sum h1.1.1.2
    have := mul_64 s1 s2
    simp; omega
  · simp
theorem idx_pos {q : Pc} {P : Pal} (h : idxB q P = true) : 1 ≤ P.c.length := by
  rw [idxB, Bool.and_eq_true] at h
  have h1 := h.1
  simp only [idxOk, Bool.and_eq_true] at h1
  have h2 := (palB_iff.1 h1.1.1.1).1
  simp only [headB, decide_eq_true_eq] at h2
  omega
/-- the places in order, the first i written -/
theorem order_row (N : Nat) : (preL (fun i => (i : Int)) (N + 1) (N + 1)).map (Value.int .i64) = (List.finRange (N + 1)).map SI.v := by
  rw [preL_full]
  refine List.ext_getElem (by simp) fun j h1 h2 => ?_
  simp [SI.v]
/-- rows in their new order, the first i written -/
def preC (os : List (List Int)) (i : Nat) : List (List Int) := os.take i ++ List.replicate (os.length - i) []
theorem preC_zero (os : List (List Int)) : preC os 0 = List.replicate os.length [] := by simp [preC]
theorem preC_len {os : List (List Int)} {i : Nat} (h : i ≤ os.length) : (preC os i).length = os.length := by simp [preC]; omega
theorem preC_full (os : List (List Int)) : preC os os.length = os := by simp [preC]
theorem preC_set {os : List (List Int)} {i : Nat} (h : i < os.length) : (preC os i).set i (os.getD i []) = preC os (i + 1) := by
  have hl : (os.take i).length = i := by rw [List.length_take]; omega
  obtain ⟨m, hm⟩ : ∃ m, os.length - i = m + 1 := ⟨os.length - i - 1, by omega⟩
  rw [preC, preC, List.set_append, if_neg (by omega), hl, Nat.sub_self, hm, List.replicate_succ, List.set_cons_zero, List.take_succ_eq_append_getElem h, show os.length - (i + 1) = m by omega, getDL h, List.append_assoc]
  rfl

set_option maxHeartbeats 8000000 in
set_option maxRecDepth 100000 in
theorem ranked_any {q : Pc} {A A2 : Option Addr} {c c2 : Nat} {P : Pal} {w : World} {B : Nat} (hr : RdLL w B .i64 A q.p) (hr2 : RdLL w B .i64 A2 P.c) (hB : B ≤ w.heap.size) :
    Calls Try.prog 19 #[picV q A c, palV P A2 c2] w (RankPost w q P) := by
  have HIx := fun W (hb : Below w.heap.size w W) => index_any (c := c) (c2 := c2) (hr.below hb hB) (hr2.below hb hB) (Nat.le_trans hB hb.size)
  cases hib : idxB q P with
  | false =>
    have HNo := Lib.hid (show RankIs q P palZ false from ⟨hib.symm, by rw [hib]; rfl⟩)
    rw [hib] at HIx
    simp only [picV, palV] at HIx ⊢
    replace HIx := Lib.hid HIx
    generalize idxL q P = L at *
    have HZ := Lib.hid (show Blk (((w.alloc (.cells #[.int .i64 q.w, .int .i64 q.h, .int .i64 q.d, .slice A q.p.length c] 30)).alloc (.cells #[.int .i64 P.d, .int .i64 P.n, .slice A2 P.c.length c2] 25)).alloc (.cells #[.int .i64 0, .int .i64 0, .slice none 0 0] 25)) (w.heap.size + 1 + 1) 25 #[.int .i64 0, .int .i64 0, .slice none 0 0] from Blk.new2 w _ _ _ _)
    have HB0 := Lib.hid (show Below w.heap.size w (((w.alloc (.cells #[.int .i64 q.w, .int .i64 q.h, .int .i64 q.d, .slice A q.p.length c] 30)).alloc (.cells #[.int .i64 P.d, .int .i64 P.n, .slice A2 P.c.length c2] 25)).alloc (.cells #[.int .i64 0, .int .i64 0, .slice none 0 0] 25)) from below_alloc (below_alloc (below_alloc (Below.refl _ _) _) _) _)
    clear hib
    go_enter Try.func19, Try.ntmps19
    go_wp2_with (first
      | (go_at_call 21; (with_reducible refine (HIx.out _ HB0.out).mono ?_); rintro e w1 ⟨A6, c6, rfl, hc6, hr6, hb1⟩; have kz := HZ.out.below hb1 (by simp); have z0 := kz.cell 0; have z1 := kz.cell 1; have z2 := kz.cell 2; have f0 := kz.frozen 0; have f1 := kz.frozen 1; have f2 := kz.frozen 2))
    refine bodyPost_ret (v := .tuple #[.agg #[.int .i64 0, .int .i64 0, .slice none 0 0], .bool false]) (by simp [results, Try.results19, go_sem, z0, z1, z2]) rfl ?_
    exact ⟨palZ, false, none, 0, rfl, HNo.out, Nat.le_refl _, fun j hj => absurd hj (by simp [palZ]), below_then HB0.out hb1 |>.setCell (by simp; omega) _ |>.setCell (by simp; omega) _ |>.setCell (by simp; omega) _⟩
  | true =>
    obtain ⟨N, hN⟩ : ∃ N, P.c.length = N + 1 := ⟨P.c.length - 1, by have := idx_pos hib; omega⟩
    have hLl := idxL_len (q := q) (P := P)
    have HLi := Lib.hid (idxL_in (q := q) (P := P))
    have HYes := Lib.hid (show ∀ os : List (SI N), Srt (ltC (cntL (idxL q P) (N + 1))) (List.finRange (N + 1)) os → Srd (ltC (cntL (idxL q P) (N + 1))) os → RankIs q P ⟨P.d, P.n, os.map fun i => P.c.getD i.val []⟩ true from fun os h1 h2 => ⟨hib.symm, by rw [hib, if_pos rfl]; exact ⟨rfl, rfl, N, os, hN, h1, h2, rfl⟩⟩)
    rw [hib] at HIx
    have h20 : P.c.length ≤ 256 := by
      have h := hib
      rw [idxB, Bool.and_eq_true] at h
      have h1 := h.1
      simp only [idxOk, Bool.and_eq_true] at h1
      have h2 := (palB_iff.1 h1.1.1.1).1
      simp only [headB, decide_eq_true_eq] at h2
      omega
    have hrow : ∀ x ∈ P.c, x.length ≤ 4 := fun x hx => by
      have h := hib
      rw [idxB, Bool.and_eq_true] at h
      have h1 := h.1
      simp only [idxOk, Bool.and_eq_true] at h1
      have h2 := (palB_iff.1 h1.1.1.1).1
      simp only [headB, decide_eq_true_eq] at h2
      have h3 := ((rows_of h1.1.1.1).1 x hx).1
      omega
    have HRw := Lib.hid hrow
    clear hib hrow
    generalize idxL q P = L at *
    obtain ⟨qw, qh, qd, qp⟩ := q
    obtain ⟨d, n, cs⟩ := P
    simp only [picV, palV] at *
    obtain ⟨M, hM⟩ : ∃ M, N + 1 = M := ⟨_, rfl⟩
    rw [hM] at hN
    rw [hN] at HIx ⊢
    replace HIx := Lib.hid HIx
    have HNl := Lib.hid hN
    have HMl := Lib.hid hM
    have hM20 : M ≤ 256 ∧ 1 ≤ M := by omega
    clear hM
    have hmi := fun W => run_make_ints (P := Try.prog) W 22 Try.underlying22 info_int (by omega) .i64 M M (Nat.le_refl _) (by omega)
    have hmh := fun W => run_make_one (P := Try.prog) W 23 Try.underlying23 info_ints (z := .slice none 0 0) rfl (by omega) .i64 M (by omega)
    clear hN h20
    go_enter Try.func19, Try.ntmps19
    go_upto_region 4 with (first
      | (go_at_call 21; (with_reducible refine (HIx.out _ (by repeat (first | exact Below.refl _ _ | assumption | refine Below.drew ?_ | refine below_drewN ?_ _ | refine below_alloc ?_ _))).mono ?_); rintro e w1 ⟨A6, c6, rfl, hc6, hr6, hb1⟩))
    have kq := (((Blk.new w 30 #[.int .i64 qw, .int .i64 qh, .int .i64 qd, .slice A qp.length c]).alloc (.cells #[.int .i64 d, .int .i64 n, .slice A2 M c2] 25)).alloc (.cells #[.int .i64 0, .int .i64 0, .slice none 0 0] 25)).below hb1 (by simp; omega)
    have kp := ((Blk.new1 w (.cells #[.int .i64 qw, .int .i64 qh, .int .i64 qd, .slice A qp.length c] 30) 25 #[.int .i64 d, .int .i64 n, .slice A2 M c2]).alloc (.cells #[.int .i64 0, .int .i64 0, .slice none 0 0] 25)).below hb1 (by simp)
    have kz := (Blk.new2 w (.cells #[.int .i64 qw, .int .i64 qh, .int .i64 qd, .slice A qp.length c] 30) (.cells #[.int .i64 d, .int .i64 n, .slice A2 M c2] 25) 25 #[.int .i64 0, .int .i64 0, .slice none 0 0]).below hb1 (by simp)
    have bb := below_then (below_alloc (below_alloc (below_alloc (Below.refl w.heap.size w) _) _) _) hb1
    have hkp := kp.lt
    have hkz := kz.lt
    have p2 := kp.cell 2
    clear hb1 HIx kq
    have HR6 := Lib.hid (fun W (h : Below w1.heap.size w1 W) => hr6.below h (Nat.le_refl _))
    clear hr6
    go_upto_region 5 with fail
    have kg0 := (Blk.new w1 3 (Array.replicate M (.int .i64 0))).alloc (.cells #[.slice (some ⟨w1.heap.size, 0, none⟩) M M] 22)
    have kb0 := Blk.new1 w1 (.cells (Array.replicate M (.int .i64 0)) 3) 22 #[.slice (some ⟨w1.heap.size, 0, none⟩) M M]
    have b12 := below_alloc (below_alloc (Below.refl w1.heap.size w1) (.cells (Array.replicate M (.int .i64 0)) 3)) (.cells #[.slice (some ⟨w1.heap.size, 0, none⟩) M M] 22)
    rw [show Array.replicate M (Value.int .i64 0) = (ic .i64 (cntL [] M)).toArray by rw [cntL_nil]; simp [ic]] at kg0 b12 kb0 ⊢
    have hs12 : ((w1.alloc (.cells (ic .i64 (cntL [] M)).toArray 3)).alloc (.cells #[.slice (some ⟨w1.heap.size, 0, none⟩) M M] 22)).heap.size = w1.heap.size + 2 := by simp
    generalize (w1.alloc (.cells (ic .i64 (cntL [] M)).toArray 3)).alloc (.cells #[.slice (some ⟨w1.heap.size, 0, none⟩) M M] 22) = w2 at *
    have hs2 : w1.heap.size + 1 < w2.heap.size ∧ w2.heap.size ≤ w1.heap.size + 2 := by omega
    clear hs12
    have HLs := Lib.hid (fun j i (hj : j < L.length) (hi : L.getD j 0 = ((i : Nat) : Int)) (h : i < M) => cntL_step (n := M) hj hi h)
    have HLg := Lib.hid (show ∀ j, j < L.length → ∃ i : Nat, L.getD j 0 = i ∧ i < M from fun j hj => by
      have h1 : L[j] ∈ L := List.getElem_mem hj
      obtain ⟨i, e, hi⟩ := HLi.out _ h1
      rw [HNl.out] at hi
      exact ⟨i, by rw [List.getD_eq_getElem?_getD, List.getElem?_eq_getElem hj]; exact e, hi⟩)
    have HCl := Lib.hid (fun l => cntL_len l M)
    have hcb := Lib.hid (fun (j : Nat) => cntL_bd (l := L.take j) (n := M) (by rw [List.length_take]; omega))
    go_wp2
    go_loopw [31] (fun iv wr => ∃ j : Nat, j ≤ L.length ∧ iv = .int .i64 j ∧ Blk wr w1.heap.size 3 (ic .i64 (cntL (L.take j) M)).toArray ∧ Mod (· = w1.heap.size) w2 wr) (fun iv _ => L.length - (intOf iv).toNat)
    case atStart => exact ⟨0, Nat.zero_le _, rfl, by rw [List.take_zero]; exact kg0, Mod.refl _ _⟩
    case round =>
      obtain ⟨j, hj, rfl, hkg, hM⟩ := hrel
      have hbr : Below w1.heap.size w1 wr := b12.trans (hM.below (by omega) (fun b hb => by omega))
      have hkb := kb0.mod hM (by omega)
      have z0 := hkb.cell 0
      by_cases hlt : j < L.length
      · obtain ⟨ad, rfl, _, k0⟩ := (HR6.out wr hbr).at_ hlt
        obtain ⟨i, hi, hiM⟩ := HLg.out j hlt
        rw [hi] at k0
        have hst := HLs.out j i hlt hi hiM
        have hz1 := hkg.cell i
        rw [List.getElem?_toArray, ic_get (by rw [HCl.out]; exact hiM)] at hz1
        have hf1 := hkg.frozen i
        have hcv : 0 ≤ (cntL (L.take j) M).getD i 0 ∧ (cntL (L.take j) M).getD i 0 ≤ 1000000000 := by
          have h1 : i < (cntL (L.take j) M).length := by rw [HCl.out]; exact hiM
          rw [List.getD_eq_getElem?_getD, List.getElem?_eq_getElem h1]
          exact hcb.out j _ (List.getElem_mem h1)
        have hset := hkg.set_ i (.int .i64 ((cntL (L.take j) M).getD i 0 + 1))
        have e9 : (ic .i64 (cntL (L.take j) M)).toArray.setIfInBounds i (.int .i64 ((cntL (L.take j) M).getD i 0 + 1)) = (ic .i64 (cntL (L.take (j + 1)) M)).toArray := by
          rw [← hst]; simp [ic, List.map_set]
        rw [e9] at hset
        have HSe := Lib.hid hset
        have hMi : (i : Int) < (M : Int) := by omega
        clear hst hset e9 hkg hi
        generalize (cntL (L.take j) M).getD i 0 = cv at *
        have hw9 : IntKind.i64.wrap (cv + 1) = cv + 1 := IntWalk.i64_in _ (by omega)
        go_wp2
        go_roundw
        case rel => exact ⟨j + 1, by omega, by go_num, HSe.out, mod_put hM (fun _ => rfl)⟩
        case measure => simp [intOf]; omega
      · have hjl : j = L.length := by omega
        subst hjl
        rw [List.take_length] at hkg
        have hct : CtR N wr (w1.heap.size + 1) w1.heap.size (cntL L M) := by
          have e := HMl.out
          subst e
          exact ⟨hkb, hkg, cntL_len _ _, cntL_bd (by omega)⟩
        have HCt := Lib.hid hct
        have kpr := kp.below hbr hkp
        have p2 := kpr.cell 2
        clear hct hkg hkb z0 kg0 kb0
        obtain ⟨wo, rfl⟩ : ∃ wo : World, wo = wr := ⟨_, rfl⟩
        go_upto_region 11 with fail
        have ko := Blk.new wo 3 (Array.replicate M (.int .i64 0))
        have bo := below_alloc (Below.refl wo.heap.size wo) (.cells (Array.replicate M (.int .i64 0)) 3)
        rw [show Array.replicate M (Value.int .i64 0) = (ic .i64 (preL (fun i => (i : Int)) M 0)).toArray by rw [preL_zero]; simp [ic]] at ko bo ⊢
        obtain ⟨go, hgo⟩ : ∃ go, go = wo.heap.size := ⟨_, rfl⟩
        rw [← hgo] at ko ⊢
        have hgob : wo.heap.size ≤ go ∧ w1.heap.size + 1 < go := by have := hM.size; omega
        generalize wo.alloc (.cells (ic .i64 (preL (fun i => (i : Int)) M 0)).toArray 3) = w3 at *
        have hgo3 := ko.lt
        have HPs := Lib.hid (fun i => preL_set (f := fun i => (i : Int)) (m := M) (i := i))
        have HPl := Lib.hid (fun i => preL_len (fun i => (i : Int)) M i)
        clear hgo
        go_wp2
        go_loopw [48] (fun iv w4 => ∃ i : Nat, i ≤ M ∧ iv = .int .i64 i ∧ Blk w4 go 3 (ic .i64 (preL (fun i => (i : Int)) M i)).toArray ∧ Mod (· = go) w3 w4) (fun iv _ => M - (intOf iv).toNat)
        case atStart => exact ⟨0, Nat.zero_le _, rfl, ko, Mod.refl _ _⟩
        case round =>
          obtain ⟨i, hi, rfl, hko, hMo⟩ := hrel
          by_cases hlt : i < M
          · have hz1 := hko.cell i
            rw [List.getElem?_toArray, ic_get (by rw [HPl.out]; exact hlt)] at hz1
            have hf1 := hko.frozen i
            have hset := hko.set_ i (.int .i64 (i : Int))
            have e9 : (ic .i64 (preL (fun i => (i : Int)) M i)).toArray.setIfInBounds i (.int .i64 (i : Int)) = (ic .i64 (preL (fun i => (i : Int)) M (i + 1))).toArray := by
              rw [← HPs.out]; simp [ic, List.map_set]
            rw [e9] at hset
            have HSe := Lib.hid hset
            have hMi : (i : Int) < (M : Int) := by omega
            clear hset e9 hko
            generalize (preL (fun i => (i : Int)) M i).getD i 0 = cv at *
            go_wp2
            go_roundw
            case rel => exact ⟨i + 1, by omega, by go_num, HSe.out, mod_put hMo (fun _ => rfl)⟩
            case measure => simp [intOf]; omega
          · have hil : i = M := by omega
            subst hil
            have hM3 : Mod (· = go) wo wr := (Mod.of_fresh bo).then_ hMo
            have hct3 := HCt.out.mod hM3 (by omega) (by omega)
            have hsrow : SRow wr go (List.finRange (N + 1)) [] := by
              have e := HMl.out
              unfold SRow
              rw [List.append_nil, ← order_row, e]
              exact hko
            have hSo : Calls Try.prog 50 #[.slice (some ⟨go, 0, none⟩) i i, .func (.func 51) #[] #[.pointer (some ⟨w1.heap.size + 1, 0, none⟩)]] wr fun e w' => e = .returned (.tuple #[]) ∧ ∃ l', SRow w' go l' [] ∧ l'.length = i ∧ Srt (ltC (cntL L i)) (List.finRange (N + 1)) l' ∧ Srd (ltC (cntL L i)) l' ∧ Mod (· = go) wr w' :=
              sort_any hct3 ⟨by omega, by omega⟩ (by have := HMl.out; omega) hsrow (by rw [List.length_finRange]; exact HMl.out) i (by omega) (Nat.le_refl _)
            have HSo := Lib.hid hSo
            clear hSo hsrow hct3 hko ko
            go_upto_region 17 with (first
              | (go_at_call 50; (with_reducible refine HSo.out.mono ?_); rintro e w5 ⟨rfl, os, hos, hol, hsrt, hsrd, hM5⟩))
            have hM15 : Mod (· = go) wo w5 := hM3.then_ hM5
            have hb5 : Below w1.heap.size w1 w5 := hbr.trans (hM15.below (by have := hbr.size; omega) (fun b hb => by omega))
            have kp5 := kp.below hb5 hkp
            have hs5 := hb5.size
            obtain ⟨rows, hrows⟩ : ∃ rows, rows = os.map fun i => cs.getD i.val [] := ⟨_, rfl⟩
            have hrl : rows.length = i := by rw [hrows, List.length_map, hol]
            have HRg := Lib.hid (show ∀ r, r < i → rows.getD r [] = cs.getD (os.getD r spz).val [] from fun r hr => by
              have hr9 : r < os.length := by omega
              have e2 : os.getD r spz = os[r] := by rw [List.getD_eq_getElem?_getD, List.getElem?_eq_getElem hr9]; rfl
              rw [hrows, e2, List.getD_eq_getElem?_getD, List.getElem?_map, List.getElem?_eq_getElem hr9]
              rfl)
            have HY := Lib.hid (show RankIs ⟨qw, qh, qd, qp⟩ ⟨d, n, cs⟩ ⟨d, n, rows⟩ true from by
              have e := HMl.out
              rw [hrows]
              subst e
              exact HYes.out os hsrt hsrd)
            have HOs := Lib.hid hos
            have HRl := Lib.hid hrl
            have HPs := Lib.hid (fun r (hr : r < rows.length) => preC_set hr)
            have HPn := Lib.hid (fun r (hr : r ≤ rows.length) => preC_len hr)
            have HOl := Lib.hid hol
            have HP0 := Lib.hid (preC_zero rows)
            have HPf := Lib.hid (preC_full rows)
            clear hrows hsrt hsrd hos hol hM3 hM5 HYes HSo HPl hrl
            go_upto_region 18 with fail
            have hm0 := OwnG.made (R := IsR) (e := 22) (base := w5.heap.size) (D := fun x => w5.heap.size ≤ x ∧ x < w5.heap.size + 1) w5 (Nat.le_refl _) (n := i) (by omega) (z := .slice none 0 0) (x := []) (fun W' S => ⟨none, 0, rfl, Nat.le_refl _, RdS.nil_⟩)
            have b56 := below_alloc (Below.refl w5.heap.size w5) (.cells (Array.replicate i (.slice none 0 0)) 22)
            have hs6 : w5.heap.size < (w5.alloc (.cells (Array.replicate i (.slice none 0 0)) 22)).heap.size := by simp
            generalize w5.alloc (.cells (Array.replicate i (.slice none 0 0)) 22) = w6 at *
            have hM0 : OwnG IsR 1 22 w6 w5.heap.size (fun x => w5.heap.size ≤ x ∧ x < w6.heap.size) (.slice (some ⟨w5.heap.size, 0, none⟩) i i) (preC rows 0) := by
              rw [HP0.out, HRl.out]
              exact hm0.weak IsR.good (fun b hb hl => ⟨hb.1, hl⟩)
            clear hm0 hmh
            obtain ⟨w99, rfl⟩ : ∃ w99 : World, w99 = wr := ⟨_, rfl⟩
            go_wp2
            go_loopw [64] (fun iv w7 => ∃ r : Nat, r ≤ i ∧ iv = .int .i64 r ∧ OwnG IsR 1 22 w7 w5.heap.size (fun x => w5.heap.size ≤ x ∧ x < w7.heap.size) (.slice (some ⟨w5.heap.size, 0, none⟩) i i) (preC rows r) ∧ Below w5.heap.size w5 w7) (fun iv _ => i - (intOf iv).toNat)
            case atStart => exact ⟨0, Nat.zero_le _, rfl, hM0, b56⟩
            case round =>
              obtain ⟨r, hr9, rfl, hO, hb7⟩ := hrel
              have hb17 := hb5.trans (hb7.mono hs5)
              have b07 := bb.trans (hb17.mono bb.size)
              have kp7 := kp5.below hb7 (by omega)
              have p2 := kp7.cell 2
              by_cases hlt : r < i
              · have hso := (HOs.out.below hb7).at_ (j := r) (by rw [HOl.out]; exact hlt) rfl
                have hrg := HRg.out r hlt
                have hkl := (os.getD r spz).isLt
                have hkM : (os.getD r spz).val < i := by have := HMl.out; omega
                generalize (os.getD r spz).val = k at *
                obtain ⟨ad, Aj, cj, rfl, hadB, hcell, hcj, hrj⟩ := (hr2.below b07 hB) k (by rw [HNl.out]; exact hkM)
                have hlen := HRw.out _ (mem_getD (show k < cs.length by rw [HNl.out]; exact hkM))
                have HCn := Lib.hid (clone_any Aj (cs.getD k []).length cj (cs.getD k []) rfl (by omega) wr B (by have := b07.size; omega) hrj)
                have HRe := Lib.hid hrg
                have HO := Lib.hid hO
                have hki : (k : Int) < (i : Int) := by omega
                have hri : (r : Int) < (i : Int) := by omega
                clear hrg hO hrj hkl
                generalize cs.getD k [] = row at *
                have hw57 := hb7.size
                have HAft := Lib.hid (show ∀ w8 A8 c8, OwnI w8 wr.heap.size 3 .i64 (.slice A8 row.length c8) row → Below wr.heap.size wr w8 → (∃ u, w8.cell? ⟨w5.heap.size, r, none⟩ = some u) ∧ w8.frozen? ⟨w5.heap.size, r, none⟩ = false ∧ OwnG IsR 1 22 (w8.setCell ⟨w5.heap.size, r, none⟩ (.slice A8 row.length c8)) w5.heap.size (fun x => w5.heap.size ≤ x ∧ x < w8.heap.size) (.slice (some ⟨w5.heap.size, 0, none⟩) i i) ((preC rows r).set r row) from fun w8 A8 c8 how8 hb8 => by
                  have hs8 := hb8.size
                  have hO8 := (HO.out.keep IsR.good (Mod.of_fresh (M := fun _ => False) hb8) (fun _ _ _ h => h) (fun _ _ h => h)).weak IsR.good (D' := fun x => w5.heap.size ≤ x ∧ x < w8.heap.size) (fun b hb _ => ⟨hb.1, by have := hb.2; omega⟩)
                  have hpl := HPn.out r (by rw [HRl.out]; exact hr9)
                  have hrl9 := HRl.out
                  obtain ⟨gb, cb, hv, hgb1, hgb2, hcb, hfz, hget, hset⟩ := hO8.row1 IsR.good (by omega)
                  simp only [Value.slice.injEq, Option.some.injEq, Addr.mk.injEq, and_true] at hv
                  obtain ⟨rfl, _, rfl⟩ := hv
                  obtain ⟨u8, hu8, _⟩ := hget r (by omega)
                  obtain ⟨_, hc8, hr8⟩ := how8.rds
                  exact ⟨⟨u8, hu8⟩, hfz r, hset r (.slice A8 row.length c8) row ⟨A8, c8, rfl, hc8, hr8.weak (fun b hb _ => ⟨⟨by have := hb.1; omega, hb.2.1⟩, fun e => by injection e with e; have := hb.1; have := (HO.out.own_ge w5.heap.size rfl).2; omega⟩)⟩⟩)
                go_wp2_with (first
                  | (go_at_call 46; (with_reducible refine HCn.out.mono ?_); rintro e w8 ⟨A8, c8, rfl, how8, hb8⟩; obtain ⟨⟨u8, hu8⟩, hf8, hst⟩ := HAft.out w8 A8 c8 how8 hb8; have HSt := Lib.hid hst; clear hst how8))
                have e9 := HPs.out r (by rw [HRl.out]; exact hlt)
                rw [HRe.out] at e9
                have HE9 := Lib.hid e9
                clear e9
                go_roundw
                case rel => exact ⟨r + 1, by omega, by go_num, by rw [← HE9.out]; exact HSt.out.weak IsR.good (fun b hb _ => ⟨hb.1, by have := hb.2; simp; omega⟩), below_put (hb7.trans (hb8.mono hb7.size)) (Nat.le_refl _)⟩
                case measure => simp [intOf]; omega
              · have hri : r = i := by omega
                subst hri
                have kz7 := (kz.below hb17 hkz)
                have p0 := kp7.cell 0
                have p1 := kp7.cell 1
                have y0 := kz7.cell 0
                have y1 := kz7.cell 1
                have y2 := kz7.cell 2
                have f0 := kz7.frozen 0
                have f1 := kz7.frozen 1
                have f2 := kz7.frozen 2
                have hrr := HRl.out
                have hOf : OwnG IsR 1 22 wr w5.heap.size (fun x => w5.heap.size ≤ x ∧ x < wr.heap.size) (.slice (some ⟨w5.heap.size, 0, none⟩) r r) rows := by
                  have h := HPf.out
                  rw [hrr] at h
                  rw [← h]; exact hO
                have HOf := Lib.hid hOf
                have HRr := Lib.hid hrr
                clear hO hOf hrr
                go_wp2
                refine bodyPost_ret (v := .tuple #[.agg #[.int .i64 d, .int .i64 n, .slice (some ⟨w5.heap.size, 0, none⟩) r r], .bool true]) (by simp [results, Try.results19, go_sem, y0, y1, y2]) rfl ?_
                have hm9 : Mod (· = w.heap.size + 1 + 1) wr (((wr.setCell ⟨w.heap.size + 1 + 1, 0, none⟩ (.int .i64 d)).setCell ⟨w.heap.size + 1 + 1, 1, none⟩ (.int .i64 n)).setCell ⟨w.heap.size + 1 + 1, 2, none⟩ (.slice (some ⟨w5.heap.size, 0, none⟩) r r)) := mod_put (mod_put (mod_put (Mod.refl _ _) (fun _ => rfl)) (fun _ => rfl)) (fun _ => rfl)
                have hfin := HOf.out.keep IsR.good hm9 (fun b hb _ e => by have := hb.1; omega) (fun b hb e => by simp [Value.ownBlock] at hb; omega)
                obtain ⟨A9, c9, hv, _, hrd⟩ := hfin.reads IsR.good (S := fun b => b < (((wr.setCell ⟨w.heap.size + 1 + 1, 0, none⟩ (.int .i64 d)).setCell ⟨w.heap.size + 1 + 1, 1, none⟩ (.int .i64 n)).setCell ⟨w.heap.size + 1 + 1, 2, none⟩ (.slice (some ⟨w5.heap.size, 0, none⟩) r r)).heap.size) (fun b _ hl => hl)
                simp only [Value.slice.injEq] at hv
                obtain ⟨rfl, _, rfl⟩ := hv
                exact ⟨⟨d, n, rows⟩, true, _, _, by rw [palV, HRr.out], HY.out, by rw [HRr.out]; exact Nat.le_refl _, hrd.rdLL (fun b hb => hb), b07 |>.setCell (by simp; omega) _ |>.setCell (by simp; omega) _ |>.setCell (by simp; omega) _⟩
end Go.Proofs.Ytbbflddhbamjbaa
