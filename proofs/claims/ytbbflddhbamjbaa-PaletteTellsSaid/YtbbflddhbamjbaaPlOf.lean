/- palette.Of. -/
import Derived.Test.YtbbflddhbamjbaaPlSort
import Derived.Test.YtbbflddhbamjbaaPlKey
import Derived.Test.YtbbflddhbamjbaaPlMay
import Derived.Test.YtbbflddhbamjbaaPicClone
set_option linter.unusedSimpArgs false
set_option linter.unusedVariables false
namespace Go.Proofs.Ytbbflddhbamjbaa
open Go.RowKit

/-- the colours of the first i places, each once, as they come -/
def ddT (p : List (List Int)) : Nat → List (List Int)
  | 0 => []
  | i + 1 => if colAt p i ∈ ddT p i then ddT p i else ddT p i ++ [colAt p i]
theorem ddT_in {p : List (List Int)} {i : Nat} (h : colAt p i ∈ ddT p i) : ddT p (i + 1) = ddT p i := by rw [ddT, if_pos h]
theorem ddT_out {p : List (List Int)} {i : Nat} (h : colAt p i ∉ ddT p i) : ddT p (i + 1) = ddT p i ++ [colAt p i] := by rw [ddT, if_neg h]
theorem ddT_len {p : List (List Int)} : ∀ i, (ddT p i).length ≤ i
  | 0 => Nat.le_refl _
  | i + 1 => by
    have ih := ddT_len (p := p) i
    rw [ddT]; split
    · omega
    · simp; omega
theorem ddT_mono {p : List (List Int)} (i : Nat) : ∀ d, (ddT p i).length ≤ (ddT p (i + d)).length
  | 0 => Nat.le_refl _
  | d + 1 => by
    have ih := ddT_mono (p := p) i d
    rw [← Nat.add_assoc, ddT]; split
    · exact ih
    · simp; omega
theorem ddT_mem {p : List (List Int)} {x : List Int} : ∀ {i}, x ∈ ddT p i ↔ ∃ j, j < i ∧ x = colAt p j
  | 0 => by simp [ddT]
  | i + 1 => by
    have ih := ddT_mem (p := p) (x := x) (i := i)
    rw [ddT]; split
    · rename_i h
      rw [ih]
      constructor
      · rintro ⟨j, hj, e⟩; exact ⟨j, by omega, e⟩
      · rintro ⟨j, hj, e⟩
        by_cases h9 : j = i
        · subst h9; rw [e]; exact ddT_mem.1 h
        · exact ⟨j, by omega, e⟩
    · rw [List.mem_append, List.mem_singleton, ih]
      constructor
      · rintro (⟨j, hj, e⟩ | e)
        · exact ⟨j, by omega, e⟩
        · exact ⟨i, by omega, e⟩
      · rintro ⟨j, hj, e⟩
        by_cases h9 : j = i
        · subst h9; exact .inr e
        · exact .inl ⟨j, by omega, e⟩
theorem ddT_nodup {p : List (List Int)} : ∀ i, (ddT p i).Nodup
  | 0 => List.nodup_nil
  | i + 1 => by
    have ih := ddT_nodup (p := p) i
    rw [ddT]; split
    · exact ih
    · rename_i h
      rw [List.nodup_append]
      refine ⟨ih, by simp, fun a ha b hb e => ?_⟩
      rw [List.mem_singleton] at hb
      subst hb; subst e; exact h ha
def ofOk (q : Pc) (most : Int) : Bool := isB q && decide (1 ≤ most ∧ most ≤ 256) && decide ((ddT q.p (q.w * q.h).toNat).length ≤ most)
/-- what Of answers -/
def OfIs (q : Pc) (most : Int) (P : Pal) (b : Bool) : Prop :=
  b = ofOk q most ∧ if ofOk q most = true then P.d = q.d ∧ P.n = q.p.length ∧ P.c.Perm (ddT q.p (q.w * q.h).toNat) ∧ P.c.Pairwise (fun a b => ltL a b = true) else P = palZ
theorem ltL_uniq : ∀ {a b : List (List Int)}, a.Pairwise (fun a b => ltL a b = true) → b.Pairwise (fun a b => ltL a b = true) → (∀ x, x ∈ a ↔ x ∈ b) → a = b
  | [], [], _, _, _ => rfl
  | [], y :: b, _, _, h => by have := (h y).2 (List.mem_cons_self ..); cases this
  | x :: a, [], _, _, h => by have := (h x).1 (List.mem_cons_self ..); cases this
  | x :: a, y :: b, h1, h2, h => by
    rw [List.pairwise_cons] at h1 h2
    have e : x = y := by
      rcases List.mem_cons.1 ((h x).1 (List.mem_cons_self ..)) with hx | hx
      · exact hx
      · rcases List.mem_cons.1 ((h y).2 (List.mem_cons_self ..)) with hy | hy
        · exact hy.symm
        · have := ltL_trans (h1.1 y hy) (h2.1 x hx)
          rw [ltL_irr] at this; cases this
    subst e
    refine congrArg _ (ltL_uniq h1.2 h2.2 fun z => ⟨fun hz => ?_, fun hz => ?_⟩)
    · rcases List.mem_cons.1 ((h z).1 (List.mem_cons_of_mem _ hz)) with e | e
      · subst e
        have := h1.1 z hz
        rw [ltL_irr] at this; cases this
      · exact e
    · rcases List.mem_cons.1 ((h z).2 (List.mem_cons_of_mem _ hz)) with e | e
      · subst e
        have := h2.1 z hz
        rw [ltL_irr] at this; cases this
      · exact e
theorem OfIs.unique {q : Pc} {most : Int} {P P' : Pal} {b b' : Bool} (h : OfIs q most P b) (h' : OfIs q most P' b') : P = P' ∧ b = b' := by
  obtain ⟨e, r⟩ := h
  obtain ⟨e', r'⟩ := h'
  refine ⟨?_, e.trans e'.symm⟩
  split at r
  · rename_i hk
    rw [if_pos hk] at r'
    obtain ⟨r1, r2, r3, r4⟩ := r
    obtain ⟨s1, s2, s3, s4⟩ := r'
    obtain ⟨d, n, c⟩ := P
    obtain ⟨d', n', c'⟩ := P'
    simp only at *
    rw [r1, s1, r2, s2, ltL_uniq r4 s4 fun x => (r3.mem_iff).trans (s3.mem_iff).symm]
  · rename_i hk
    rw [if_neg hk] at r'
    rw [r, r']
def OfPost (w : World) (q : Pc) (most : Int) (e : Ending) (w' : World) : Prop :=
  ∃ P b A' c', e = .returned (.tuple #[palV P A' c', .bool b]) ∧ OfIs q most P b ∧ P.c.length ≤ c' ∧ RdLL w' w'.heap.size .i64 A' P.c ∧ Below w.heap.size w w'
theorem OfPost.no {w w' : World} {q : Pc} {most : Int} {e : Ending} (h : ofOk q most = false) (he : e = .returned (.tuple #[.agg #[.int .i64 0, .int .i64 0, .slice none 0 0], .bool false])) (hb : Below w.heap.size w w') : OfPost w q most e w' :=
  ⟨palZ, false, none, 0, he, ⟨h.symm, by rw [h]; rfl⟩, Nat.le_refl _, fun j hj => absurd hj (by simp [palZ]), hb⟩
/-- strictly in order -/
theorem strict_of {ys xs : List (List Int)} (hp : ys.Perm xs) (hn : xs.Nodup) (hs : ys.Pairwise (fun a b => ltL b a = false)) : ys.Pairwise (fun a b => ltL a b = true) := by
  have hn2 := hp.nodup_iff.2 hn
  rw [List.nodup_iff_pairwise_ne] at hn2
  refine (List.Pairwise.and hn2 hs).imp ?_
  rintro a b ⟨h1, h2⟩
  cases h : ltL a b with
  | true => rfl
  | false => exact absurd (ltL_tri h h2) h1

set_option maxHeartbeats 4000000 in
set_option maxRecDepth 100000 in
theorem of_head {q : Pc} {A : Option Addr} {c : Nat} {most : Int} {w : World} {B : Nat} (hr : RdLL w B .i64 A q.p) (hB : B ≤ w.heap.size) (h : isB q = false ∨ ¬ (1 ≤ most ∧ most ≤ 256)) :
    Calls Try.prog 18 #[picV q A c, .int .i64 most] w (OfPost w q most) := by
  have hno : ofOk q most = false := by
    rw [ofOk]
    rcases h with h | h
    · rw [h, Bool.false_and, Bool.false_and]
    · rw [decide_eq_false h, Bool.and_false, Bool.false_and]
  have HNo := Lib.hid hno
  have HIs := fun W (hb : Below w.heap.size w W) => is_any (c := c) (hr.below hb hB) (Nat.le_trans hB hb.size)
  have HB0 := Lib.hid (show Below w.heap.size w ((w.alloc (.cells #[.int .i64 q.w, .int .i64 q.h, .int .i64 q.d, .slice A q.p.length c] 30)).alloc (.cells #[.int .i64 0, .int .i64 0, .slice none 0 0] 25)) from below_alloc (below_alloc (Below.refl _ _) _) _)
  have HZ := Lib.hid (show Blk ((w.alloc (.cells #[.int .i64 q.w, .int .i64 q.h, .int .i64 q.d, .slice A q.p.length c] 30)).alloc (.cells #[.int .i64 0, .int .i64 0, .slice none 0 0] 25)) (w.heap.size + 1) 25 #[.int .i64 0, .int .i64 0, .slice none 0 0] from Blk.new1 w _ _ _)
  have hw2 : picV q A c = .agg #[.int .i64 q.w, .int .i64 q.h, .int .i64 q.d, .slice A q.p.length c] := rfl
  rw [hw2]
  have hcase : isB q = false ∨ (isB q = true ∧ most < 1) ∨ (isB q = true ∧ ¬ most < 1 ∧ 256 < most) := by
    cases hq : isB q with
    | false => exact .inl rfl
    | true =>
      rcases h with h | h
      · rw [hq] at h; cases h
      · right; simp only [true_and]; omega
  clear h hno hw2
  rcases hcase with h1 | ⟨h1, h2⟩ | ⟨h1, h2, h3⟩
  · simp only [h1] at HIs
    have HIs := Lib.hid (HIs _ HB0.out)
    clear h1
    go_enter Try.func18, Try.ntmps18
    go_wp2_with (first
      | (go_at_call 44; (with_reducible refine HIs.out.mono ?_); rintro e w1 ⟨rfl, hb1⟩; have kz := HZ.out.below hb1 (by simp); have z0 := kz.cell 0; have z1 := kz.cell 1; have z2 := kz.cell 2; have f0 := kz.frozen 0; have f1 := kz.frozen 1; have f2 := kz.frozen 2))
    refine bodyPost_ret (v := .tuple #[.agg #[.int .i64 0, .int .i64 0, .slice none 0 0], .bool false]) (by simp [results, Try.results18, go_sem, z0, z1, z2]) rfl ?_
    exact OfPost.no HNo.out rfl (below_then HB0.out hb1 |>.setCell (by simp) _ |>.setCell (by simp) _ |>.setCell (by simp) _)
  · simp only [h1] at HIs
    have HIs := Lib.hid (HIs _ HB0.out)
    clear h1
    go_enter Try.func18, Try.ntmps18
    go_wp2_with (first
      | (go_at_call 44; (with_reducible refine HIs.out.mono ?_); rintro e w1 ⟨rfl, hb1⟩; have kz := HZ.out.below hb1 (by simp); have z0 := kz.cell 0; have z1 := kz.cell 1; have z2 := kz.cell 2; have f0 := kz.frozen 0; have f1 := kz.frozen 1; have f2 := kz.frozen 2))
    refine bodyPost_ret (v := .tuple #[.agg #[.int .i64 0, .int .i64 0, .slice none 0 0], .bool false]) (by simp [results, Try.results18, go_sem, z0, z1, z2]) rfl ?_
    exact OfPost.no HNo.out rfl (below_then HB0.out hb1 |>.setCell (by simp) _ |>.setCell (by simp) _ |>.setCell (by simp) _)
  · simp only [h1] at HIs
    have HIs := Lib.hid (HIs _ HB0.out)
    clear h1
    go_enter Try.func18, Try.ntmps18
    go_wp2_with (first
      | (go_at_call 44; (with_reducible refine HIs.out.mono ?_); rintro e w1 ⟨rfl, hb1⟩; have kz := HZ.out.below hb1 (by simp); have z0 := kz.cell 0; have z1 := kz.cell 1; have z2 := kz.cell 2; have f0 := kz.frozen 0; have f1 := kz.frozen 1; have f2 := kz.frozen 2))
    refine bodyPost_ret (v := .tuple #[.agg #[.int .i64 0, .int .i64 0, .slice none 0 0], .bool false]) (by simp [results, Try.results18, go_sem, z0, z1, z2]) rfl ?_
    exact OfPost.no HNo.out rfl (below_then HB0.out hb1 |>.setCell (by simp) _ |>.setCell (by simp) _ |>.setCell (by simp) _)

theorem blk_rd {w : World} {g : Nat} {t : TypeId} {k : IntKind} {l : List Int} (h : Blk w g t (ic k l).toArray) (n : Nat) : RdI w w.heap.size k (some ⟨g, 0, none⟩) (l.take n) := by
  refine ⟨by rw [ic_length]; omega, fun _ => ⟨_, rfl, h.lt, fun j u hu => ?_⟩⟩
  have h1 := h.seg 0 n j u
  rw [ic_seg, List.drop_zero] at h1
  exact h1 hu
def keysL (l : List (List Int)) : List (List Int × Value) := l.map fun r => (keyC r, .bool true)
theorem keysL_seen {l : List (List Int)} {n : Nat} (hn : n ≤ 4) (hl : ∀ x ∈ l, x.length = n) {r : List Int} (hr : r.length = n) : (mget (keysL l) (keyC r)).getD (.bool false) = .bool (decide (r ∈ l)) := by
  by_cases h : r ∈ l
  · rw [decide_eq_true h]
    cases hm : mget (keysL l) (keyC r) with
    | none => exact absurd rfl (mget_none.1 hm _ (List.mem_map.2 ⟨r, h, rfl⟩))
    | some v =>
      unfold mget at hm
      rw [Option.map_eq_some_iff] at hm
      obtain ⟨p, h1, rfl⟩ := hm
      obtain ⟨x, _, rfl⟩ := List.mem_map.1 (List.mem_of_find?_eq_some h1)
      rfl
  · rw [decide_eq_false h, mget_none.2]
    · rfl
    · intro p hp e
      obtain ⟨x, hx, rfl⟩ := List.mem_map.1 hp
      exact h (keyC_inj hn (hl x hx) hr e ▸ hx)
theorem keysL_new {l : List (List Int)} {n : Nat} (hn : n ≤ 4) (hl : ∀ x ∈ l, x.length = n) {r : List Int} (hr : r.length = n) (h : r ∉ l) : ∀ p ∈ keysL l, p.1 ≠ keyC r := fun p hp e => by
  obtain ⟨x, hx, rfl⟩ := List.mem_map.1 hp
  exact h (keyC_inj hn (hl x hx) hr e ▸ hx)
theorem keyC_take {l : List Int} {n : Nat} (hn : n ≤ 4) (hl : l.length = n) : (keyC l).take n = l := by
  rw [keyC, List.take_take, Nat.min_eq_left hn, List.take_append_of_le_length (by omega), List.take_of_length_le (by omega)]

set_option maxHeartbeats 8000000 in
set_option maxRecDepth 100000 in
theorem of_any {q : Pc} {A : Option Addr} {c : Nat} {most : Int} {w : World} {B : Nat} (hr : RdLL w B .i64 A q.p) (hB : B ≤ w.heap.size) :
    Calls Try.prog 18 #[picV q A c, .int .i64 most] w (OfPost w q most) := by
  by_cases hq : isB q = true
  · by_cases hmo : 1 ≤ most ∧ most ≤ 256
    · obtain ⟨s1, s2, s3, s4, s5⟩ := isB_sum hq
      obtain ⟨m1, m2⟩ := mul_64 s1 s2
      obtain ⟨m, hm⟩ : ∃ m : Nat, q.w * q.h = m := ⟨(q.w * q.h).toNat, by omega⟩
      obtain ⟨nn, hnn⟩ : ∃ nn, q.p.length = nn := ⟨_, rfl⟩
      obtain ⟨mo, rfl⟩ := Int.eq_ofNat_of_zero_le (show 0 ≤ most by omega)
      have hofe : ofOk q mo = decide ((ddT q.p m).length ≤ mo) := by
        rw [ofOk, hq, decide_eq_true hmo, hm, Int.toNat_natCast, Bool.true_and, Bool.true_and]
        simp
      have HNo := Lib.hid (fun (w w' : World) (e : Ending) (h : ofOk q mo = false) (he : e = .returned (.tuple #[.agg #[.int .i64 0, .int .i64 0, .slice none 0 0], .bool false])) (hb : Below w.heap.size w w') => OfPost.no (q := q) h he hb)
      have HYes := Lib.hid (show ∀ (c : List (List Int)), (ddT q.p m).length ≤ mo → c.Perm (ddT q.p m) → c.Pairwise (fun a b => ltL a b = true) → OfIs q mo ⟨q.d, nn, c⟩ true from fun c h1 h2 h3 => by
        refine ⟨by rw [hofe]; exact (decide_eq_true h1).symm, ?_⟩
        rw [hofe, if_pos (decide_eq_true h1)]
        exact ⟨rfl, by rw [hnn], by rw [hm, Int.toNat_natCast]; exact h2, h3⟩)
      have HPl : ∀ l ∈ q.p, l.length = m := fun l hl => by have := (s5 l hl).2.1; omega
      have HCc := Lib.hid (show ∀ i, Col (keyC (colAt q.p i)) from fun i => keyC_col fun x hx => by
        obtain ⟨l, hl, rfl⟩ := List.mem_map.1 hx
        rw [List.getD_eq_getElem?_getD]
        cases h9 : l[i]? with
        | none => exact ⟨by simp, by simp⟩
        | some y =>
          have := (s5 l hl).2.2 y (List.mem_of_getElem? h9)
          simp only [Option.getD_some]
          exact ⟨by omega, by omega⟩)
      have HCl := Lib.hid (show ∀ i, (colAt q.p i).length = nn from fun i => by simp [colAt, hnn])
      have HIs := fun W (hb : Below w.heap.size w W) => is_any (c := c) (hr.below hb hB) (Nat.le_trans hB hb.size)
      simp only [hq] at HIs
      have HPt := fun i (hi : i < m) W (hb : Below w.heap.size w W) => point_any (W := q.w) (H := q.h) (D := q.d) (c := c) (i := i) (hr.below hb hB) (Nat.le_trans hB hb.size) (by omega) (fun l hl => by rw [HPl l hl]; exact hi)
      have HDl := Lib.hid (show ∀ i, ∀ x ∈ ddT q.p i, x.length = nn from fun i x hx => by obtain ⟨j, _, rfl⟩ := ddT_mem.1 hx; exact HCl.out j)
      have HDi := Lib.hid (fun i (h : colAt q.p i ∈ ddT q.p i) => ddT_in h)
      have HDo := Lib.hid (fun i (h : colAt q.p i ∉ ddT q.p i) => ddT_out h)
      have HDn := Lib.hid (fun i => ddT_nodup (p := q.p) i)
      have HDm := Lib.hid (fun i d => ddT_mono (p := q.p) i d)
      have HOf := Lib.hid hofe
      have HD0 := Lib.hid (show ddT q.p 0 = [] from rfl)
      have HC4 := Lib.hid (fun i => keyC_take (n := nn) (by omega) (HCl.out i))
      have hm4 : m ≤ 4096 ∧ 1 ≤ m := by omega
      have hn4 : nn ≤ 4 ∧ 1 ≤ nn := by omega
      clear hq hofe HPl s5
      obtain ⟨qw, qh, qd, qp⟩ := q
      simp only [picV] at *
      have hwr : IntKind.i64.wrap (qw * qh) = (m : Int) := by rw [hm]; exact IntWalk.i64_in _ (by omega)
      rw [hnn] at HIs HPt ⊢
      replace HPt := Lib.hid HPt
      replace HIs := Lib.hid HIs
      have g1 : decide ((mo : Int) < 1) = false := decide_eq_false (by omega)
      have g2 : decide ((256 : Int) < (mo : Int)) = false := decide_eq_false (by omega)
      have hmk := fun W => run_makeMap (P := Try.prog) 68 W
      generalize colAt qp = CA at *
      generalize ddT qp = DD at *
      clear hm m1 m2
      have hmo2 : mo ≤ 256 ∧ 1 ≤ mo := by omega
      clear hmo
      go_enter Try.func18, Try.ntmps18
      go_upto_region 5 with (first
        | (go_at_call 44; (with_reducible refine (HIs.out _ (by repeat (first | exact Below.refl _ _ | assumption | refine Below.drew ?_ | refine below_drewN ?_ _ | refine below_alloc ?_ _))).mono ?_); rintro e w1 ⟨rfl, hb1⟩))
      have kz := (Blk.new1 w (.cells #[.int .i64 qw, .int .i64 qh, .int .i64 qd, .slice A nn c] 30) 25 #[.int .i64 0, .int .i64 0, .slice none 0 0]).below hb1 (by simp)
      have kq := ((Blk.new w 30 #[.int .i64 qw, .int .i64 qh, .int .i64 qd, .slice A nn c]).alloc (.cells #[.int .i64 0, .int .i64 0, .slice none 0 0] 25)).below hb1 (by simp; omega)
      have bb := below_then (below_alloc (below_alloc (Below.refl w.heap.size w) _) _) hb1
      clear hb1 HIs
      have hm3 := MapC.made w1
      have b13 := below_alloc (Below.refl w1.heap.size w1) (.map #[] 0)
      have hs3 : (w1.alloc (.map #[] 0)).heap.size = w1.heap.size + 1 := by simp
      generalize w1.alloc (.map #[] 0) = w3 at *
      have hkz := kz.lt
      have hkq := kq.lt
      have kq3 := kq.below b13 hkq
      obtain ⟨x0, x1, x2, x3, _⟩ := kq3.four
      clear hmk
      go_wp2
      clear x0 x1 x2 x3 kq3
      go_loopw [7, 28] (fun cv iv wr => ∃ i : Nat, i ≤ m ∧ iv = .int .i64 i ∧ (DD i).length ≤ mo ∧ MapC wr w1.heap.size (keysL (DD i)) ∧ OwnG IsR 1 22 wr w3.heap.size (fun x => w3.heap.size ≤ x ∧ x < wr.heap.size) cv (DD i) ∧ Below w1.heap.size w1 wr ∧ w3.heap.size ≤ wr.heap.size) (fun _ iv _ => m - (intOf iv).toNat)
      case atStart => exact ⟨0, Nat.zero_le _, rfl, by rw [HD0.out]; exact Nat.zero_le _, by rw [HD0.out]; exact hm3, by rw [HD0.out]; exact OwnG.nil_ _ _ _ _ _ _, b13, Nat.le_refl _⟩
      case round =>
        obtain ⟨i, hi, rfl, hdl, hmr, hown, hbr, hs3r⟩ := hrel
        have HM := Lib.hid hmr
        have HOw := Lib.hid hown
        have hml := hmr.lt
        clear hmr hown
        have kqr := kq.below hbr hkq
        obtain ⟨x0, x1, x2, x3, _⟩ := kqr.four
        have b0r := bb.trans (hbr.mono bb.size)
        by_cases hlt : i < m
        · obtain ⟨x, y, u, v, hk4⟩ := len4 (keyC_len (CA i))
          have HPi := HPt.out i hlt wr b0r
          have hcol := HCc.out i
          have hseen := keysL_seen (n := nn) hn4.1 (HDl.out i) (HCl.out i)
          have hnew := keysL_new (n := nn) hn4.1 (HDl.out i) (HCl.out i)
          have hc4 := HC4.out i
          have HCi := Lib.hid (HCl.out i)
          rw [hk4] at HPi hcol hseen hnew hc4
          rw [show colV [x, y, u, v] = .agg #[.int .i64 x, .int .i64 y, .int .i64 u, .int .i64 v] from rfl] at HPi
          have HLk := fun W (h : Below wr.heap.size wr W) => HM.out.look map_cb zero_b hcol W (h.block _ hml)
          rw [hseen, show colV [x, y, u, v] = .agg #[.int .i64 x, .int .i64 y, .int .i64 u, .int .i64 v] from rfl] at HLk
          replace HLk := Lib.hid HLk
          replace HPi := Lib.hid HPi
          have HCol := Lib.hid hcol
          have HNew := Lib.hid hnew
          have HC4i := Lib.hid hc4
          have HDin := Lib.hid (HDi.out i)
          have HDon := Lib.hid (HDo.out i)
          clear hseen hnew hcol hc4
          go_upto_region 9 with (first
            | (go_at_call 45; (with_reducible refine HPi.out.mono ?_); rintro e w4 ⟨rfl, hb4⟩))
          have hb5 : Below wr.heap.size wr (w4.alloc (.cells #[.int .i64 x, .int .i64 y, .int .i64 u, .int .i64 v] 70)) := below_alloc hb4 _
          have k9 := Blk.new w4 70 #[.int .i64 x, .int .i64 y, .int .i64 u, .int .i64 v]
          have hs45 : (w4.alloc (.cells #[.int .i64 x, .int .i64 y, .int .i64 u, .int .i64 v] 70)).heap.size = w4.heap.size + 1 := by simp
          have hs4 := hb4.size
          obtain ⟨g9, hg9⟩ : ∃ g9, g9 = w4.heap.size := ⟨_, rfl⟩
          rw [← hg9] at k9 ⊢
          have hg9b : wr.heap.size ≤ g9 ∧ g9 < (w4.alloc (.cells #[.int .i64 x, .int .i64 y, .int .i64 u, .int .i64 v] 70)).heap.size := by omega
          clear hg9 hs45
          generalize w4.alloc (.cells #[.int .i64 x, .int .i64 y, .int .i64 u, .int .i64 v] 70) = w5 at *
          have hlk := HLk.out _ hb5
          have z0 := k9.cell 0
          have z1 := k9.cell 1
          have z2 := k9.cell 2
          have z3 := k9.cell 3
          clear x0 x1 x2 x3
          have hbr5 := hbr.trans (hb5.mono hbr.size)
          by_cases hin : CA i ∈ DD i
          · rw [decide_eq_true hin] at hlk
            have HS := Lib.hid (HDin.out hin)
            clear hin
            have HM5 := Lib.hid (HM.out.below hb5 hml)
            have HO5 := Lib.hid ((HOw.out.keep IsR.good (Mod.of_fresh (M := fun _ => False) hb5) (fun _ _ _ h => h) (fun _ _ h => h)).weak IsR.good (D' := fun x => w3.heap.size ≤ x ∧ x < w5.heap.size) (fun b hb _ => ⟨hb.1, Nat.lt_of_lt_of_le hb.2 hb5.size⟩))
            go_wp2
            go_roundw
            case rel => repeat (first | exact ⟨i + 1, by omega, by go_num, by rw [HS.out]; exact hdl, by rw [HS.out]; exact HM5.out, by rw [HS.out]; exact HO5.out, hbr5, by omega⟩ | refine Exists.intro _ ?_)
            case measure => simp [intOf]; omega
          · rw [decide_eq_false hin] at hlk
            have HS := Lib.hid (HDon.out hin)
            have HNw := Lib.hid (HNew.out hin)
            clear hin
            obtain ⟨Ac, cc, rfl, hcc, _, hoc⟩ := HOw.out.form IsR.good
            by_cases hfull : (DD i).length = mo
            · have q1 : (((DD i).length : Int) == (mo : Int)) = true := by rw [hfull]; simp
              have hno : ofOk ⟨qw, qh, qd, qp⟩ mo = false := by
                rw [HOf.out]
                refine decide_eq_false ?_
                have h1 := HDm.out (i + 1) (m - (i + 1))
                rw [HS.out, show i + 1 + (m - (i + 1)) = m by omega, List.length_append, List.length_singleton] at h1
                omega
              have HNn := Lib.hid hno
              clear hfull hno
              have kz5 := kz.below hbr5 hkz
              have f0 := kz5.frozen 0
              have f1 := kz5.frozen 1
              have f2 := kz5.frozen 2
              have y0 := kz5.cell 0
              have y1 := kz5.cell 1
              have y2 := kz5.cell 2
              have b05 := bb.trans (hbr5.mono bb.size)
              go_wp2
              refine bodyPost_ret (v := .tuple #[.agg #[.int .i64 0, .int .i64 0, .slice none 0 0], .bool false]) (by simp [results, Try.results18, go_sem, y0, y1, y2]) rfl ?_
              exact HNo.out _ _ _ HNn.out rfl (b05 |>.setCell (by simp) _ |>.setCell (by simp) _ |>.setCell (by simp) _)
            · have q1 : (((DD i).length : Int) == (mo : Int)) = false := by rw [beq_eq_false_iff_ne]; omega
              have hlt2 : (DD i).length + 1 ≤ mo := by omega
              clear hfull
              go_upto_region 13 with (first
                | (at_mapUpdate; (refine wpList_put_c rfl map_cb (.tmp 42) (.tmp 43) (.const (.bool true)) rfl (b := w1.heap.size) (l := keysL (DD i)) rfl [x, y, u, v] rfl (.bool true) rfl (HM.out.below hb5 hml) HCol.out HNw.out ?_); intro w6 hm6 hg6))
              have hs6 := hg6.size
              have hb6 : Below w1.heap.size w1 w6 := below_only hbr5 hg6 (by have := hbr5.size; omega) (Nat.le_refl _)
              have b06 := bb.trans (hb6.mono bb.size)
              have kq6 := kq.below hb6 hkq
              have k96 := k9.grown hg6 (by simp; omega)
              have x3 := kq6.cell 3
              have hrd := blk_rd (l := [x, y, u, v]) k96 nn
              rw [HC4i.out] at hrd
              have HCn := Lib.hid (clone_any (some ⟨g9, 0, none⟩) nn 4 (CA i) HCi.out.symm (by rw [HCi.out]; omega) w6 w6.heap.size (Nat.le_refl _) hrd)
              have hnn4 : (nn : Int) ≤ 4 := by omega
              have HO6 := Lib.hid (((HOw.out.keep IsR.good (Mod.of_fresh (M := fun _ => False) hb5) (fun _ _ _ h => h) (fun _ _ h => h)).weak IsR.good (D' := fun x => w3.heap.size ≤ x ∧ x < w5.heap.size) (fun b hb _ => ⟨hb.1, Nat.lt_of_lt_of_le hb.2 hb5.size⟩)).keep IsR.good (M := (· = w1.heap.size)) (Mod.of_only hg6 (fun _ => rfl)) (fun b hb _ e => by have := hb.1; omega) (fun b hb e => by have := (hoc b hb).1; omega))
              have HM6 := Lib.hid hm6
              clear z0 z1 z2 z3 hlk hrd hm6 k9 k96 HLk HPi
              go_wp2_with (first
                | (go_at_call 46; (with_reducible refine HCn.out.mono ?_); rintro e w7 ⟨A7, c7, rfl, how7, hb7⟩; have hs7 := hb7.size; obtain ⟨hq7, hc7, hr7⟩ := how7.rds; clear hq7; have HO7 := Lib.hid ((HO6.out.keep IsR.good (Mod.of_fresh (M := fun _ => False) hb7) (fun _ _ _ h => h) (fun _ _ h => h)).weak IsR.good (D' := fun x => w3.heap.size ≤ x ∧ x < w7.heap.size) (fun b hb _ => ⟨hb.1, by have := hb.2; omega⟩)))
                | (at_builtin; (refine wpList_push_G rfl (.tmp 44) (.tmp 50) _ rfl IsR.good w7 (.slice none 0 0) 24 Try.underlying23 info_ints rfl (by omega) rfl HO7.out (fun b => w6.heap.size ≤ b ∧ b < w7.heap.size) _ 1 [.slice A7 (CA i).length c7] (CA i) rfl rfl (show IsR _ _ _ _ from ⟨A7, c7, rfl, hc7, hr7.weak (fun b hb _ => ⟨hb.1, hb.2.1⟩)⟩) (fun x => w3.heap.size ≤ x ∧ x ≤ w7.heap.size) (fun b hb _ => ⟨hb.1, Nat.le_of_lt hb.2⟩) (fun b hb _ => ⟨by have := hb.1; omega, Nat.le_of_lt hb.2⟩) (fun b hb h => by have h1 := (hoc b hb).2; have h2 := h.1; omega) (fun b hb => hb.2) ⟨by omega, Nat.le_refl _⟩ (by omega) (by omega) ?_); intro v8 w8 ow8 hg8 hv8))
              have hs8 := hg8.size
              simp at hs8
              have b68 : Below w3.heap.size w6 w8 := Below.grown (below_alloc hb7 _ |>.mono (by omega)) hg8 (by simp; omega) (fun b hb => (hoc b hb).1)
              have b18 := hb6.trans (b68.mono (by omega))
              have HM8 := Lib.hid (HM6.out.below b68 (by omega))
              have HO8 := Lib.hid (ow8.weak IsR.good (D' := fun x => w3.heap.size ≤ x ∧ x < w8.heap.size) (fun b hb hl => ⟨hb.1, hl⟩))
              have HKs := Lib.hid (show keysL (DD i ++ [CA i]) = keysL (DD i) ++ [([x, y, u, v], Value.bool true)] by rw [keysL, List.map_append, ← hk4]; rfl)
              go_roundw
              case rel => repeat (first | exact ⟨i + 1, by omega, by go_num, by rw [HS.out, List.length_append, List.length_singleton]; exact hlt2, by rw [HS.out, HKs.out]; exact HM8.out, by rw [HS.out]; exact HO8.out, b18, by omega⟩ | refine Exists.intro _ ?_)
              case measure => simp [intOf]; omega
        · have him : i = m := by omega
          subst him
          obtain ⟨Ac, cc, rfl, hcc, _, hoc⟩ := HOw.out.form IsR.good
          have HSo := Lib.hid (sortll_any HOw.out (fun l hl => by rw [HDl.out i l hl]; omega) (by omega))
          have HL := Lib.hid hdl
          clear x0 x1 x2 x3
          go_upto_region 16 with (first
            | (go_at_call 47; (with_reducible refine HSo.out.mono ?_); rintro e w9 ⟨rfl, ys, hyp, hys, hyo, hym⟩))
          have hb9 : Below w1.heap.size w1 w9 := hbr.trans (hym.below (by have := hbr.size; omega) (fun b hb => by have := (hoc b hb).1; omega))
          have b09 := bb.trans (hb9.mono bb.size)
          have kq9 := kq.below hb9 hkq
          have kz9 := kz.below hb9 hkz
          have x2 := kq9.cell 2
          have x3 := kq9.cell 3
          have y0 := kz9.cell 0
          have y1 := kz9.cell 1
          have y2 := kz9.cell 2
          have f0 := kz9.frozen 0
          have f1 := kz9.frozen 1
          have f2 := kz9.frozen 2
          have hyl := hyp.length_eq
          have HYl := Lib.hid hyl
          have hdm : (DD i).length ≤ cc := hcc
          have HY := Lib.hid (HYes.out ys HL.out hyp (strict_of hyp (HDn.out i) hys))
          have HYo := Lib.hid hyo
          clear hyo hyp hys hyl HSo HOw
          generalize (DD i).length = dl at *
          go_wp2
          refine bodyPost_ret (v := .tuple #[.agg #[.int .i64 qd, .int .i64 (nn : Int), .slice Ac dl cc], .bool true]) (by simp [results, Try.results18, go_sem, y0, y1, y2]) rfl ?_
          have hm9 : Mod (· = w.heap.size + 1) w9 (((w9.setCell ⟨w.heap.size + 1, 0, none⟩ (.int .i64 qd)).setCell ⟨w.heap.size + 1, 1, none⟩ (.int .i64 (nn : Int))).setCell ⟨w.heap.size + 1, 2, none⟩ (.slice Ac dl cc)) := mod_put (mod_put (mod_put (Mod.refl _ _) (fun _ => rfl)) (fun _ => rfl)) (fun _ => rfl)
          have hfin := HYo.out.keep IsR.good hm9 (fun b hb _ e => by have := hb.1; omega) (fun b hb e => by have := (hoc b hb).1; omega)
          obtain ⟨A2, c2, hv, _, hrd⟩ := hfin.reads IsR.good (S := fun b => b < (((w9.setCell ⟨w.heap.size + 1, 0, none⟩ (.int .i64 qd)).setCell ⟨w.heap.size + 1, 1, none⟩ (.int .i64 (nn : Int))).setCell ⟨w.heap.size + 1, 2, none⟩ (.slice Ac dl cc)).heap.size) (fun b _ hl => hl)
          simp only [Value.slice.injEq] at hv
          obtain ⟨rfl, _, rfl⟩ := hv
          refine ⟨⟨qd, nn, ys⟩, true, _, _, by rw [palV, HYl.out], HY.out, by rw [HYl.out]; exact hdm, hrd.rdLL (fun b hb => hb), b09 |>.setCell (by simp) _ |>.setCell (by simp) _ |>.setCell (by simp) _⟩
    · exact of_head hr hB (.inr hmo)
  · exact of_head hr hB (.inl (by simpa using hq))
end Go.Proofs.Ytbbflddhbamjbaa
