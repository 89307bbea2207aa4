/- A palette ranked holds the same colours (plain). -/
import Derived.Test.YtbbflddhbamjbaaPlOf
import Derived.Test.YtbbflddhbamjbaaPlIdx
import Derived.Test.YtbbflddhbamjbaaPlPaint
import Derived.Test.YtbbflddhbamjbaaPlJoin
import Derived.Test.YtbbflddhbamjbaaPicCutL
import Derived.Test.YtbbflddhbamjbaaPlRank
set_option linter.unusedSimpArgs false
set_option linter.unusedVariables false
namespace Go.Proofs.Ytbbflddhbamjbaa
open Go.RowKit
theorem nodup_lt : ∀ (N : Nat) (l : List Nat), l.Nodup → (∀ x ∈ l, x < N) → l.length ≤ N
  | 0, l, _, h => by
    cases l with
    | nil => exact Nat.le_refl _
    | cons x t => exact absurd (h x (List.mem_cons_self ..)) (by omega)
  | N + 1, l, hn, h => by
    have h1 := nodup_lt N (l.erase N) (hn.erase N) (fun x hx => by
      have := (hn.mem_erase_iff).1 hx
      have := h x this.2
      omega)
    have h2 : l.length ≤ (l.erase N).length + 1 := by
      by_cases hm : N ∈ l
      · rw [List.length_erase_of_mem hm]; omega
      · rw [List.erase_of_not_mem hm]; omega
    omega
/-- a colour read as a number to the base three -/
def cod3 : List Int → Nat
  | [] => 0
  | x :: t => x.toNat + 3 * cod3 t
theorem cod3_lt : ∀ (l : List Int), (∀ x ∈ l, 0 ≤ x ∧ x < 3) → cod3 l < 3 ^ l.length
  | [], _ => by simp [cod3]
  | x :: t, h => by
    have h1 := cod3_lt t (fun y hy => h y (List.mem_cons_of_mem _ hy))
    have h2 := h x (List.mem_cons_self ..)
    rw [cod3, List.length_cons, Nat.pow_succ]
    omega
theorem cod3_inj : ∀ (l l' : List Int), l.length = l'.length → (∀ x ∈ l, 0 ≤ x ∧ x < 3) → (∀ x ∈ l', 0 ≤ x ∧ x < 3) → cod3 l = cod3 l' → l = l'
  | [], l', hl, _, _, _ => by
    cases l' with
    | nil => rfl
    | cons y t => cases hl
  | x :: t, l', hl, h, h', he => by
    cases l' with
    | nil => cases hl
    | cons y t' =>
      have h1 := h x (List.mem_cons_self ..)
      have h2 := h' y (List.mem_cons_self ..)
      rw [cod3, cod3] at he
      have h3 : cod3 t = cod3 t' := by omega
      have h4 : x = y := by omega
      rw [h4, cod3_inj t t' (by simpa using hl) (fun z hz => h z (List.mem_cons_of_mem _ hz)) (fun z hz => h' z (List.mem_cons_of_mem _ hz)) h3]
theorem nodup_map_on {α β : Type} {f : α → β} : ∀ {l : List α}, l.Nodup → (∀ x ∈ l, ∀ y ∈ l, f x = f y → x = y) → (l.map f).Nodup
  | [], _, _ => List.nodup_nil
  | x :: t, hn, h => by
    rw [List.map_cons, List.nodup_cons]
    obtain ⟨h1, h2⟩ := List.nodup_cons.1 hn
    refine ⟨fun hm => ?_, nodup_map_on h2 (fun y hy z hz => h y (List.mem_cons_of_mem _ hy) z (List.mem_cons_of_mem _ hz))⟩
    obtain ⟨y, hy, e⟩ := List.mem_map.1 hm
    have := h x (List.mem_cons_self ..) y (List.mem_cons_of_mem _ hy) e.symm
    subst this
    exact h1 hy
theorem few_len {l : List (List Int)} {n : Nat} (hn : l.Nodup) (h : ∀ r ∈ l, r.length = n ∧ ∀ x ∈ r, 0 ≤ x ∧ x < 3) : l.length ≤ 3 ^ n := by
  have h1 := nodup_map_on (f := cod3) hn (fun x hx y hy e => cod3_inj x y (by rw [(h x hx).1, (h y hy).1]) (h x hx).2 (h y hy).2 e)
  have h2 := nodup_lt (3 ^ n) _ h1 (fun c hc => by
    obtain ⟨r, hr, rfl⟩ := List.mem_map.1 hc
    have := cod3_lt r (h r hr).2
    rwa [(h r hr).1] at this)
  rwa [List.length_map] at h2
/-- few's picture has a palette -/
theorem few_of {q : Pc} (hq : isB q = true) (h3 : ∀ l ∈ q.p, ∀ x ∈ l, x < 3) : ofOk q 256 = true := by
  have hq' := hq
  rw [isB, Bool.and_eq_true, List.all_eq_true] at hq'
  have hps := hq'.1
  simp only [possB, decide_eq_true_eq] at hps
  have hlen : ∀ l ∈ q.p, (l.length : Int) = q.w * q.h ∧ ∀ x ∈ l, 0 ≤ x := fun l hl => by
    have h1 := hq'.2 l hl
    rw [okPl, Bool.and_eq_true, decide_eq_true_eq, List.all_eq_true] at h1
    refine ⟨h1.1, fun x hx => ?_⟩
    have h2 := h1.2 x hx
    simp only [okV, decide_eq_true_eq] at h2
    exact h2.1
  have h4 := few_len (l := ddT q.p (q.w * q.h).toNat) (n := q.p.length) (ddT_nodup _) (fun r hr => by
    obtain ⟨j, hj, rfl⟩ := ddT_mem.1 hr
    refine ⟨by simp [colAt], fun x hx => ?_⟩
    obtain ⟨l, hl, rfl⟩ := List.mem_map.1 hx
    obtain ⟨e, h0⟩ := hlen l hl
    have hjl : j < l.length := by omega
    have hm : l.getD j 0 ∈ l := by
      rw [List.getD_eq_getElem?_getD, List.getElem?_eq_getElem hjl]
      exact List.getElem_mem hjl
    exact ⟨h0 _ hm, h3 l hl _ hm⟩)
  have h5 : 3 ^ q.p.length ≤ 3 ^ 4 := Nat.pow_le_pow_right (by omega) (by omega)
  rw [ofOk, hq, Bool.true_and, Bool.and_eq_true, decide_eq_true_eq, decide_eq_true_eq]
  exact ⟨by omega, by omega⟩
/-- what Of answers where it finds a palette -/
theorem of_some {q : Pc} {most : Int} {P : Pal} {b : Bool} (h : OfIs q most P b) (ho : ofOk q most = true) (hq : isB q = true) : b = true ∧ 1 ≤ P.c.length ∧ P.c.length ≤ 256 := by
  obtain ⟨h1, h2⟩ := h
  rw [if_pos ho] at h2
  obtain ⟨_, _, h3, _⟩ := h2
  have ho' := ho
  rw [ofOk, Bool.and_eq_true, Bool.and_eq_true, decide_eq_true_eq, decide_eq_true_eq] at ho
  rw [isB, Bool.and_eq_true] at hq
  have hps := hq.1
  simp only [possB, decide_eq_true_eq] at hps
  obtain ⟨m1, m2⟩ := mul_64 (a := q.w) (b := q.h) (by omega) (by omega)
  have h5 : colAt q.p 0 ∈ ddT q.p (q.w * q.h).toNat := ddT_mem.2 ⟨0, by omega, rfl⟩
  have h6 := List.length_pos_of_mem h5
  have h7 := h3.length_eq
  exact ⟨h1.trans ho', by omega, by omega⟩
/-- the colours of a palette that Of answers are short -/
theorem of_63 {q : Pc} {most : Int} {P : Pal} {b : Bool} (h : OfIs q most P b) (hq : isB q = true) : Len63 P.c := by
  obtain ⟨h1, h2⟩ := h
  rw [isB, Bool.and_eq_true] at hq
  have hps := hq.1
  simp only [possB, decide_eq_true_eq] at hps
  split at h2
  · obtain ⟨_, _, h3, _⟩ := h2
    obtain ⟨m1, m2⟩ := mul_64 (a := q.w) (b := q.h) (by omega) (by omega)
    have h4 := ddT_len (p := q.p) (q.w * q.h).toNat
    have h5 := h3.length_eq
    refine ⟨by omega, fun l hl => ?_⟩
    obtain ⟨j, _, rfl⟩ := ddT_mem.1 (h3.mem_iff.1 hl)
    rw [colAt, List.length_map]
    omega
  · subst h2
    exact ⟨by simp [palZ], by simp [palZ]⟩
end Go.Proofs.Ytbbflddhbamjbaa

namespace Go.Proofs.Ytbbflddhbamjbaa
open Go.RowKit
/-- a palette that Of answers -/
theorem of_pal {q : Pc} {P : Pal} {b : Bool} (h : OfIs q 256 P b) (ho : ofOk q 256 = true) (hq : isB q = true) :
    palB P = true ∧ P.d = q.d ∧ P.n = q.p.length ∧ (∀ x, x ∈ P.c ↔ ∃ j, j < (q.w * q.h).toNat ∧ x = colAt q.p j) := by
  have hs := of_some h ho hq
  obtain ⟨h1, h2⟩ := h
  rw [if_pos ho] at h2
  obtain ⟨e1, e2, h3, h4⟩ := h2
  have hm : ∀ x, x ∈ P.c ↔ ∃ j, j < (q.w * q.h).toNat ∧ x = colAt q.p j := fun x => by rw [h3.mem_iff, ddT_mem]
  have hq' := hq
  rw [isB, Bool.and_eq_true, List.all_eq_true] at hq'
  have hps := hq'.1
  simp only [possB, decide_eq_true_eq] at hps
  refine ⟨palB_mk ?_ (fun r hr => ?_) (h3.nodup_iff.2 (ddT_nodup _)), e1, e2, hm⟩
  · simp only [headB, decide_eq_true_eq]
    rw [e1, e2]
    omega
  · obtain ⟨j, hj, rfl⟩ := (hm r).1 hr
    refine ⟨by rw [e2, colAt, List.length_map], fun x hx => ?_⟩
    obtain ⟨l, hl, rfl⟩ := List.mem_map.1 hx
    have h5 := hq'.2 l hl
    rw [okPl, Bool.and_eq_true, decide_eq_true_eq, List.all_eq_true] at h5
    have hjl : j < l.length := by have := h5.1; omega
    rw [e1]
    refine h5.2 _ ?_
    rw [List.getD_eq_getElem?_getD, List.getElem?_eq_getElem hjl]
    exact List.getElem_mem hjl
/-- a palette that holds a picture's colours -/
theorem idx_of {q : Pc} {P : Pal} (hP : palB P = true) (hq : isB q = true) (hd : P.d = q.d) (hn : P.n = q.p.length) (hc : ∀ j, j < (q.w * q.h).toNat → colAt q.p j ∈ P.c) : idxB q P = true ∧ idxL q P = (List.range (q.w * q.h).toNat).map fun i => findI P.c (colAt q.p i) :=
  idx_yes (by rw [idxOk, hP, hq, decide_eq_true hd, decide_eq_true hn]; rfl) hc
theorem findI_get {c : List (List Int)} {r : List Int} (h : r ∈ c) : ∃ i : Nat, findI c r = i ∧ i < c.length ∧ c.getD i [] = r := by
  rw [findI, if_pos h]
  refine ⟨_, rfl, List.idxOf_lt_length_iff.2 h, ?_⟩
  rw [List.getD_eq_getElem?_getD, List.getElem?_eq_getElem (List.idxOf_lt_length_iff.2 h)]
  simp
/-- painted back -/
theorem paint_idx {q : Pc} {P : Pal} (h : idxB q P = true) : paintE (idxL q P) q.w q.h P = 0 ∧ paintQ (idxL q P) q.w q.h P = q := by
  have h' := h
  rw [idxB, Bool.and_eq_true, List.all_eq_true] at h
  obtain ⟨h1, h2⟩ := h
  simp only [idxOk, Bool.and_eq_true, decide_eq_true_eq] at h1
  obtain ⟨⟨⟨hP, hq⟩, hd⟩, hn⟩ := h1
  have hc : ∀ j, j < (q.w * q.h).toNat → colAt q.p j ∈ P.c := fun j hj => of_decide_eq_true (h2 j (List.mem_range.2 hj))
  have hL : idxL q P = (List.range (q.w * q.h).toNat).map fun i => findI P.c (colAt q.p i) := by rw [idxL, if_pos h']
  have hq' := hq
  rw [isB, Bool.and_eq_true, List.all_eq_true] at hq'
  have hps := hq'.1
  simp only [possB, decide_eq_true_eq] at hps
  obtain ⟨m1, m2⟩ := mul_64 (a := q.w) (b := q.h) (by omega) (by omega)
  have hok : paintOk (idxL q P) q.w q.h P = true := by
    rw [paintOk, hP, Bool.true_and, decide_eq_true_eq, hL, List.length_map, List.length_range]
    omega
  have hall : (idxL q P).all (inB P) = true := by
    rw [List.all_eq_true]
    intro x hx
    obtain ⟨i, rfl, hi⟩ := idxL_in x hx
    simp only [inB, decide_eq_true_eq]
    omega
  obtain ⟨e1, e2⟩ := paint_yes hok hall
  refine ⟨e1, ?_⟩
  rw [e2]
  obtain ⟨qw, qh, qd, qp⟩ := q
  simp only at *
  have hpl : paintL (idxL ⟨qw, qh, qd, qp⟩ P) P P.n.toNat = qp := by
    refine List.ext_getElem (by rw [paintL_len, hn]; simp) fun k k1 k2 => ?_
    simp only [paintL, List.getElem_map, List.getElem_range]
    have hk := hq'.2 qp[k] (List.getElem_mem k2)
    rw [okPl, Bool.and_eq_true, decide_eq_true_eq] at hk
    have hkl := hk.1
    simp only at hkl
    refine List.ext_getElem (by rw [paintK_len, hL, List.length_map, List.length_range]; omega) fun i i1 i2 => ?_
    have him : i < (qw * qh).toNat := by omega
    simp only [paintK, hL, List.getElem_map, List.getElem_range]
    obtain ⟨j, hj, _, hg⟩ := findI_get (hc i him)
    rw [hj, Int.toNat_natCast, hg, colAt, List.getD_eq_getElem?_getD, List.getElem?_map, List.getElem?_eq_getElem k2]
    simp only [Option.map_some, Option.getD_some]
    rw [List.getD_eq_getElem?_getD, List.getElem?_eq_getElem i2]
    rfl
  rw [hpl, hd]
/-- a palette joined is one -/
theorem join_may (a b : Pal) : palB (joinP a b) = joinB a b := by
  rw [joinP]
  by_cases h : joinB a b = true
  · rw [if_pos h, h]
    rw [joinB, Bool.and_eq_true] at h
    rw [joined_may h.1]
    exact h.2
  · rw [if_neg h, Bool.eq_false_iff.2 h]
    decide
theorem joinC_left {a b : Pal} {x : List Int} (h : x ∈ a.c) : x ∈ joinC a b := List.mem_append.2 (.inl h)
theorem joinC_right {a b : Pal} {x : List Int} (h : x ∈ b.c) : x ∈ joinC a b := by
  by_cases hx : x ∈ a.c
  · exact joinC_left hx
  · exact List.mem_append.2 (.inr (List.mem_filter.2 ⟨h, by simp [hx]⟩))
theorem joinC_len (a b : Pal) : (joinC a b).length ≤ a.c.length + b.c.length := by
  rw [← joinK_full]; exact joinK_len
/-- a part of a picture -/
theorem colAt_cut {p : List (List Int)} {W H x y a b : Nat} (hl : ∀ l ∈ p, l.length = W * H) (hi : insB W H x y a b = true) {k : Nat} (hk : k < b * a) : colAt (cutLL p W x y a b) k = colAt p ((y + k / a) * W + x + k % a) := by
  simp only [insB, decide_eq_true_eq] at hi
  rw [colAt, colAt, cutLL, List.map_map]
  refine List.map_congr_left fun l hm => ?_
  show (cutPl l W x y a b).getD k 0 = _
  exact cutPl_get (by omega) b (fun r hr => rows_in (hl l hm) (by omega) (by omega)) k hk
theorem part_in {W H x y a b k : Nat} (hi : insB W H x y a b = true) (hk : k < b * a) : (y + k / a) * W + x + k % a < W * H := by
  obtain ⟨h1, h2, h3, h4, h5⟩ := ins_rows (L := W * H) hi rfl
  have h6 : k / a < b := Nat.div_lt_of_lt_mul (by rw [Nat.mul_comm]; exact hk)
  have h7 := Nat.mod_lt k h4
  have h8 := h1 (k / a) h6
  omega
theorem part_idx {W H x y a b : Nat} {d : Int} {p : List (List Int)} {P : Pal} (h : idxB ⟨W, H, d, p⟩ P = true) (hi : insB W H x y a b = true) :
    idxB ⟨a, b, d, cutLL p W x y a b⟩ P = true ∧ idxL ⟨a, b, d, cutLL p W x y a b⟩ P = cutPl (idxL ⟨W, H, d, p⟩ P) W x y a b ∧ (idxL ⟨W, H, d, p⟩ P).length = W * H ∧ (∀ r, r < b → (y + r) * W + x + a ≤ W * H) := by
  have h' := h
  rw [idxB, Bool.and_eq_true, List.all_eq_true] at h
  obtain ⟨h1, h2⟩ := h
  simp only [idxOk, Bool.and_eq_true, decide_eq_true_eq] at h1
  obtain ⟨⟨⟨hP, hq⟩, hd⟩, hn⟩ := h1
  have hWH : ((W : Int) * (H : Int)).toNat = W * H := by
    have : (W : Int) * (H : Int) = ((W * H : Nat) : Int) := by simp
    rw [this, Int.toNat_natCast]
  have hab : ((a : Int) * (b : Int)).toNat = a * b := by
    have : (a : Int) * (b : Int) = ((a * b : Nat) : Int) := by simp
    rw [this, Int.toNat_natCast]
  have hc : ∀ j, j < W * H → colAt p j ∈ P.c := fun j hj => of_decide_eq_true (h2 j (List.mem_range.2 (by simp only; rw [hWH]; exact hj)))
  have hL : idxL ⟨W, H, d, p⟩ P = (List.range (W * H)).map fun i => findI P.c (colAt p i) := by rw [idxL, if_pos h']; simp only; rw [hWH]
  obtain ⟨h3, _, _, h4, h5⟩ := ins_rows (L := W * H) hi rfl
  obtain ⟨_, _, _, _, _, _, _, _, b9⟩ := isB_all hq
  have hpl : ∀ l ∈ p, l.length = W * H := fun l hl => (b9 l hl).1
  have hcol : ∀ k, k < b * a → colAt (cutLL p W x y a b) k = colAt p ((y + k / a) * W + x + k % a) := fun k hk => colAt_cut hpl hi hk
  obtain ⟨e1, e2⟩ := idx_of (q := ⟨a, b, d, cutLL p W x y a b⟩) hP (cutLL_isB hq hi) hd (by simp only [cutLL, List.length_map]; exact hn) (fun j hj => by
    simp only at hj ⊢
    rw [hab, Nat.mul_comm] at hj
    rw [hcol j hj]
    exact hc _ (part_in hi hj))
  have hLl : (idxL ⟨W, H, d, p⟩ P).length = W * H := by rw [hL, List.length_map, List.length_range]
  refine ⟨e1, ?_, hLl, h3⟩
  rw [e2]
  simp only
  rw [hab]
  refine ext_get ?_ fun k hk => ?_
  · rw [cutPl_length b (by rw [hLl]; exact h3), List.length_map, List.length_range, Nat.mul_comm]
  · rw [List.length_map, List.length_range] at hk
    have hk' : k < b * a := by rw [Nat.mul_comm]; exact hk
    rw [cutPl_get h4 b (by rw [hLl]; exact h3) k hk', hL]
    have h6 := part_in hi hk'
    rw [List.getD_eq_getElem?_getD, List.getElem?_map, List.getElem?_range hk, List.getD_eq_getElem?_getD, List.getElem?_map, List.getElem?_range h6]
    simp only [Option.map_some, Option.getD_some]
    rw [hcol k hk']
theorem palB_63 {P : Pal} (h : palB P = true) : Len63 P.c := by
  have h1 := rows_of h
  rw [palB_iff] at h
  have h2 := h.1
  simp only [headB, decide_eq_true_eq] at h2
  exact ⟨by omega, fun l hl => by have := (h1.1 l hl).1; omega⟩
theorem join_63 (a b : Pal) : Len63 (joinP a b).c := by
  by_cases h : joinB a b = true
  · exact palB_63 (by rw [join_may]; exact h)
  · rw [joinP, if_neg h]
    exact ⟨by simp [palZ], by simp [palZ]⟩
/-- two palettes alike, few colours together: joined, it holds the second's picture -/
theorem join_yes {a b : Pal} {q : Pc} (ha : palB a = true) (hb : palB b = true) (hd : a.d = b.d) (hn : a.n = b.n) (hl : a.c.length + b.c.length ≤ 256) (hq : isB q = true) (hqd : b.d = q.d) (hqn : b.n = q.p.length) (hc : ∀ j, j < (q.w * q.h).toNat → colAt q.p j ∈ b.c) :
    joinB a b = true ∧ idxB q (joinP a b) = true ∧ (joinP a b).c.length ≤ a.c.length + b.c.length := by
  have hj : joinB a b = true := by
    rw [joinB, joinOk, ha, hb, decide_eq_true (And.intro hd hn), decide_eq_true (Nat.le_trans (joinC_len a b) hl)]; rfl
  have hP : joinP a b = ⟨a.d, a.n, joinC a b⟩ := by rw [joinP, if_pos hj]
  have hM := join_may a b
  rw [hj] at hM
  refine ⟨hj, ?_, ?_⟩
  · refine (idx_of hM hq ?_ ?_ fun j hj' => ?_).1
    · rw [hP, ← hqd]; exact hd
    · rw [hP, ← hqn]; exact hn
    · rw [hP]; exact joinC_right (hc j hj')
  · rw [hP]; exact joinC_len a b
end Go.Proofs.Ytbbflddhbamjbaa

namespace Go.Proofs.Ytbbflddhbamjbaa
open Go.RowKit
theorem srt_perm {N : Nat} {lt : SI N → SI N → Bool} (h : LeO lt) {l l' : List (SI N)} (hs : Srt lt l l') : l'.Perm l := by
  rw [List.perm_iff_count]
  intro x
  have h1 := hs x
  have key : ∀ m : List (SI N), (m.filter (eqv lt x)).count x = m.count x := fun m => by
    rw [List.count_filter (eqv_self h x)]
  rw [← key l', ← key l, h1]
theorem map_fin (c : List (List Int)) (N : Nat) (h : c.length = N + 1) : (List.finRange (N + 1)).map (fun i => c.getD i.val []) = c := by
  refine List.ext_getElem (by simp [h]) fun i h1 h2 => ?_
  rw [List.getElem_map, List.getElem_finRange]
  exact getDL h2
/-- the same palette in another order -/
theorem palB_perm {P Q : Pal} (h : palB P = true) (hd : Q.d = P.d) (hn : Q.n = P.n) (hp : Q.c.Perm P.c) : palB Q = true := by
  have h1 := rows_of h
  rw [palB_iff] at h
  have h2 := h.1
  simp only [headB, decide_eq_true_eq] at h2
  refine palB_mk ?_ (fun r hr => ?_) (hp.nodup_iff.2 h1.2)
  · simp only [headB, decide_eq_true_eq]
    rw [hd, hn, hp.length_eq]
    exact h2
  · rw [hd, hn]
    exact h1.1 r (hp.mem_iff.1 hr)
theorem rank_perm {q : Pc} {P Q : Pal} {b : Bool} (h : RankIs q P Q b) (hi : idxB q P = true) : b = true ∧ Q.d = P.d ∧ Q.n = P.n ∧ Q.c.Perm P.c := by
  obtain ⟨h1, h2⟩ := h
  rw [if_pos hi] at h2
  obtain ⟨e1, e2, N, os, hN, hs, _, e3⟩ := h2
  refine ⟨h1.trans hi, e1, e2, ?_⟩
  rw [e3]
  have h4 := (srt_perm (ltC_leO _) hs).map (fun i : SI N => P.c.getD i.val [])
  rwa [map_fin P.c N hN] at h4
theorem rank_idx {q : Pc} {P Q : Pal} {b : Bool} (h : RankIs q P Q b) (hi : idxB q P = true) : idxB q Q = true := by
  obtain ⟨_, e1, e2, e3⟩ := rank_perm h hi
  rw [idxB, Bool.and_eq_true, List.all_eq_true] at hi
  obtain ⟨h1, h2⟩ := hi
  simp only [idxOk, Bool.and_eq_true, decide_eq_true_eq] at h1
  obtain ⟨⟨⟨hP, hq⟩, hd⟩, hn⟩ := h1
  exact (idx_of (palB_perm hP e1 e2 e3) hq (e1.trans hd) (e2.trans hn) fun j hj => e3.mem_iff.2 (of_decide_eq_true (h2 j (List.mem_range.2 hj)))).1
theorem join_idx {q : Pc} {a b : Pal} (hj : joinB a b = true) (hi : idxB q a = true) : idxB q (joinP a b) = true := by
  have hM := join_may a b
  rw [hj] at hM
  have hP : joinP a b = ⟨a.d, a.n, joinC a b⟩ := by rw [joinP, if_pos hj]
  rw [idxB, Bool.and_eq_true, List.all_eq_true] at hi
  obtain ⟨h1, h2⟩ := hi
  simp only [idxOk, Bool.and_eq_true, decide_eq_true_eq] at h1
  obtain ⟨⟨⟨_, hq⟩, hd⟩, hn⟩ := h1
  refine (idx_of hM hq ?_ ?_ fun j hj' => ?_).1
  · rw [hP]; exact hd
  · rw [hP]; exact hn
  · rw [hP]; exact joinC_left (of_decide_eq_true (h2 j (List.mem_range.2 hj')))
end Go.Proofs.Ytbbflddhbamjbaa
