/- Hue: planes half written; kinds by one contract. -/
import Derived.Test.YticjiodnolngcaaHueP
set_option linter.unusedSimpArgs false
set_option linter.unusedVariables false
namespace Go.Proofs.Yticjiodnolngcaa
open Go.RowKit

def mixLL (f : C4 → C4) (p : List (List Int)) (N n k : Nat) : List (List Int) := (List.range p.length).map fun j => (List.range N).map fun i => if i < n ∨ (i = n ∧ j < k) then (f (colC p i)).sel j else (p.getD j []).getD i 0
theorem mixLL_length (f : C4 → C4) (p : List (List Int)) (N n k : Nat) : (mixLL f p N n k).length = p.length := by simp [mixLL]
theorem mixLL_get {f : C4 → C4} {p : List (List Int)} {N n k j : Nat} (hj : j < p.length) : (mixLL f p N n k).getD j [] = (List.range N).map fun i => if i < n ∨ (i = n ∧ j < k) then (f (colC p i)).sel j else (p.getD j []).getD i 0 := by
  simp [mixLL, List.getD, hj]
theorem mixLL_row {f : C4 → C4} {p : List (List Int)} {N n k j : Nat} (hj : j < p.length) : ((mixLL f p N n k).getD j []).length = N := by
  rw [mixLL_get hj]
  simp
theorem mixLL_zero {f : C4 → C4} {p : List (List Int)} {N : Nat} (h : ∀ l ∈ p, l.length = N) : mixLL f p N 0 0 = p := by
  refine List.ext_getElem (mixLL_length _ _ _ _ _) fun j h1 h2 => ?_
  have hl := h p[j] (List.getElem_mem h2)
  simp only [mixLL, List.getElem_map, List.getElem_range]
  refine List.ext_getElem (by simp [hl]) fun i h3 h4 => ?_
  simp [List.getD, h2, h4]
theorem mixLL_next (f : C4 → C4) (p : List (List Int)) (N n : Nat) : mixLL f p N n p.length = mixLL f p N (n + 1) 0 := by
  unfold mixLL
  refine List.map_congr_left fun j hj => List.map_congr_left fun i _ => ?_
  rw [List.mem_range] at hj
  have : (i < n ∨ (i = n ∧ j < p.length)) ↔ (i < n + 1 ∨ (i = n + 1 ∧ j < 0)) := by omega
  simp only [this]
theorem mixLL_set {f : C4 → C4} {p : List (List Int)} {N n k : Nat} (hk : k < p.length) (hn : n < N) :
    (mixLL f p N n k).set k (((mixLL f p N n k).getD k []).set n ((f (colC p n)).sel k)) = mixLL f p N n (k + 1) := by
  refine List.ext_getElem (by simp [mixLL]) fun j h1 h2 => ?_
  have hj : j < p.length := by rwa [mixLL_length] at h2
  rw [List.getElem_set]
  by_cases hjk : k = j
  · subst hjk
    rw [if_pos rfl, mixLL_get hk]
    simp only [mixLL, List.getElem_map, List.getElem_range]
    refine List.ext_getElem (by simp) fun i h3 h4 => ?_
    rw [List.getElem_set]
    simp only [List.getElem_map, List.getElem_range]
    by_cases hin : n = i
    · subst hin
      rw [if_pos rfl, if_pos (by omega)]
    · rw [if_neg hin]
      have : (i < n ∨ (i = n ∧ k < k)) ↔ (i < n ∨ (i = n ∧ k < k + 1)) := by omega
      simp only [this]
  · rw [if_neg hjk]
    simp only [mixLL, List.getElem_map, List.getElem_range]
    refine List.map_congr_left fun i _ => ?_
    have : (i < n ∨ (i = n ∧ j < k)) ↔ (i < n ∨ (i = n ∧ j < k + 1)) := by omega
    simp only [this]
theorem mixLL_end (f : C4 → C4) (p : List (List Int)) (N : Nat) : mixLL f p N N 0 = hueLL f p N := by
  unfold mixLL hueLL
  refine List.map_congr_left fun j hj => List.map_congr_left fun i hi => ?_
  rw [List.mem_range] at hi
  rw [if_pos (by omega)]

theorem colC_ok {W H : Nat} {d : Int} {p : List (List Int)} (h : isB ⟨W, H, d, p⟩ = true) (i : Nat) : (colC p i).ok d := by
  obtain ⟨_, _, _, _, b5, b6, _, _, b9⟩ := isB_all h
  have hp := (pow_16 (k := d.toNat) (by omega) (by omega)).1
  have key : ∀ j, 0 ≤ (p.getD j []).getD i 0 ∧ (p.getD j []).getD i 0 < 2 ^ d.toNat := fun j => by
    rcases Nat.lt_or_ge j p.length with hj | hj
    · obtain ⟨_, hv⟩ := b9 _ (mem_getD hj)
      generalize p.getD j [] = l at *
      rcases Nat.lt_or_ge i l.length with hi | hi
      · have := hv (l.getD i 0) (by simp [List.getD, hi])
        simpa [okV] using this
      · simp only [List.getD, List.getElem?_eq_none hi, Option.getD_none]
        omega
    · simp only [List.getD, List.getElem?_eq_none hj, Option.getD_none, List.getElem?_nil]
      omega
  exact ⟨key 0, key 1, key 2, key 3⟩
theorem hueLL_isB {W H : Nat} {d : Int} {p : List (List Int)} (h : isB ⟨W, H, d, p⟩ = true) {f : C4 → C4} (hf : ∀ x : C4, x.ok d → (f x).ok d) : isB ⟨W, H, d, hueLL f p (W * H)⟩ = true := by
  obtain ⟨b1, b2, b3, b4, b5, b6, b7, b8, b9⟩ := isB_all h
  refine isB_mk b1 b2 b3 b4 b5 b6 (by simpa [hueLL] using b7) (by simpa [hueLL] using b8) fun l hl => ?_
  simp only [hueLL, List.mem_map, List.mem_range] at hl
  obtain ⟨k, hk, rfl⟩ := hl
  refine ⟨by simp, fun v hv => ?_⟩
  simp only [List.mem_map, List.mem_range] at hv
  obtain ⟨i, hi, rfl⟩ := hv
  obtain ⟨h1, h2, h3, h4⟩ := hf _ (colC_ok h i)
  simp only [okV, decide_eq_true_eq, C4.sel]
  split
  · exact decide_eq_true h1
  · split
    · exact decide_eq_true h2
    · split
      · exact decide_eq_true h3
      · exact decide_eq_true h4

theorem forepoint_any (x : C4) (kind d : Int) (hd : 1 ≤ d ∧ d ≤ 16) (hx : x.ok d) (w : World) :
    Calls Try.prog 32 #[.agg #[.int .i64 x.a, .int .i64 x.b, .int .i64 x.c, .int .i64 x.e], .int .i64 kind, .int .i64 d] w fun en w' => en = .returned (.agg #[.int .i64 (foreC kind d x).a, .int .i64 (foreC kind d x).b, .int .i64 (foreC kind d x).c, .int .i64 (foreC kind d x).e]) ∧ Below w.heap.size w w' := by
  have hs := C4.ok_small hd hx
  obtain ⟨a, b, c, e⟩ := x
  by_cases k1 : kind = 1
  · subst k1; exact fore_1 a b c e hs d hd w
  · by_cases k2 : kind = 2
    · subst k2; exact fore_2 a b c e hs d hd w
    · by_cases k3 : kind = 3
      · subst k3; exact fore_3 a b c e hs d hd w
      · by_cases k4 : kind = 4
        · subst k4; exact fore_4 a b c e hs d hd w
        · exact fore_o a b c e hs d hd kind k1 k2 k3 k4 w
theorem backpoint_any (x : C4) (kind d : Int) (hd : 1 ≤ d ∧ d ≤ 16) (hx : x.ok d) (w : World) :
    Calls Try.prog 35 #[.agg #[.int .i64 x.a, .int .i64 x.b, .int .i64 x.c, .int .i64 x.e], .int .i64 kind, .int .i64 d] w fun en w' => en = .returned (.agg #[.int .i64 (backC kind d x).a, .int .i64 (backC kind d x).b, .int .i64 (backC kind d x).c, .int .i64 (backC kind d x).e]) ∧ Below w.heap.size w w' := by
  have hs := C4.ok_small hd hx
  obtain ⟨a, b, c, e⟩ := x
  by_cases k1 : kind = 1
  · subst k1; exact back_1 a b c e hs d hd w
  · by_cases k2 : kind = 2
    · subst k2; exact back_2 a b c e hs d hd w
    · by_cases k3 : kind = 3
      · subst k3; exact back_3 a b c e hs d hd w
      · by_cases k4 : kind = 4
        · subst k4; exact back_4 a b c e hs d hd w
        · exact back_o a b c e hs d hd kind k1 k2 k3 k4 w
end Go.Proofs.Yticjiodnolngcaa
