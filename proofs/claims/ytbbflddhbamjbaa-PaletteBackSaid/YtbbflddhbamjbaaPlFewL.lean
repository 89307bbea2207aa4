/- A picture of numbers below three has few colours (plain). -/
import Derived.Test.YtbbflddhbamjbaaPlOf
set_option linter.unusedSimpArgs false
set_option linter.unusedVariables false
namespace Go.Proofs.Ytbbflddhbamjbaa
open Go.RowKit
theorem nodup_lt : ∀ (N : Nat) (l : List Nat), l.Nodup → (∀ x ∈ l, x < N) → l.length ≤ N
  | 0, l, _, h => by
    cases l with
    | nil => exact Nat.le_refl _
    | cons x t => exact absurd (h x (List.mem_cons_self ..)) (by omega)
  | N + 1, l, hn, h => by
    have h1 := nodup_lt N (l.erase N) (hn.erase N) (fun x hx => by
      have := (hn.mem_erase_iff).1 hx
      have := h x this.2
      omega)
    have h2 : l.length ≤ (l.erase N).length + 1 := by
      by_cases hm : N ∈ l
      · rw [List.length_erase_of_mem hm]; omega
      · rw [List.erase_of_not_mem hm]; omega
    omega
/-- a colour read as a number to the base three -/
def cod3 : List Int → Nat
  | [] => 0
  | x :: t => x.toNat + 3 * cod3 t
theorem cod3_lt : ∀ (l : List Int), (∀ x ∈ l, 0 ≤ x ∧ x < 3) → cod3 l < 3 ^ l.length
  | [], _ => by simp [cod3]
  | x :: t, h => by
    have h1 := cod3_lt t (fun y hy => h y (List.mem_cons_of_mem _ hy))
    have h2 := h x (List.mem_cons_self ..)
    rw [cod3, List.length_cons, Nat.pow_succ]
    omega
theorem cod3_inj : ∀ (l l' : List Int), l.length = l'.length → (∀ x ∈ l, 0 ≤ x ∧ x < 3) → (∀ x ∈ l', 0 ≤ x ∧ x < 3) → cod3 l = cod3 l' → l = l'
  | [], l', hl, _, _, _ => by
    cases l' with
    | nil => rfl
    | cons y t => cases hl
  | x :: t, l', hl, h, h', he => by
    cases l' with
    | nil => cases hl
    | cons y t' =>
      have h1 := h x (List.mem_cons_self ..)
      have h2 := h' y (List.mem_cons_self ..)
      rw [cod3, cod3] at he
      have h3 : cod3 t = cod3 t' := by omega
      have h4 : x = y := by omega
      rw [h4, cod3_inj t t' (by simpa using hl) (fun z hz => h z (List.mem_cons_of_mem _ hz)) (fun z hz => h' z (List.mem_cons_of_mem _ hz)) h3]
theorem nodup_map_on {α β : Type} {f : α → β} : ∀ {l : List α}, l.Nodup → (∀ x ∈ l, ∀ y ∈ l, f x = f y → x = y) → (l.map f).Nodup
  | [], _, _ => List.nodup_nil
  | x :: t, hn, h => by
    rw [List.map_cons, List.nodup_cons]
    obtain ⟨h1, h2⟩ := List.nodup_cons.1 hn
    refine ⟨fun hm => ?_, nodup_map_on h2 (fun y hy z hz => h y (List.mem_cons_of_mem _ hy) z (List.mem_cons_of_mem _ hz))⟩
    obtain ⟨y, hy, e⟩ := List.mem_map.1 hm
    have := h x (List.mem_cons_self ..) y (List.mem_cons_of_mem _ hy) e.symm
    subst this
    exact h1 hy
theorem few_len {l : List (List Int)} {n : Nat} (hn : l.Nodup) (h : ∀ r ∈ l, r.length = n ∧ ∀ x ∈ r, 0 ≤ x ∧ x < 3) : l.length ≤ 3 ^ n := by
  have h1 := nodup_map_on (f := cod3) hn (fun x hx y hy e => cod3_inj x y (by rw [(h x hx).1, (h y hy).1]) (h x hx).2 (h y hy).2 e)
  have h2 := nodup_lt (3 ^ n) _ h1 (fun c hc => by
    obtain ⟨r, hr, rfl⟩ := List.mem_map.1 hc
    have := cod3_lt r (h r hr).2
    rwa [(h r hr).1] at this)
  rwa [List.length_map] at h2
/-- few's picture has a palette -/
theorem few_of {q : Pc} (hq : isB q = true) (h3 : ∀ l ∈ q.p, ∀ x ∈ l, x < 3) : ofOk q 256 = true := by
  have hq' := hq
  rw [isB, Bool.and_eq_true, List.all_eq_true] at hq'
  have hps := hq'.1
  simp only [possB, decide_eq_true_eq] at hps
  have hlen : ∀ l ∈ q.p, (l.length : Int) = q.w * q.h ∧ ∀ x ∈ l, 0 ≤ x := fun l hl => by
    have h1 := hq'.2 l hl
    rw [okPl, Bool.and_eq_true, decide_eq_true_eq, List.all_eq_true] at h1
    refine ⟨h1.1, fun x hx => ?_⟩
    have h2 := h1.2 x hx
    simp only [okV, decide_eq_true_eq] at h2
    exact h2.1
  have h4 := few_len (l := ddT q.p (q.w * q.h).toNat) (n := q.p.length) (ddT_nodup _) (fun r hr => by
    obtain ⟨j, hj, rfl⟩ := ddT_mem.1 hr
    refine ⟨by simp [colAt], fun x hx => ?_⟩
    obtain ⟨l, hl, rfl⟩ := List.mem_map.1 hx
    obtain ⟨e, h0⟩ := hlen l hl
    have hjl : j < l.length := by omega
    have hm : l.getD j 0 ∈ l := by
      rw [List.getD_eq_getElem?_getD, List.getElem?_eq_getElem hjl]
      exact List.getElem_mem hjl
    exact ⟨h0 _ hm, h3 l hl _ hm⟩)
  have h5 : 3 ^ q.p.length ≤ 3 ^ 4 := Nat.pow_le_pow_right (by omega) (by omega)
  rw [ofOk, hq, Bool.true_and, Bool.and_eq_true, decide_eq_true_eq, decide_eq_true_eq]
  exact ⟨by omega, by omega⟩
/-- what Of answers where it finds a palette -/
theorem of_some {q : Pc} {most : Int} {P : Pal} {b : Bool} (h : OfIs q most P b) (ho : ofOk q most = true) (hq : isB q = true) : b = true ∧ 1 ≤ P.c.length ∧ P.c.length ≤ 256 := by
  obtain ⟨h1, h2⟩ := h
  rw [if_pos ho] at h2
  obtain ⟨_, _, h3, _⟩ := h2
  have ho' := ho
  rw [ofOk, Bool.and_eq_true, Bool.and_eq_true, decide_eq_true_eq, decide_eq_true_eq] at ho
  rw [isB, Bool.and_eq_true] at hq
  have hps := hq.1
  simp only [possB, decide_eq_true_eq] at hps
  obtain ⟨m1, m2⟩ := mul_64 (a := q.w) (b := q.h) (by omega) (by omega)
  have h5 : colAt q.p 0 ∈ ddT q.p (q.w * q.h).toNat := ddT_mem.2 ⟨0, by omega, rfl⟩
  have h6 := List.length_pos_of_mem h5
  have h7 := h3.length_eq
  exact ⟨h1.trans ho', by omega, by omega⟩
/-- the colours of a palette that Of answers are short -/
theorem of_63 {q : Pc} {most : Int} {P : Pal} {b : Bool} (h : OfIs q most P b) (hq : isB q = true) : Len63 P.c := by
  obtain ⟨h1, h2⟩ := h
  rw [isB, Bool.and_eq_true] at hq
  have hps := hq.1
  simp only [possB, decide_eq_true_eq] at hps
  split at h2
  · obtain ⟨_, _, h3, _⟩ := h2
    obtain ⟨m1, m2⟩ := mul_64 (a := q.w) (b := q.h) (by omega) (by omega)
    have h4 := ddT_len (p := q.p) (q.w * q.h).toNat
    have h5 := h3.length_eq
    refine ⟨by omega, fun l hl => ?_⟩
    obtain ⟨j, _, rfl⟩ := ddT_mem.1 (h3.mem_iff.1 hl)
    rw [colAt, List.length_map]
    omega
  · subst h2
    exact ⟨by simp [palZ], by simp [palZ]⟩
end Go.Proofs.Ytbbflddhbamjbaa
