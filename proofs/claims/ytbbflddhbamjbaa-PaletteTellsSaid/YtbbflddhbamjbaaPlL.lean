/- Palettes, plain. -/
import Derived.Test.YtbbflddhbamjbaaPicIs
import Derived.Test.YtbbflddhbamjbaaPlMap
set_option linter.unusedSimpArgs false
set_option linter.unusedVariables false
namespace Go.Proofs.Ytbbflddhbamjbaa
open Go.RowKit

/-- a palette: depth, planes, colours -/
structure Pal where
  d : Int
  n : Int
  c : List (List Int)
def palV (P : Pal) (A : Option Addr) (c : Nat) : Value := .agg #[.int .i64 P.d, .int .i64 P.n, .slice A P.c.length c]
def palZ : Pal := ⟨0, 0, []⟩
/-- a colour as a key -/
def keyC (l : List Int) : List Int := (l ++ List.replicate 4 0).take 4
theorem keyC_len (l : List Int) : (keyC l).length = 4 := by simp [keyC]
theorem keyC_inj {n : Nat} (hn : n ≤ 4) {a b : List Int} (ha : a.length = n) (hb : b.length = n) (h : keyC a = keyC b) : a = b := by
  have e : ∀ l : List Int, l.length = n → (keyC l).take n = l := fun l hl => by
    rw [keyC, List.take_take, Nat.min_eq_left hn, List.take_append_of_le_length (by omega), List.take_of_length_le (by omega)]
  rw [← e a ha, ← e b hb, h]
theorem keyC_col {l : List Int} (h : ∀ x ∈ l, c64 x) : Col (keyC l) := ⟨keyC_len l, fun x hx => by
  have hx := List.mem_of_mem_take hx
  rcases List.mem_append.1 hx with hx | hx
  · exact h x hx
  · rw [List.mem_replicate] at hx; rw [hx.2]; exact ⟨by omega, by omega⟩⟩
def headB (P : Pal) : Bool := decide (1 ≤ P.d ∧ P.d ≤ 16 ∧ 1 ≤ P.n ∧ P.n ≤ 4 ∧ 1 ≤ P.c.length ∧ P.c.length ≤ 256)
/-- colour i is one, and no colour ahead of it -/
def rowOk (P : Pal) (i : Nat) : Bool := decide (((P.c.getD i []).length : Int) = P.n) && (P.c.getD i []).all (okV P.d) && decide (P.c.getD i [] ∉ P.c.take i)
def palB (P : Pal) : Bool := headB P && (List.range P.c.length).all (rowOk P)
theorem palB_bad {P : Pal} {i : Nat} (hi : i < P.c.length) (h : rowOk P i = false) : palB P = false := by
  rw [palB, Bool.and_eq_false_iff]
  right
  rw [List.all_eq_false]
  exact ⟨i, List.mem_range.2 hi, by rw [h]; simp⟩
theorem palB_ok {P : Pal} (h0 : headB P = true) (h : ∀ i, i < P.c.length → rowOk P i = true) : palB P = true := by
  rw [palB, h0, Bool.true_and, List.all_eq_true]
  exact fun i hi => h i (List.mem_range.1 hi)
theorem palB_iff {P : Pal} : palB P = true ↔ headB P = true ∧ ∀ i, i < P.c.length → rowOk P i = true := by
  rw [palB, Bool.and_eq_true, List.all_eq_true]
  exact ⟨fun h => ⟨h.1, fun i hi => h.2 i (List.mem_range.2 hi)⟩, fun h => ⟨h.1, fun i hi => h.2 i (List.mem_range.1 hi)⟩⟩
theorem okV_c64 {d x : Int} (hd : d ≤ 16) (h : okV d x = true) : c64 x := by
  simp only [okV, decide_eq_true_eq] at h
  have : (2 : Int) ^ d.toNat ≤ 65536 := by
    have : d.toNat ≤ 16 := by omega
    have h2 : (2 : Nat) ^ d.toNat ≤ 2 ^ 16 := Nat.pow_le_pow_right (by omega) this
    have h3 : ((2 ^ d.toNat : Nat) : Int) ≤ ((2 ^ 16 : Nat) : Int) := by exact_mod_cast h2
    simpa using h3
  unfold c64; omega
theorem rowOk_all {P : Pal} {i : Nat} (h : rowOk P i = true) : ((P.c.getD i []).length : Int) = P.n ∧ (∀ x ∈ P.c.getD i [], okV P.d x = true) ∧ P.c.getD i [] ∉ P.c.take i := by
  simp only [rowOk, Bool.and_eq_true, decide_eq_true_eq, List.all_eq_true] at h
  exact ⟨h.1.1, h.1.2, h.2⟩
theorem getDL {l : List (List Int)} {i : Nat} (h : i < l.length) : l.getD i [] = l[i] := by rw [List.getD_eq_getElem?_getD, List.getElem?_eq_getElem h]; rfl
/-- the keys of the colours ahead of i -/
def keysT (c : List (List Int)) (i : Nat) : List (List Int × Value) := (c.take i).map fun r => (keyC r, .bool true)
theorem keysT_succ {c : List (List Int)} {i : Nat} (h : i < c.length) : keysT c (i + 1) = keysT c i ++ [(keyC (c.getD i []), .bool true)] := by
  rw [keysT, List.take_succ_eq_append_getElem h, List.map_append, getDL h]; rfl
theorem mem_takeD {c : List (List Int)} {i : Nat} {r : List Int} (h : r ∈ c.take i) : ∃ j, j < i ∧ j < c.length ∧ r = c.getD j [] := by
  obtain ⟨j, hj, rfl⟩ := List.mem_iff_getElem.1 h
  rw [List.length_take] at hj
  exact ⟨j, by omega, by omega, by rw [getDL (by omega), List.getElem_take]⟩
/-- whether a colour is among those ahead, told by the keys -/
theorem seen_is {P : Pal} {i : Nat} (hP : headB P = true) (hok : ∀ j, j < i → rowOk P j = true) {r : List Int} (hr : ((r.length : Nat) : Int) = P.n) :
    (mget (keysT P.c i) (keyC r)).getD (.bool false) = .bool (decide (r ∈ P.c.take i)) := by
  simp only [headB, decide_eq_true_eq] at hP
  have key : ∀ x ∈ P.c.take i, keyC x = keyC r → x = r := fun x hx e => by
    obtain ⟨j, h1, h2, rfl⟩ := mem_takeD hx
    have h3 := (rowOk_all (hok j h1)).1
    exact keyC_inj (n := P.n.toNat) (by omega) (by omega) (by omega) e
  by_cases h : r ∈ P.c.take i
  · rw [decide_eq_true h]
    cases hm : mget (keysT P.c i) (keyC r) with
    | none => exact absurd rfl (mget_none.1 hm _ (List.mem_map.2 ⟨r, h, rfl⟩))
    | some v =>
      unfold mget at hm
      rw [Option.map_eq_some_iff] at hm
      obtain ⟨p, h1, rfl⟩ := hm
      have h2 := List.mem_of_find?_eq_some h1
      obtain ⟨x, _, rfl⟩ := List.mem_map.1 h2
      rfl
  · rw [decide_eq_false h, mget_none.2]
    · rfl
    · intro p hp e
      obtain ⟨x, hx, rfl⟩ := List.mem_map.1 hp
      exact h (key x hx e ▸ hx)
end Go.Proofs.Ytbbflddhbamjbaa
