/- Rows of numbers in order: slices.Compare, slices.SortFunc at an own slice of rows. -/
import Derived.Shelf.SlSortCmp.Whole1
import Derived.Shelf.SlSortCmp.NoneTotal
import Derived.Test.YtbbflddhbamjbaaProg
import Derived.Test.YtbbflddhbamjbaaDat
import Derived.WalkSpells
import Derived.Test.YtbbflddhbamjbaaCmpI
import Derived.Test.YtbbflddhbamjbaaPicSame
set_option linter.unusedSimpArgs false
set_option linter.unusedVariables false
namespace Go.Proofs.Ytbbflddhbamjbaa
open Go.Shelf
def sortLL_ren : Go.Shelf.Ren := ⟨fun | 6 => 47 | 15 => 65 | 14 => 64 | 28 => 76 | 29 => 77 | 20 => 68 | 21 => 69 | 22 => 70 | 23 => 71 | 24 => 72 | 25 => 73 | 26 => 74 | 27 => 75 | 46 => 81 | 47 => 82 | 48 => 83 | 49 => 84 | 50 => 85 | 57 => 87 | n => n, fun | 22 => 23 | 24 => 22 | 25 => 74 | 3 => 3 | 39 => 89 | 0 => 0 | 53 => 103 | 55 => 105 | 4 => 4 | 46 => 97 | 45 => 96 | 50 => 80 | 5 => 5 | 9 => 9 | 66 => 108 | 70 => 112 | 76 => 114 | 77 => 115 | n => n, fun | n => n⟩
theorem sortLL : Go.Proofs.SlLaysF.n6 Try.prog sortLL_ren := {
  mixed := by kernel_rfl
  f6 := ⟨Try.f47.name, by decide, Try.func47.trans (congrArg some (by kernel_rfl))⟩
  f14 := ⟨Try.f64.name, by decide, Try.func64.trans (congrArg some (by kernel_rfl))⟩
  f15 := Try.func65.trans (congrArg some (by kernel_rfl))
  f20 := ⟨Try.f68.name, by decide, Try.func68.trans (congrArg some (by kernel_rfl))⟩
  f21 := ⟨Try.f69.name, by decide, Try.func69.trans (congrArg some (by kernel_rfl))⟩
  f22 := ⟨Try.f70.name, by decide, Try.func70.trans (congrArg some (by kernel_rfl))⟩
  f23 := ⟨Try.f71.name, by decide, Try.func71.trans (congrArg some (by kernel_rfl))⟩
  f24 := ⟨Try.f72.name, by decide, Try.func72.trans (congrArg some (by kernel_rfl))⟩
  f25 := ⟨Try.f73.name, by decide, Try.func73.trans (congrArg some (by kernel_rfl))⟩
  f26 := ⟨Try.f74.name, by decide, Try.func74.trans (congrArg some (by kernel_rfl))⟩
  f27 := ⟨Try.f75.name, by decide, Try.func75.trans (congrArg some (by kernel_rfl))⟩
  f28 := Try.func76.trans (congrArg some (by kernel_rfl))
  f29 := Try.func77.trans (congrArg some (by kernel_rfl))
  f46 := ⟨Try.f81.name, by decide, Try.func81.trans (congrArg some (by kernel_rfl))⟩
  f47 := Try.func82.trans (congrArg some (by kernel_rfl))
  f48 := Try.func83.trans (congrArg some (by kernel_rfl))
  f49 := ⟨Try.f84.name, by decide, Try.func84.trans (congrArg some (by kernel_rfl))⟩
  f50 := ⟨Try.f85.name, by decide, Try.func85.trans (congrArg some (by kernel_rfl))⟩
  f57 := ⟨Try.f87.name, by decide, Try.func87.trans (congrArg some (by kernel_rfl))⟩
  t0 := Try.underlying0
  a0 := Try.isAgg0
  z0 := Try.sizeOf0
  v0 := Try.zeroValue0
  t3 := Try.underlying3
  a3 := Try.isAgg3
  z3 := Try.sizeOf3
  v3 := Try.zeroValue3
  t4 := Try.underlying4
  a4 := Try.isAgg4
  z4 := Try.sizeOf4
  v4 := Try.zeroValue4
  t5 := Try.underlying5
  a5 := Try.isAgg5
  z5 := Try.sizeOf5
  v5 := Try.zeroValue5
  t9 := Try.underlying9
  a9 := Try.isAgg9
  z9 := Try.sizeOf9
  v9 := Try.zeroValue9
  t22 := Try.underlying23
  a22 := Try.isAgg23
  z22 := Try.sizeOf23
  v22 := Try.zeroValue23
  a24 := Try.isAgg22
  z24 := Try.sizeOf22
  t25 := Try.underlying74
  a25 := Try.isAgg74
  z25 := Try.sizeOf74
  v25 := Try.zeroValue74
  t39 := Try.underlying89
  a39 := Try.isAgg89
  z39 := Try.sizeOf89
  v39 := Try.zeroValue89
  t45 := Try.underlying96
  a45 := Try.isAgg96
  z45 := Try.sizeOf96
  v45 := Try.zeroValue96
  t46 := Try.underlying97
  a46 := Try.isAgg97
  z46 := Try.sizeOf97
  v46 := Try.zeroValue97
  t50 := Try.underlying80
  a50 := Try.isAgg80
  z50 := Try.sizeOf80
  v50 := Try.zeroValue80
  t53 := Try.underlying103
  a53 := Try.isAgg103
  z53 := Try.sizeOf103
  v53 := Try.zeroValue103
  t55 := Try.underlying105
  a55 := Try.isAgg105
  z55 := Try.sizeOf105
  v55 := Try.zeroValue105
  t66 := Try.underlying108
  a66 := Try.isAgg108
  z66 := Try.sizeOf108
  v66 := Try.zeroValue108
  t70 := Try.underlying112
  a70 := Try.isAgg112
  z70 := Try.sizeOf112
  v70 := Try.zeroValue112
  t76 := Try.underlying114
  a76 := Try.isAgg114
  z76 := Try.sizeOf114
  v76 := Try.zeroValue114
  t77 := Try.underlying115
  a77 := Try.isAgg115
  z77 := Try.sizeOf115
  v77 := Try.zeroValue115 }
end Go.Proofs.Ytbbflddhbamjbaa

namespace Go.Proofs.Ytbbflddhbamjbaa
open Go.RowKit Go.Shelf Go.Lib Go.Sort

def cmpL : List Int → List Int → Int
  | [], [] => 0
  | [], _ :: _ => -1
  | _ :: _, [] => 1
  | x :: a, y :: b => if cmp3 x y ≠ 0 then cmp3 x y else cmpL a b
def ltL : List Int → List Int → Bool
  | [], [] => false
  | [], _ :: _ => true
  | _ :: _, [] => false
  | x :: a, y :: b => if x < y then true else if y < x then false else ltL a b
theorem cmpL_lt : ∀ a b, cmpL a b < 0 ↔ ltL a b = true
  | [], [] => by simp [cmpL, ltL]
  | [], _ :: _ => by simp [cmpL, ltL]
  | _ :: _, [] => by simp [cmpL, ltL]
  | x :: a, y :: b => by
    have ih := cmpL_lt a b
    unfold cmpL ltL cmp3
    by_cases h1 : x < y
    · simp [h1]
    · by_cases h2 : y < x
      · simp [h1, h2]
      · simp [h1, h2]; exact ih
theorem ltL_irr : ∀ a, ltL a a = false
  | [] => rfl
  | x :: a => by simp [ltL, ltL_irr a]
theorem ltL_trans : ∀ {a b c}, ltL a b = true → ltL b c = true → ltL a c = true
  | [], [], _, h, _ => by simp [ltL] at h
  | [], _ :: _, [], _, h => by simp [ltL] at h
  | [], _ :: _, _ :: _, _, _ => rfl
  | _ :: _, [], _, h, _ => by simp [ltL] at h
  | _ :: _, _ :: _, [], _, h => by simp [ltL] at h
  | x :: a, y :: b, z :: c, h1, h2 => by
    unfold ltL at h1 h2 ⊢
    by_cases p : x < y
    · by_cases q : y < z
      · rw [if_pos (by omega)]
      · rw [if_neg q] at h2
        by_cases q2 : z < y
        · rw [if_pos q2] at h2; cases h2
        · rw [if_pos (by omega)]
    · rw [if_neg p] at h1
      by_cases p2 : y < x
      · rw [if_pos p2] at h1; cases h1
      · rw [if_neg p2] at h1
        by_cases q : y < z
        · rw [if_pos (by omega)]
        · rw [if_neg q] at h2
          by_cases q2 : z < y
          · rw [if_pos q2] at h2; cases h2
          · rw [if_neg q2] at h2
            rw [if_neg (by omega), if_neg (by omega)]
            exact ltL_trans h1 h2
theorem ltL_tri : ∀ {a b}, ltL a b = false → ltL b a = false → a = b
  | [], [], _, _ => rfl
  | [], _ :: _, h, _ => by simp [ltL] at h
  | _ :: _, [], _, h => by simp [ltL] at h
  | x :: a, y :: b, h1, h2 => by
    unfold ltL at h1 h2
    by_cases p : x < y
    · rw [if_pos p] at h1; cases h1
    · by_cases p2 : y < x
      · rw [if_pos p2] at h2; cases h2
      · rw [if_neg p, if_neg p2] at h1
        rw [if_neg p2, if_neg p] at h2
        rw [show x = y by omega, ltL_tri h1 h2]
theorem ltL_asym {a b : List Int} (h : ltL a b = true) : ltL b a = false := by
  cases h2 : ltL b a with
  | false => rfl
  | true => have := ltL_trans h h2; rw [ltL_irr] at this; cases this
theorem ltL_le {a b c : List Int} (h1 : ltL b a = false) (h2 : ltL c b = false) : ltL c a = false := by
  cases h3 : ltL c a with
  | false => rfl
  | true =>
    cases h4 : ltL a b with
    | true => have := ltL_trans h3 h4; rw [this] at h2; cases h2
    | false =>
      have := ltL_tri h4 h1
      subst this
      rw [h3] at h2; cases h2

/-- An element: a row that is read only. -/
def IsR : Rel (List Int) := fun w S cs l => ∃ A c, cs = [.slice A l.length c] ∧ l.length ≤ c ∧ RdS w S .i64 A l
theorem IsR.good : Rel.Good IsR 1 where
  pos := by omega
  len := by rintro w S cs x ⟨A, c, rfl, _⟩; rfl
  one := by
    rintro w S cs x ⟨A, c, rfl, _⟩ u hu
    simp only [List.mem_singleton] at hu
    subst hu; rfl
  keep := by
    rintro w w' M S cs x ⟨A, c, h1, h2, h3⟩ hm hs
    exact ⟨A, c, h1, h2, RdC.keep h3 hm hs⟩
  weak := by
    rintro w S S' cs x ⟨A, c, h1, h2, h3⟩ hs
    exact ⟨A, c, h1, h2, h3.weak hs⟩
theorem RdG.rdLL {w : World} {S : Nat → Prop} {A : Option Addr} {ls : List (List Int)} {B : Nat} (h : RdG IsR 1 w S A ls) (hS : ∀ b, S b → b < B) : RdLL w B .i64 A ls := fun j hj => by
  obtain ⟨ad, cs, e, hb, ⟨Aj, cj, rfl, h1, h2⟩, hc⟩ := h j hj
  have e2 : ls.getD j [] = ls[j] := by rw [List.getD_eq_getElem?_getD, List.getElem?_eq_getElem hj]; rfl
  rw [e2]
  refine ⟨ad, Aj, cj, e, hS _ hb, ?_, h1, h2.rdI (fun b hb _ => hS b hb)⟩
  have := hc 0 _ rfl
  rwa [Nat.mul_one, Nat.add_zero] at this
theorem RdLL.rdG {w : World} {A : Option Addr} {ls : List (List Int)} {B : Nat} (h : RdLL w B .i64 A ls) : RdG IsR 1 w (· < B) A ls := fun j hj => by
  obtain ⟨ad, Aj, cj, e, hb, h1, h2, h3⟩ := h j hj
  have e2 : ls.getD j [] = ls[j] := by rw [List.getD_eq_getElem?_getD, List.getElem?_eq_getElem hj]; rfl
  rw [e2] at h1 h2 h3
  refine ⟨ad, _, e, hb, ⟨Aj, cj, rfl, h2, h3.rds⟩, fun i u hu => ?_⟩
  match i, hu with
  | 0, hu => simp at hu; subst hu; rw [Nat.mul_one, Nat.add_zero]; exact h1
  | i + 1, hu => simp at hu

/-- A row as it lies in w, beside block g. -/
structure SR (w : World) (g : Nat) where
  l : List Int
  A : Option Addr
  c : Nat
  ok : l.length ≤ c
  sm : l.length ≤ 1000000
  rd : RdS w (fun b => b < w.heap.size ∧ b ≠ g) .i64 A l
instance (w : World) (g : Nat) : Inhabited (SR w g) := ⟨⟨[], none, 0, Nat.le_refl _, by simp, RdS.nil_⟩⟩
def SR.enc {w : World} {g : Nat} (x : SR w g) : Value := .slice x.A x.l.length x.c
def SR.cf {w : World} {g : Nat} (x y : SR w g) : Int := cmpL x.l y.l
theorem SR.lt_iff {w : World} {g : Nat} {x y : SR w g} : ltOf SR.cf x y = ltL x.l y.l := by
  have h := cmpL_lt x.l y.l
  unfold ltOf SR.cf
  cases h2 : ltL x.l y.l with
  | true => exact decide_eq_true (h.2 h2)
  | false => exact decide_eq_false (fun h3 => by rw [h.1 h3] at h2; cases h2)
theorem SR.swo {w : World} {g : Nat} : SWO (ltOf (SR.cf (w := w) (g := g))) where
  irrefl x := by rw [SR.lt_iff]; exact ltL_irr _
  trans x y z h1 h2 := by rw [SR.lt_iff] at *; exact ltL_trans h1 h2
  ntrans x y z h1 h2 := by rw [SR.lt_iff] at *; exact ltL_le h2 h1

theorem cmpL_drop {a b : List Int} {j : Nat} (ha : j < a.length) (hb : j < b.length) : cmpL (a.drop j) (b.drop j) = if cmp3 (a.getD j 0) (b.getD j 0) ≠ 0 then cmp3 (a.getD j 0) (b.getD j 0) else cmpL (a.drop (j + 1)) (b.drop (j + 1)) := by
  rw [List.drop_eq_getElem_cons ha, List.drop_eq_getElem_cons hb]
  have e1 : a.getD j 0 = a[j] := by rw [List.getD_eq_getElem?_getD, List.getElem?_eq_getElem ha]; rfl
  have e2 : b.getD j 0 = b[j] := by rw [List.getD_eq_getElem?_getD, List.getElem?_eq_getElem hb]; rfl
  rw [e1, e2]
  rfl
set_option maxHeartbeats 2000000 in
theorem compare_any {w : World} {B : Nat} {A A2 : Option Addr} {c c2 : Nat} {a b : List Int} (hr : RdI w B .i64 A a) (hr2 : RdI w B .i64 A2 b) (ha : a.length ≤ 4611686018427387904) :
    Calls Try.prog 49 #[.slice A a.length c, .slice A2 b.length c2] w fun e w' => e = .returned (.int .i64 (cmpL a b)) ∧ w = w' := by
  have HC := Lib.hid (fun x y W => cmpi_any x y W)
  obtain ⟨R, hR⟩ : ∃ R, cmpL a b = R := ⟨_, rfl⟩
  rw [hR]
  have HR := Lib.hid (show cmpL (a.drop 0) (b.drop 0) = R by rw [List.drop_zero, List.drop_zero]; exact hR)
  have HS := Lib.hid (fun j (h1 : j < a.length) (h2 : j < b.length) => cmpL_drop h1 h2)
  clear hR
  go_enter Try.func49, Try.ntmps49
  go_wp2
  go_loop [11] (fun iv => ∃ j : Nat, j ≤ a.length ∧ j ≤ b.length ∧ iv = .int .i64 j ∧ cmpL (a.drop j) (b.drop j) = R) (fun iv => a.length - (intOf iv).toNat)
  case atStart => exact ⟨0, Nat.zero_le _, Nat.zero_le _, rfl, HR.out⟩
  case round =>
    obtain ⟨j, hj, hjb, rfl, hrel⟩ := hrel
    have HJ := Lib.hid hrel
    clear hrel
    by_cases hlt : j < a.length
    · obtain ⟨ad, rfl, _, k0⟩ := hr.at_ hlt
      by_cases hlb : j < b.length
      · obtain ⟨ad2, rfl, _, k1⟩ := hr2.at_ hlb
        have hs := HS.out j hlt hlb
        rw [HJ.out] at hs
        generalize a.getD j 0 = x at *
        generalize b.getD j 0 = y at *
        have HCx := Lib.hid (HC.out x y)
        have hb3 := cmp3_bd x y
        generalize cmp3 x y = z at *
        have q1 : decide ((b.length : Int) ≤ (j : Int)) = false := decide_eq_false (by omega)
        by_cases hz : z = 0
        · rw [if_neg (by simp [hz])] at hs
          have HSj := Lib.hid hs
          subst hz
          clear hs hb3
          go_wp2_with (first | (go_at_call 66; (with_reducible refine (HCx.out _).mono ?_); rintro e w1 ⟨rfl, rfl⟩))
          go_round
          case rel => exact ⟨j + 1, by omega, by omega, by go_num, HSj.out.symm⟩
          case measure => simp [intOf]; omega
        · rw [if_pos hz] at hs
          have HSj := Lib.hid hs
          have q2 : (z != 0) = true := by simpa using hz
          clear hs hz
          go_wp2_with (first | (go_at_call 66; (with_reducible refine (HCx.out _).mono ?_); rintro e w1 ⟨rfl, rfl⟩))
          go_ret
          exact ⟨by rw [HSj.out]; rfl, rfl⟩
      · have hjl : j = b.length := by omega
        have q1 : decide ((b.length : Int) ≤ (j : Int)) = true := decide_eq_true (by omega)
        have HF := Lib.hid (show R = 1 by
          have h := HJ.out
          rw [show b.drop j = [] from List.drop_eq_nil_of_le (by omega), List.drop_eq_getElem_cons hlt] at h
          exact h.symm)
        clear hjl
        generalize a.getD j 0 = x at *
        go_wp2
        go_ret
        exact ⟨by rw [HF.out]; rfl, rfl⟩
    · have hjl : j = a.length := by omega
      by_cases hlb : j < b.length
      · have q1 : decide ((a.length : Int) < (b.length : Int)) = true := decide_eq_true (by omega)
        have HF := Lib.hid (show R = -1 by
          have h := HJ.out
          rw [hjl, List.drop_length, ← hjl, List.drop_eq_getElem_cons hlb] at h
          exact h.symm)
        subst hjl
        go_wp2
        go_ret
        exact ⟨by rw [HF.out]; rfl, rfl⟩
      · have q1 : decide ((a.length : Int) < (b.length : Int)) = false := decide_eq_false (by omega)
        have HF := Lib.hid (show R = 0 by
          have h := HJ.out
          rw [hjl, List.drop_length, List.drop_eq_nil_of_le (by omega)] at h
          exact h.symm)
        subst hjl
        go_wp2
        go_ret
        exact ⟨by rw [HF.out]; rfl, rfl⟩
theorem less_any {w : World} {B : Nat} {A A2 : Option Addr} {c c2 : Nat} {a b : List Int} (hr : RdI w B .i64 A a) (hr2 : RdI w B .i64 A2 b) (ha : a.length ≤ 4611686018427387904) :
    Calls Try.prog 48 #[.slice A a.length c, .slice A2 b.length c2] w fun e w' => e = .returned (.int .i64 (cmpL a b)) ∧ w = w' := by
  have HC := Lib.hid (compare_any (c := c) (c2 := c2) hr hr2 ha)
  go_enter Try.func48, Try.ntmps48
  go_wp2_with (first | (go_at_call 49; (with_reducible refine HC.out.mono ?_); rintro e w1 ⟨rfl, rfl⟩))
  go_ret
  exact ⟨rfl, rfl⟩

theorem mod_sorted1 {α : Type} [Inhabited α] (enc : α → Value) (w : World) (blk off n : Nat) (d : Array α) (os : Array Obj) : Mod (· = blk) w (sortWorld enc w blk off n d os) := by
  refine ⟨rfl, rfl, rfl, ?_, fun i hi hn => ?_⟩
  · unfold sortWorld grow putRow mapBlock Sort.ahead
    simp
  · unfold sortWorld grow putRow mapBlock Sort.ahead
    simp only
    rw [Array.getElem?_append_left (by simp; exact hi), Array.getElem?_modify, if_neg (fun h => hn h.symm)]
theorem heap_sorted1 {α : Type} [Inhabited α] (enc : α → Value) (w : World) (blk n : Nat) (d : Array α) (os : Array Obj) {cur : Array Value} {e : TypeId} {fz : Nat × Nat} (hb : w.heap[blk]? = some (.cells cur e fz)) :
    (sortWorld enc w blk 0 n d os).heap[blk]? = some (.cells (putCells enc 0 d cur) e fz) := by
  have hlt : blk < w.heap.size := (Array.getElem?_eq_some_iff.1 hb).1
  unfold sortWorld grow putRow mapBlock Sort.ahead
  simp only
  rw [Array.getElem?_append_left (by simp; exact hlt), Array.getElem?_modify, if_pos rfl, hb]
  rfl
theorem put_take1 {α : Type} [Inhabited α] (enc : α → Value) (d : Array α) (cur : Array Value) (h : d.size ≤ cur.size) : (putCells enc 0 d cur).size = cur.size ∧ (putCells enc 0 d cur).toList.take d.size = d.toList.map enc := by
  refine ⟨by simp [putCells], List.ext_getElem (by simp [putCells]; omega) fun i h1 h2 => ?_⟩
  have hi : i < d.size := by simpa using h2
  rw [List.getElem_take, Array.getElem_toList, List.getElem_map, Array.getElem_toList]
  simp only [putCells, Array.getElem_mapIdx]
  rw [if_pos ⟨Nat.zero_le _, by omega⟩, Nat.sub_zero, getElem!_pos d i hi]
theorem OwnG.sr {w : World} {g : Nat} {D : Nat → Prop} {cells : List Value} {xs : List (List Int)} (hc : Cells IsR 1 w D cells xs) (hD : ∀ b, D b → b < w.heap.size → b ≠ g) (hq : ∀ l ∈ xs, l.length ≤ 1000000) :
    ∃ d : Array (SR w g), d.size = xs.length ∧ d.toList.map SR.l = xs ∧ cells = d.toList.map SR.enc ∧ ∀ x ∈ d.toList, IsR w D [x.enc] x.l := by
  have key : ∀ (xs : List (List Int)) (cells : List Value), Cells IsR 1 w D cells xs → (∀ l ∈ xs, l.length ≤ 1000000) → ∃ d : List (SR w g), d.map SR.l = xs ∧ cells = d.map SR.enc ∧ ∀ x ∈ d, IsR w D [x.enc] x.l := by
    intro xs
    induction xs with
    | nil => intro cells hc _; exact ⟨[], rfl, List.eq_nil_of_length_eq_zero (by simpa using hc.1), fun x hx => by cases hx⟩
    | cons p xs ih =>
      intro cells hc hq
      have h0 := hc.2 0 (by simp)
      simp only [Nat.zero_mul, List.drop_zero, List.getElem_cons_zero] at h0
      obtain ⟨A, c, e0, h1, h2⟩ := h0
      obtain ⟨d, e1, e2, e3⟩ := ih (cells.drop 1) ⟨by rw [List.length_drop, hc.1, List.length_cons]; omega, fun j hj => by
        have := hc.2 (j + 1) (by simp; omega)
        rw [List.drop_drop]
        rw [List.getElem_cons_succ] at this
        rwa [show 1 + j * 1 = (j + 1) * 1 by omega]⟩ (fun p hp => hq p (List.mem_cons_of_mem _ hp))
      refine ⟨⟨p, A, c, h1, hq p (List.mem_cons_self ..), h2.weak (fun b hb hl => ⟨hl, hD b hb hl⟩)⟩ :: d, by rw [List.map_cons, e1], ?_, fun x hx => ?_⟩
      · rw [List.map_cons, ← e2]
        have h9 : cells = cells.take 1 ++ cells.drop 1 := (List.take_append_drop 1 cells).symm
        rw [h9, e0]
        simp [SR.enc]
      · rcases List.mem_cons.1 hx with rfl | hx
        · exact ⟨A, c, rfl, h1, h2⟩
        · exact e3 x hx
  obtain ⟨d, h1, h2, h3⟩ := key xs cells hc hq
  exact ⟨d.toArray, by rw [← h1]; simp, by simpa using h1, by simpa using h2, by simpa using h3⟩

/-- Rows in order. -/
theorem sortll_any {w : World} {base : Nat} {D : Nat → Prop} {v : Value} {xs : List (List Int)} (h : OwnG IsR 1 22 w base D v xs) (hq : ∀ l ∈ xs, l.length ≤ 1000000) (hl : xs.length ≤ 1000000000) :
    Calls Try.prog 47 #[v, .func (.func 48) #[] #[]] w fun en w' => en = .returned (.tuple #[]) ∧ ∃ ys, ys.Perm xs ∧ ys.Pairwise (fun a b => ltL b a = false) ∧ OwnG IsR 1 22 w' base D v ys ∧ Mod (fun b => v.ownBlock = some b) w w' := by
  obtain ⟨cells, ho, hc⟩ := h
  rcases ho.2 with ⟨rfl, h0⟩ | ⟨g, cap, cur, rfl, hb, hg, hn, hcm, hcs, htk⟩
  · have hx : xs = [] := List.eq_nil_of_length_eq_zero h0
    subst hx
    refine (AnyF.slices_SortFunc_none ({ sortLL with } : SlLaysF0.n6 Try.prog sortLL_ren) none 0 (.func (.func 48) #[] #[]) w).mono ?_
    rintro e w' ⟨rfl, rfl⟩
    exact ⟨rfl, [], List.Perm.refl _, List.Pairwise.nil, ⟨cells, ho, hc⟩, Mod.refl _ _⟩
  · obtain ⟨d, hds, hdp, hdc, hdR⟩ := OwnG.sr (g := g) hc (fun b hb _ e => hb.2 (by rw [e]; rfl)) hq
    have hglt : g < w.heap.size := (Array.getElem?_eq_some_iff.1 hg).1
    have eg : ∀ args w, (callFunc 48 args).run Try.prog w = .ok (.enter 48 args) w := enters_of Try.func48 (by kernel_rfl) rfl
    have hH : Holds SR.enc w g 0 d := by
      intro j hj
      rw [Nat.zero_add]
      refine ⟨?_, by simp [World.frozen?, hg]⟩
      rw [cell_of_row w g j cur _ _ hg]
      have hjl : j < xs.length := by omega
      have e1 : cur.toList[j]? = cells[j]? := by rw [← htk, List.getElem?_take, if_pos (by omega)]
      have e2 : d[j]? = some d[j] := Array.getElem?_eq_getElem hj
      rw [← Array.getElem?_toList, e1, hdc, List.getElem?_map, Array.getElem?_toList, e2, getElem!_pos d j hj]
      rfl
    have hcmp : CmpLays1 Try.prog 48 #[] SR.enc (SR.cf (w := w) (g := g)) g 0 d.size w := by
      intro m os dk _ x y
      have hM := mod_sorted1 (SR.enc (w := w) (g := g)) w g 0 m dk os
      have hx : RdS (sortWorld SR.enc w g 0 m dk os) (fun b => b < w.heap.size ∧ b ≠ g) .i64 x.A x.l := RdC.keep x.rd hM (fun b hb _ e => hb.2 e)
      have hy : RdS (sortWorld SR.enc w g 0 m dk os) (fun b => b < w.heap.size ∧ b ≠ g) .i64 y.A y.l := RdC.keep y.rd hM (fun b hb _ e => hb.2 e)
      have hs := x.sm
      refine (less_any (c := x.c) (c2 := y.c) hx.top hy.top (by omega)).mono ?_
      rintro e w' ⟨rfl, rfl⟩
      exact ⟨rfl, 0, #[], by rw [grow_empty]; rfl⟩
    have hcon := Any.slices_SortFunc sortLL SR.enc (fun x => rfl) SR.cf SR.swo 48 #[] g 0 cap d w eg hcmp hH hglt (by omega)
    rw [hds] at hcon
    refine Calls.mono hcon ?_
    rintro e w' ⟨rfl, d', n, os, ⟨hps, _, hpp⟩, hso, rfl⟩
    rw [← hds, Array.extract_size] at hpp
    have hps' : d'.extract 0 d.size = d' := by rw [← hps]; exact Array.extract_size ..
    rw [hps'] at hpp
    have hM := mod_sorted1 SR.enc w g 0 n d' os
    refine ⟨rfl, d'.toList.map SR.l, ?_, ?_, ⟨d'.toList.map SR.enc, ⟨?_, .inr ⟨g, cap, _, ?_, hb, heap_sorted1 SR.enc w g n d' os hg, ?_, hcm, ?_, ?_⟩⟩, ?_, ?_⟩, hM.mono fun b hb _ => by rw [hb]; rfl⟩
    · rw [← hdp]; exact hpp.map _
    · rw [List.pairwise_map, List.pairwise_iff_getElem]
      intro i j hi hj hij
      simp only [Array.length_toList] at hi hj
      have := hso i j (Nat.zero_le _) hij (by omega)
      rw [getElem!_pos d' i hi, getElem!_pos d' j hj, SR.lt_iff] at this
      simp only [Array.getElem_toList]
      exact this
    · simp [hps, hds]
    · simp [hps, hds]
    · simp [hps, hds]; exact hn
    · rw [(put_take1 _ _ _ (by rw [hps, hds, hcs]; omega)).1]; exact hcs
    · have := (put_take1 SR.enc d' cur (by rw [hps, hds, hcs]; omega)).2
      simpa using this
    · simp
    · intro j hj
      simp only [List.length_map, Array.length_toList] at hj
      have hm : d'[j] ∈ d.toList := hpp.mem_iff.1 (by simp)
      have e1 : ((d'.toList.map SR.enc).drop (j * 1)).take 1 = [SR.enc d'[j]] := by
        rw [Nat.mul_one, List.drop_eq_getElem_cons (by simpa using hj)]
        simp
      rw [e1, List.getElem_map, Array.getElem_toList]
      refine IsR.good.keep (hdR _ hm) hM fun b hb _ e => hb.2 (by rw [e]; rfl)
end Go.Proofs.Ytbbflddhbamjbaa
