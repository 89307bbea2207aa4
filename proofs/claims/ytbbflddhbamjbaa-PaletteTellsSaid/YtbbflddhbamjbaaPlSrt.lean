/- Numbers below N + 1 in a row, ordered by how often each is counted: the memory, swaps, the order, insertion (printed by gensrtint.py). -/
import Derived.Test.YtbbflddhbamjbaaProg
import Derived.Test.YtbbflddhbamjbaaDat
import Derived.Test.YtbbflddhbamjbaaPicSame
import Derived.Deep.DeepCutAuto
import Derived.Shelf.RegionOpenPlain
set_option linter.unusedSimpArgs false
set_option linter.unusedVariables false
namespace Go.Proofs.Ytbbflddhbamjbaa
open Go.RowKit

abbrev SI (N : Nat) := Fin (N + 1)
def spz {N : Nat} : SI N := ⟨0, Nat.succ_pos N⟩
variable {N : Nat}
def SI.v (x : SI N) : Value := .int .i64 ((x.val : Nat) : Int)
def SRow (W : World) (gb : Nat) (xs : List (SI N)) (tl : List Value) : Prop := Blk W gb 3 (xs.map SI.v ++ tl).toArray
section
variable {W W' : World} {gb : Nat} {xs : List (SI N)} {tl : List Value}
theorem SRow.at_ (h : SRow W gb xs tl) {j : Nat} (hj : j < xs.length) {x : SI N} (hx : xs.getD j spz = x) : W.cell? ⟨gb, j, none⟩ = some (.int .i64 ((x.val : Nat) : Int)) := by
  rw [List.getD_eq_getElem?_getD, List.getElem?_eq_getElem hj, Option.getD_some] at hx
  subst hx
  rw [Blk.cell h j, List.getElem?_toArray, List.getElem?_append_left (by simpa using hj), List.getElem?_map, List.getElem?_eq_getElem hj]
  rfl
theorem SRow.fz (h : SRow W gb xs tl) (j : Nat) : W.frozen? ⟨gb, j, none⟩ = false := Blk.frozen h j
theorem SRow.mod {M : Nat → Prop} (h : SRow W gb xs tl) (hm : Mod M W W') (hn : ¬ M gb) : SRow W' gb xs tl := Blk.mod h hm hn
theorem SRow.below (h : SRow W gb xs tl) (hb : Below W.heap.size W W') : SRow W' gb xs tl := Blk.below h hb (Blk.lt h)
theorem SRow.put (h : SRow W gb xs tl) {j : Nat} (hj : j < xs.length) (y : SI N) : SRow (W.setCell ⟨gb, j, none⟩ (.int .i64 ((y.val : Nat) : Int))) gb (xs.set j y) tl := by
  have h1 := Blk.set_ h j (.int .i64 ((y.val : Nat) : Int))
  unfold SRow
  have e : (xs.map SI.v ++ tl).toArray.setIfInBounds j (.int .i64 ((y.val : Nat) : Int)) = ((xs.set j y).map SI.v ++ tl).toArray := by
    rw [List.map_set]
    simp [List.set_append, hj, SI.v]
  rw [← e]
  exact h1
theorem SRow.drew (h : SRow W gb xs tl) : SRow W.drew gb xs tl := h
theorem SRow.putM (W : World) (gb : Nat) (j : Nat) (y : SI N) : Mod (· = gb) W (W.setCell ⟨gb, j, none⟩ (.int .i64 ((y.val : Nat) : Int))) := mod_put (Mod.refl _ _) (fun _ => rfl)
end

def swp (xs : List (SI N)) (i j : Nat) : List (SI N) := (xs.set i (xs.getD j spz)).set j (xs.getD i spz)
theorem swp_len (xs : List (SI N)) (i j : Nat) : (swp xs i j).length = xs.length := by simp [swp]
def swapUp (xs : List (SI N)) (a b : Nat) : Nat → List (SI N)
  | 0 => xs
  | k + 1 => swp (swapUp xs a b k) (a + k) (b + k)
theorem swapUp_len (xs : List (SI N)) (a b : Nat) : ∀ k, (swapUp xs a b k).length = xs.length
  | 0 => rfl
  | k + 1 => by rw [swapUp, swp_len, swapUp_len xs a b k]

set_option maxHeartbeats 8000000 in
set_option maxRecDepth 100000 in
theorem swapRange_any {w : World} {gb : Nat} {xs : List (SI N)} {tl : List Value} (h : SRow w gb xs tl) (c : Nat) (hl : xs.length ≤ 4000000000) (hc : xs.length ≤ c) (a b n : Nat) (hb : b + n ≤ xs.length) (ha : a + n ≤ b) (cmp : Value) :
    Calls Try.prog 88 #[.slice (some ⟨gb, 0, none⟩) xs.length c, .int .i64 a, .int .i64 b, .int .i64 n, cmp] w fun e w' => e = .returned (.tuple #[]) ∧ SRow w' gb (swapUp xs a b n) tl ∧ Mod (· = gb) w w' := by
  have HH := Lib.hid h
  clear h
  go_enter Try.func88, Try.ntmps88
  go_wp2
  go_loopw [10] (fun iv wr => ∃ k : Nat, k ≤ n ∧ iv = .int .i64 k ∧ SRow wr gb (swapUp xs a b k) tl ∧ Mod (· = gb) w wr) (fun iv _ => n - (intOf iv).toNat)
  case atStart => exact ⟨0, Nat.zero_le _, rfl, HH.out, Mod.refl _ _⟩
  case round =>
    obtain ⟨k, hk, rfl, hR, hM⟩ := hrel
    by_cases hkn : k < n
    · have hkz : (k : Int) < (n : Int) := by omega
      have hlx := swapUp_len xs a b k
      have e1 : IntKind.i64.wrap ((a : Int) + (k : Int)) = ((a + k : Nat) : Int) := by rw [IntWalk.i64_in _ (by omega)]; omega
      have e2 : IntKind.i64.wrap ((b : Int) + (k : Int)) = ((b + k : Nat) : Int) := by rw [IntWalk.i64_in _ (by omega)]; omega
      obtain ⟨p, hp⟩ : ∃ p, a + k = p := ⟨_, rfl⟩
      obtain ⟨q, hq⟩ : ∃ q, b + k = q := ⟨_, rfl⟩
      rw [hp] at e1
      rw [hq] at e2
      have hpl : p < xs.length := by omega
      have hql : q < xs.length := by omega
      have hne : p ≠ q := by omega
      obtain ⟨x, hx⟩ : ∃ x, (swapUp xs a b k).getD p spz = x := ⟨_, rfl⟩
      obtain ⟨y, hy⟩ : ∃ y, (swapUp xs a b k).getD q spz = y := ⟨_, rfl⟩
      have HS := Lib.hid (show swapUp xs a b (k + 1) = ((swapUp xs a b k).set p y).set q x by rw [swapUp, swp, hp, hq, hx, hy])
      generalize swapUp xs a b k = ys at *
      have x0 := hR.at_ (by omega) hx
      have y0 := hR.at_ (by omega) hy
      have f0 := hR.fz p
      have g0 := hR.fz q
      have HR := Lib.hid hR
      have HPl := Lib.hid (show p < ys.length ∧ q < (ys.set p y).length by rw [List.length_set]; omega)
      have HK1 := Lib.hid hkn
      have HK9 := Lib.hid (show k + 1 ≤ 4000000000 by omega)
      have HM := Lib.hid hM
      clear hR hM hx hy ha hb hp hq hk
      go_wp2_with (fail)
      have hmx : Try.prog.follows .mixedOrders = true := by kernel_rfl
      go_big_region_o
      have hk9 := HK9.out
      go_wp2
      go_roundw
      case rel =>
        refine ⟨k + 1, HK1.out, by go_num, ?_, ?_⟩
        · rw [HS.out]
          refine SRow.drew ?_
          exact (HR.out.put HPl.out.1 y).put (j := q) HPl.out.2 x
        · refine Mod.drew ?_
          exact HM.out.then_ ((SRow.putM wr gb p y).then_ (SRow.putM _ gb q x))
      case measure => have := HK1.out; simp [intOf]; omega
    · have hkz : ¬ (k : Int) < (n : Int) := by omega
      have hke : k = n := by omega
      subst hke
      go_wp2
      go_end0
      exact ⟨rfl, hR, hM⟩
end Go.Proofs.Ytbbflddhbamjbaa

namespace Go.Proofs.Ytbbflddhbamjbaa
open Go.RowKit
variable {N : Nat}

/-- 'not less' is an order in which any two may be set side by side. -/
structure LeO (lt : SI N → SI N → Bool) : Prop where
  asym : ∀ x y, lt x y = true → lt y x = false
  neg : ∀ x y z, lt y x = false → lt z y = false → lt z x = false
def Srd (lt : SI N → SI N → Bool) (l : List (SI N)) : Prop := l.Pairwise fun x y => lt y x = false
def eqv (lt : SI N → SI N → Bool) (x y : SI N) : Bool := !lt x y && !lt y x
/-- Of each kind the same ones, in the same order. -/
def Srt (lt : SI N → SI N → Bool) (l l' : List (SI N)) : Prop := ∀ x, l'.filter (eqv lt x) = l.filter (eqv lt x)
section
variable {lt : SI N → SI N → Bool}
theorem Srt.refl (l : List (SI N)) : Srt lt l l := fun _ => rfl
theorem Srt.trans {a b c : List (SI N)} (h : Srt lt a b) (k : Srt lt b c) : Srt lt a c := fun x => (k x).trans (h x)
theorem Srt.app {a b a' b' : List (SI N)} (h : Srt lt a a') (k : Srt lt b b') : Srt lt (a ++ b) (a' ++ b') := fun x => by rw [List.filter_append, List.filter_append, h x, k x]
theorem LeO.irr (h : LeO lt) (x : SI N) : lt x x = false := by
  cases hx : lt x x with
  | false => rfl
  | true => exact hx ▸ h.asym x x hx
theorem LeO.tr (h : LeO lt) {x y z : SI N} (h1 : lt x y = true) (h2 : lt z y = false) : lt x z = true := by
  cases h3 : lt x z with
  | true => rfl
  | false => have := h.neg y z x h2 h3; rw [h1] at this; cases this
theorem LeO.tr2 (h : LeO lt) {x y z : SI N} (h1 : lt y x = false) (h2 : lt y z = true) : lt x z = true := by
  cases h3 : lt x z with
  | true => rfl
  | false => have := h.neg z x y h3 h1; rw [h2] at this; cases this
/-- Of two neighbours of which the second is less, none is of the other's kind. -/
theorem Srt.swap (h : LeO lt) {l1 l2 : List (SI N)} (hlt : ∀ x ∈ l1, ∀ y ∈ l2, lt y x = true) : Srt lt (l1 ++ l2) (l2 ++ l1) := fun z => by
  rw [List.filter_append, List.filter_append]
  by_cases h1 : l1.filter (eqv lt z) = []
  · rw [h1, List.append_nil, List.nil_append]
  · by_cases h2 : l2.filter (eqv lt z) = []
    · rw [h2, List.append_nil, List.nil_append]
    · obtain ⟨x, hx⟩ := List.exists_mem_of_ne_nil _ h1
      obtain ⟨y, hy⟩ := List.exists_mem_of_ne_nil _ h2
      obtain ⟨hx1, hx2⟩ := List.mem_filter.1 hx
      obtain ⟨hy1, hy2⟩ := List.mem_filter.1 hy
      simp only [eqv, Bool.and_eq_true, Bool.not_eq_true'] at hx2 hy2
      have h3 := hlt x hx1 y hy1
      have h4 := h.neg x z y hx2.1 hy2.2
      rw [h3] at h4; cases h4
theorem eqv_self (h : LeO lt) (x : SI N) : eqv lt x x = true := by simp [eqv, h.irr]
theorem Srt.mem (h : LeO lt) {l l' : List (SI N)} (hs : Srt lt l l') {x : SI N} : x ∈ l' ↔ x ∈ l := by
  have h1 := hs x
  constructor
  · intro hx
    have : x ∈ l'.filter (eqv lt x) := List.mem_filter.2 ⟨hx, eqv_self h x⟩
    rw [h1] at this
    exact (List.mem_filter.1 this).1
  · intro hx
    have : x ∈ l.filter (eqv lt x) := List.mem_filter.2 ⟨hx, eqv_self h x⟩
    rw [← h1] at this
    exact (List.mem_filter.1 this).1
theorem Srd.app {a b : List (SI N)} : Srd lt (a ++ b) ↔ Srd lt a ∧ Srd lt b ∧ ∀ x ∈ a, ∀ y ∈ b, lt y x = false := List.pairwise_append
theorem Srd.nil : Srd lt [] := List.Pairwise.nil
theorem Srd.one (x : SI N) : Srd lt [x] := List.pairwise_singleton _ _
/-- All of a sorted row lie before what its last does. -/
theorem Srd.last (h : LeO lt) {l : List (SI N)} {z y : SI N} (hs : Srd lt (l ++ [z])) (hy : lt y z = false) : ∀ x ∈ l ++ [z], lt y x = false := fun x hx => by
  rcases List.mem_append.1 hx with hx | hx
  · exact h.neg x z y ((Srd.app.1 hs).2.2 x hx z (List.mem_singleton.2 rfl)) hy
  · rw [List.mem_singleton] at hx; subst hx; exact hy
theorem Srd.lastLt (h : LeO lt) {l : List (SI N)} {z y : SI N} (hs : Srd lt (l ++ [z])) (hy : lt z y = true) : ∀ x ∈ l ++ [z], lt x y = true := fun x hx => by
  rcases List.mem_append.1 hx with hx | hx
  · exact h.tr2 ((Srd.app.1 hs).2.2 x hx z (List.mem_singleton.2 rfl)) hy
  · rw [List.mem_singleton] at hx; subst hx; exact hy
theorem Srd.first (h : LeO lt) {l : List (SI N)} {z y : SI N} (hs : Srd lt (z :: l)) (hy : lt z y = false) : ∀ x ∈ z :: l, lt x y = false := fun x hx => by
  rcases List.mem_cons.1 hx with hx | hx
  · subst hx; exact hy
  · exact h.neg y z x hy ((List.pairwise_cons.1 hs).1 x hx)
theorem Srd.firstLt (h : LeO lt) {l : List (SI N)} {z y : SI N} (hs : Srd lt (z :: l)) (hy : lt y z = true) : ∀ x ∈ z :: l, lt y x = true := fun x hx => by
  rcases List.mem_cons.1 hx with hx | hx
  · subst hx; exact hy
  · exact h.tr hy ((List.pairwise_cons.1 hs).1 x hx)
/-- One is put into a sorted row from behind: what it passes is greater. -/
theorem ins_ok (h : LeO lt) {s1 s2 : List (SI N)} {x : SI N} (hs : Srd lt (s1 ++ s2)) (h1 : ∀ y ∈ s1, lt x y = false) (h2 : ∀ y ∈ s2, lt x y = true) : Srt lt ((s1 ++ s2) ++ [x]) (s1 ++ (x :: s2)) ∧ Srd lt (s1 ++ (x :: s2)) := by
  obtain ⟨a1, a2, a3⟩ := Srd.app.1 hs
  constructor
  · rw [List.append_assoc]
    exact Srt.app (Srt.refl _) (Srt.swap h (l1 := s2) (l2 := [x]) (fun y hy z hz => by rw [List.mem_singleton] at hz; subst hz; exact h2 y hy))
  · refine Srd.app.2 ⟨a1, List.pairwise_cons.2 ⟨fun y hy => h.asym x y (h2 y hy), a2⟩, fun y hy z hz => ?_⟩
    rcases List.mem_cons.1 hz with hz | hz
    · subst hz; exact h1 y hy
    · exact a3 y hy z hz
/-- One is put into a sorted row from ahead: what it passes is less. -/
theorem ins_ok2 (h : LeO lt) {s1 s2 : List (SI N)} {x : SI N} (hs : Srd lt (s1 ++ s2)) (h1 : ∀ y ∈ s1, lt y x = true) (h2 : ∀ y ∈ s2, lt y x = false) : Srt lt ([x] ++ (s1 ++ s2)) (s1 ++ (x :: s2)) ∧ Srd lt (s1 ++ (x :: s2)) := by
  obtain ⟨a1, a2, a3⟩ := Srd.app.1 hs
  constructor
  · rw [← List.append_assoc, show s1 ++ (x :: s2) = (s1 ++ [x]) ++ s2 by simp]
    exact Srt.app (Srt.swap h (l1 := [x]) (l2 := s1) (fun z hz y hy => by rw [List.mem_singleton] at hz; subst hz; exact h1 y hy)) (Srt.refl _)
  · refine Srd.app.2 ⟨a1, List.pairwise_cons.2 ⟨h2, a2⟩, fun y hy z hz => ?_⟩
    rcases List.mem_cons.1 hz with hz | hz
    · subst hz; exact h.asym y z (h1 y hy)
    · exact a3 y hy z hz
/-- The two halves behind the turn, each sorted, are sorted together. -/
theorem merge_ok (h : LeO lt) {L1 L2 R1 R2 P Q : List (SI N)} (h1 : Srd lt (L1 ++ L2)) (h2 : Srd lt (R1 ++ R2)) (hRL : ∀ x ∈ L2, ∀ y ∈ R1, lt y x = true) (hLR : ∀ x ∈ L1, ∀ y ∈ R2, lt y x = false)
    (hP : Srt lt (L1 ++ R1) P) (sP : Srd lt P) (hQ : Srt lt (L2 ++ R2) Q) (sQ : Srd lt Q) : Srt lt ((L1 ++ L2) ++ (R1 ++ R2)) (P ++ Q) ∧ Srd lt (P ++ Q) := by
  obtain ⟨a1, a2, a3⟩ := Srd.app.1 h1
  obtain ⟨b1, b2, b3⟩ := Srd.app.1 h2
  constructor
  · refine Srt.trans ?_ (Srt.app hP hQ)
    have k := Srt.app (Srt.app (Srt.refl (lt := lt) L1) (Srt.swap h (l1 := L2) (l2 := R1) hRL)) (Srt.refl R2)
    simpa using k
  · refine Srd.app.2 ⟨sP, sQ, fun x hx y hy => ?_⟩
    have hx' := (hP.mem h).1 hx
    have hy' := (hQ.mem h).1 hy
    rcases List.mem_append.1 hx' with hx' | hx' <;> rcases List.mem_append.1 hy' with hy' | hy'
    · exact a3 x hx' y hy'
    · exact hLR x hx' y hy'
    · exact h.asym x y (hRL y hy' x hx')
    · exact b3 x hx' y hy'
end
/-- A row by its places. -/
theorem getD_mid (P : List (SI N)) (x : SI N) (R : List (SI N)) : (P ++ (x :: R)).getD P.length spz = x := by
  rw [List.getD_eq_getElem?_getD, List.getElem?_append_right (Nat.le_refl _), Nat.sub_self]; rfl
theorem set_mid (P : List (SI N)) (x y : SI N) (R : List (SI N)) : (P ++ (x :: R)).set P.length y = P ++ (y :: R) := by
  rw [List.set_append_right _ _ (Nat.le_refl _), Nat.sub_self]; rfl
theorem swp_mid (P M R : List (SI N)) (x y : SI N) {i j : Nat} (hi : i = P.length) (hj : j = P.length + 1 + M.length) : swp (P ++ (x :: (M ++ (y :: R)))) i j = P ++ (y :: (M ++ (x :: R))) := by
  subst hi
  have e1 : (P ++ (x :: (M ++ (y :: R)))).getD j spz = y := by
    rw [show P ++ (x :: (M ++ (y :: R))) = (P ++ (x :: M)) ++ (y :: R) by simp, show j = (P ++ (x :: M)).length by simp; omega]
    exact getD_mid _ _ _
  rw [swp, e1, getD_mid, set_mid, show P ++ (y :: (M ++ (y :: R))) = (P ++ (y :: M)) ++ (y :: R) by simp, show j = (P ++ (y :: M)).length by simp; omega, set_mid]
  simp
theorem swp_mid' (P M R : List (SI N)) (x y : SI N) {i j : Nat} (hi : i = P.length) (hj : j = P.length + 1 + M.length) : swp (P ++ (x :: (M ++ (y :: R)))) j i = P ++ (y :: (M ++ (x :: R))) := by
  have hne : i ≠ j := by omega
  rw [← swp_mid P M R x y hi hj, swp, swp, List.set_comm _ _ hne.symm]
theorem swapUp_seg : ∀ (n : Nat) (X Y P M R : List (SI N)), X.length = n → Y.length = n → swapUp (P ++ (X ++ (M ++ (Y ++ R)))) P.length (P.length + n + M.length) n = P ++ (Y ++ (M ++ (X ++ R)))
  | 0, X, Y, P, M, R, hX, hY => by
    have : X = [] := List.eq_nil_of_length_eq_zero hX
    have : Y = [] := List.eq_nil_of_length_eq_zero hY
    subst X Y
    rfl
  | n + 1, X, Y, P, M, R, hX, hY => by
    obtain ⟨X', x, rfl⟩ : ∃ X' x, X = X' ++ [x] := ⟨X.dropLast, X.getLast (by intro h; rw [h] at hX; cases hX), (List.dropLast_concat_getLast _).symm⟩
    obtain ⟨Y', y, rfl⟩ : ∃ Y' y, Y = Y' ++ [y] := ⟨Y.dropLast, Y.getLast (by intro h; rw [h] at hY; cases hY), (List.dropLast_concat_getLast _).symm⟩
    have hX' : X'.length = n := by simpa using hX
    have hY' : Y'.length = n := by simpa using hY
    have ih := swapUp_seg n X' Y' P (x :: M) (y :: R) hX' hY'
    rw [show P ++ (X' ++ [x] ++ (M ++ (Y' ++ [y] ++ R))) = P ++ (X' ++ (x :: M ++ (Y' ++ y :: R))) by simp, swapUp, show P.length + (n + 1) + M.length = P.length + n + (x :: M).length by simp; omega, ih]
    rw [show P ++ (Y' ++ (x :: M ++ (X' ++ y :: R))) = (P ++ Y') ++ (x :: ((M ++ X') ++ (y :: R))) by simp]
    rw [swp_mid (P ++ Y') (M ++ X') R x y (by simp; omega) (by simp; omega)]
    simp
end Go.Proofs.Ytbbflddhbamjbaa

namespace Go.Proofs.Ytbbflddhbamjbaa
open Go.RowKit
variable {N : Nat}

theorem split_at {α : Type} (X : List α) {n : Nat} (h : n ≤ X.length) : ∃ A B, X = A ++ B ∧ A.length = n := ⟨X.take n, X.drop n, (List.take_append_drop n X).symm, by simp; omega⟩
/-- swapRange, its rows named. -/
theorem swapSeg_any {w : World} {gb : Nat} {P X M Y R : List (SI N)} {tl : List Value} {L : Nat} (h : SRow w gb (P ++ (X ++ (M ++ (Y ++ R)))) tl) (hL : (P ++ (X ++ (M ++ (Y ++ R)))).length = L) (c : Nat) (hl : L ≤ 4000000000) (hc : L ≤ c) {a b n : Nat} (ha : a = P.length) (hX : X.length = n) (hY : Y.length = n) (hb : b = P.length + n + M.length) (cmp : Value) :
    Calls Try.prog 88 #[.slice (some ⟨gb, 0, none⟩) L c, .int .i64 a, .int .i64 b, .int .i64 n, cmp] w fun e w' => e = .returned (.tuple #[]) ∧ SRow w' gb (P ++ (Y ++ (M ++ (X ++ R)))) tl ∧ Mod (· = gb) w w' := by
  subst hL ha hb
  have h1 := swapRange_any h c hl hc P.length (P.length + n + M.length) n (by simp; omega) (by omega) cmp
  rw [swapUp_seg n X Y P M R hX hY] at h1
  exact h1

set_option maxHeartbeats 8000000 in
set_option maxRecDepth 100000 in
theorem rotate_any {w : World} {gb : Nat} {P X Y R : List (SI N)} {tl : List Value} {L : Nat} (h : SRow w gb (P ++ (X ++ (Y ++ R))) tl) (hL : (P ++ (X ++ (Y ++ R))).length = L) (c : Nat) (hl : L ≤ 4000000000) (hc : L ≤ c) {a m b : Nat} (ha : a = P.length) (hm : m = P.length + X.length) (hb : b = P.length + X.length + Y.length) (hX : 0 < X.length) (hY : 0 < Y.length) (cmp : Value) :
    Calls Try.prog 86 #[.slice (some ⟨gb, 0, none⟩) L c, .int .i64 a, .int .i64 m, .int .i64 b, cmp] w fun e w' => e = .returned (.tuple #[]) ∧ SRow w' gb (P ++ (Y ++ (X ++ R))) tl ∧ Mod (· = gb) w w' := by
  have HH := Lib.hid h
  have hLL := hL
  simp only [List.length_append] at hLL
  have e1 : IntKind.i64.wrap ((m : Int) - (a : Int)) = (X.length : Int) := by rw [IntWalk.i64_in _ (by omega)]; omega
  have e2 : IntKind.i64.wrap ((b : Int) - (m : Int)) = (Y.length : Int) := by rw [IntWalk.i64_in _ (by omega)]; omega
  have hmL : m ≤ 4000000000 := by omega
  have HT := Lib.hid (⟨hL, hm, hX, hY⟩ : (P ++ (X ++ (Y ++ R))).length = L ∧ m = P.length + X.length ∧ 0 < X.length ∧ 0 < Y.length)
  clear h hLL hm hb ha hL
  go_enter Try.func86, Try.ntmps86
  go_wp2
  go_loopw [10, 11] (fun iv jv wr => ∃ (P1 X1 Y1 R1 : List (SI N)), iv = .int .i64 (X1.length : Int) ∧ jv = .int .i64 (Y1.length : Int) ∧ 0 < X1.length ∧ 0 < Y1.length ∧ P1.length + X1.length = m ∧ (P1 ++ (X1 ++ (Y1 ++ R1))).length = L ∧ Hid (P1 ++ (Y1 ++ (X1 ++ R1)) = P ++ (Y ++ (X ++ R))) ∧
    SRow wr gb (P1 ++ (X1 ++ (Y1 ++ R1))) tl ∧ Mod (· = gb) w wr) (fun iv jv _ => (intOf iv + intOf jv).toNat)
  case atStart => exact ⟨P, X, Y, R, rfl, rfl, hX, hY, HT.out.2.1.symm, HT.out.1, rfl, HH.out, Mod.refl _ _⟩
  case round =>
    obtain ⟨P1, X1, Y1, R1, rfl, rfl, hX1, hY1, hm1, hL1, HE, hR, hM⟩ := hrel
    have hLL := hL1
    simp only [List.length_append] at hLL
    clear e1 e2
    by_cases hxy : X1.length = Y1.length
    · have q1 : ((X1.length : Int) != (Y1.length : Int)) = false := by rw [bne_eq_false_iff_eq]; omega
      have q2 : IntKind.i64.wrap ((m : Int) - (X1.length : Int)) = (P1.length : Int) := by rw [IntWalk.i64_in _ (by omega)]; omega
      have HC := swapSeg_any (M := []) (a := P1.length) (b := m) (n := X1.length) hR hL1 c hl hc rfl rfl hxy.symm (by simp; omega) cmp
      generalize X1.length = i at *
      generalize Y1.length = j at *
      replace hxy := Lib.hid hxy
      go_wp2_with (first
        | (go_at_call 88; (with_reducible refine HC.mono ?_); rintro e w1 ⟨rfl, hR1, hM1⟩))
      go_end0
      exact ⟨rfl, HE.out ▸ hR1, hM.then_ hM1⟩
    · have q1 : ((X1.length : Int) != (Y1.length : Int)) = true := by rw [bne_iff_ne]; omega
      by_cases hgt : Y1.length < X1.length
      · obtain ⟨A, B, rfl, hA⟩ := split_at X1 (n := Y1.length) (by omega)
        have hB : B.length = (A ++ B).length - Y1.length := by rw [List.length_append]; omega
        have q2 : IntKind.i64.wrap ((m : Int) - ((A ++ B).length : Int)) = (P1.length : Int) := by rw [IntWalk.i64_in _ (by omega)]; omega
        have q3 : IntKind.i64.wrap (((A ++ B).length : Int) - (Y1.length : Int)) = (B.length : Int) := by rw [IntWalk.i64_in _ (by omega)]; omega
        have q4 : (Y1.length : Int) < ((A ++ B).length : Int) := by omega
        rw [List.append_assoc] at hR
        have hL2 : (P1 ++ (A ++ (B ++ (Y1 ++ R1)))).length = L := by rw [← hL1]; simp
        have hml := hm1
        rw [List.length_append] at hml
        have HC := swapSeg_any (a := P1.length) (b := m) (n := Y1.length) hR hL2 c hl hc rfl hA rfl (by omega) cmp
        have HE2 := Lib.hid (show (P1 ++ Y1) ++ (A ++ (B ++ R1)) = P ++ (Y ++ (X ++ R)) by rw [← HE.out]; simp)
        have HN := Lib.hid (show (P1 ++ Y1).length + B.length = m ∧ 0 < B.length ∧ 0 < A.length ∧ (P1 ++ Y1 ++ (B ++ (A ++ R1))).length = L ∧ A.length = Y1.length ∧ B.length + A.length < (A ++ B).length + Y1.length by
          simp only [List.length_append] at *; omega)
        have hBl : B.length ≤ 4000000000 := by omega
        clear hL2 hLL hml hB hR hL1 hm1 hxy hX1
        generalize hxn : (A ++ B).length = i at *
        generalize hyn : Y1.length = j at *
        generalize hbn : B.length = i2 at *
        replace hxn := Lib.hid hxn
        replace hyn := Lib.hid hyn
        replace hbn := Lib.hid hbn
        have hpn : P1.length = P1.length := rfl
        clear hpn hA
        go_wp2_with (first
          | (go_at_call 88; (with_reducible refine HC.mono ?_); rintro e w1 ⟨rfl, hR1, hM1⟩))
        go_roundw
        case rel =>
          obtain ⟨n1, n2, n3, n4, n5, n6⟩ := HN.out
          refine ⟨P1 ++ Y1, B, A, R1, by rw [hbn.out], by rw [n5], by rw [hbn.out]; exact n2, n3, by rw [hbn.out]; exact n1, n4, HE2.out, ?_, hM.then_ hM1⟩
          simpa using hR1
        case measure =>
          obtain ⟨n1, n2, n3, n4, n5, n6⟩ := HN.out
          simp [intOf]; omega
      · obtain ⟨A, B, rfl, hA⟩ := split_at Y1 (n := Y1.length - X1.length) (by omega)
        have hB : B.length = X1.length := by rw [List.length_append] at *; omega
        have q2 : IntKind.i64.wrap ((m : Int) - (X1.length : Int)) = (P1.length : Int) := by rw [IntWalk.i64_in _ (by omega)]; omega
        have q3 : IntKind.i64.wrap (((A ++ B).length : Int) - (X1.length : Int)) = (A.length : Int) := by rw [List.length_append] at *; rw [IntWalk.i64_in _ (by omega)]; omega
        have q4 : ¬ ((A ++ B).length : Int) < (X1.length : Int) := by omega
        have q5 : IntKind.i64.wrap ((m : Int) + ((A ++ B).length : Int)) = ((m + (A ++ B).length : Nat) : Int) := by rw [IntWalk.i64_in _ (by omega)]; omega
        have q6 : IntKind.i64.wrap (((m + (A ++ B).length : Nat) : Int) - (X1.length : Int)) = ((m + A.length : Nat) : Int) := by rw [List.length_append] at *; rw [IntWalk.i64_in _ (by omega)]; omega
        rw [List.append_assoc] at hR
        have hL2 : (P1 ++ (X1 ++ (A ++ (B ++ R1)))).length = L := by rw [← hL1]; simp
        have HC := swapSeg_any (a := P1.length) (b := m + A.length) (n := X1.length) hR hL2 c hl hc rfl rfl hB (by omega) cmp
        have HE2 := Lib.hid (show P1 ++ (A ++ (B ++ (X1 ++ R1))) = P ++ (Y ++ (X ++ R)) by rw [← HE.out]; simp)
        have HN := Lib.hid (show P1.length + B.length = m ∧ 0 < A.length ∧ 0 < B.length ∧ (P1 ++ (B ++ (A ++ (X1 ++ R1)))).length = L ∧ B.length = X1.length ∧ B.length + A.length < X1.length + (A ++ B).length by
          simp only [List.length_append] at *; omega)
        have hAl : A.length ≤ 4000000000 := by simp only [List.length_append] at *; omega
        clear hL2 hLL hB hR hL1 hm1 hxy
        generalize hxn : (A ++ B).length = j at *
        generalize hyn : X1.length = i at *
        generalize hbn : A.length = j2 at *
        generalize hmj : m + j2 = mj at *
        generalize hmj2 : m + j = mjj at *
        replace hxn := Lib.hid hxn
        replace hyn := Lib.hid hyn
        replace hbn := Lib.hid hbn
        replace hmj := Lib.hid hmj
        replace hmj2 := Lib.hid hmj2
        clear hA
        go_wp2_with (first
          | (go_at_call 88; (with_reducible refine HC.mono ?_); rintro e w1 ⟨rfl, hR1, hM1⟩))
        go_roundw
        case rel =>
          obtain ⟨n1, n2, n3, n4, n5, n6⟩ := HN.out
          exact ⟨P1, B, A, X1 ++ R1, by rw [n5], by rw [hbn.out], n3, by rw [hbn.out]; exact n2, n1, n4, HE2.out, hR1, hM.then_ hM1⟩
        case measure =>
          obtain ⟨n1, n2, n3, n4, n5, n6⟩ := HN.out
          simp [intOf]; omega
end Go.Proofs.Ytbbflddhbamjbaa

namespace Go.Proofs.Ytbbflddhbamjbaa
open Go.RowKit
variable {N : Nat}
theorem gd_get {l : List (SI N)} {t : Nat} (h : t < l.length) : l.getD t spz = l[t] := by rw [List.getD_eq_getElem?_getD, List.getElem?_eq_getElem h]; rfl
theorem gd_l1 (P l T : List (SI N)) {t i : Nat} (h : t < l.length) (hi : i = P.length + t) : (P ++ (l ++ T)).getD i spz = l.getD t spz := by
  subst hi
  rw [List.getD_eq_getElem?_getD, List.getElem?_append_right (by omega), List.getElem?_append_left (by omega), List.getD_eq_getElem?_getD, show P.length + t - P.length = t by omega]
theorem gd_l2 (P l1 l2 T : List (SI N)) {t i : Nat} (h : t < l2.length) (hi : i = P.length + l1.length + t) : (P ++ (l1 ++ (l2 ++ T))).getD i spz = l2.getD t spz := by
  rw [← List.append_assoc]
  exact gd_l1 (P ++ l1) l2 T h (by rw [List.length_append]; exact hi)
theorem take_last {l : List (SI N)} {k : Nat} (h0 : 0 < k) (h : k ≤ l.length) : l.take k = l.take (k - 1) ++ [l.getD (k - 1) spz] := by
  obtain ⟨j, rfl⟩ : ∃ j, k = j + 1 := ⟨k - 1, by omega⟩
  rw [Nat.add_sub_cancel, gd_get (by omega), List.take_succ_eq_append_getElem (by omega)]
theorem drop_first {l : List (SI N)} {k : Nat} (h : k < l.length) : l.drop k = l.getD k spz :: l.drop (k + 1) := by rw [gd_get h, List.drop_eq_getElem_cons h]
theorem take_srd {lt : SI N → SI N → Bool} {l : List (SI N)} (hs : Srd lt l) (k : Nat) : Srd lt (l.take k) ∧ Srd lt (l.drop k) := by
  have hs' := hs
  rw [← List.take_append_drop k l] at hs'
  have := Srd.app.1 hs'
  exact ⟨this.1, this.2.1⟩
section
variable {lt : SI N → SI N → Bool} (h : LeO lt) {l : List (SI N)} {k : Nat} {x : SI N}
include h
theorem bs_lt (hs : Srd lt l) (hk : k ≤ l.length) (hx : k = 0 ∨ lt (l.getD (k - 1) spz) x = true) : ∀ y ∈ l.take k, lt y x = true := by
  by_cases h0 : k = 0
  · subst h0; simp
  · have h1 := (take_srd hs k).1
    rw [take_last (by omega) hk] at h1 ⊢
    exact h1.lastLt h (hx.resolve_left h0)
theorem bs_nlt (hs : Srd lt l) (hk : k ≤ l.length) (hx : k = l.length ∨ lt (l.getD k spz) x = false) : ∀ y ∈ l.drop k, lt y x = false := by
  by_cases h0 : k = l.length
  · subst h0; simp
  · have h1 := (take_srd hs k).2
    rw [drop_first (by omega)] at h1 ⊢
    exact h1.first h (hx.resolve_left h0)
theorem bs_nlt2 (hs : Srd lt l) (hk : k ≤ l.length) (hx : k = 0 ∨ lt x (l.getD (k - 1) spz) = false) : ∀ y ∈ l.take k, lt x y = false := by
  by_cases h0 : k = 0
  · subst h0; simp
  · have h1 := (take_srd hs k).1
    rw [take_last (by omega) hk] at h1 ⊢
    exact h1.last h (hx.resolve_left h0)
theorem bs_lt2 (hs : Srd lt l) (hk : k ≤ l.length) (hx : k = l.length ∨ lt x (l.getD k spz) = true) : ∀ y ∈ l.drop k, lt x y = true := by
  by_cases h0 : k = l.length
  · subst h0; simp
  · have h1 := (take_srd hs k).2
    rw [drop_first (by omega)] at h1 ⊢
    exact h1.firstLt h (hx.resolve_left h0)
/-- Where the turn is laid. -/
theorem turn_ok {l1 l2 : List (SI N)} {p q : Nat} (h1 : Srd lt l1) (h2 : Srd lt l2) (hp : p ≤ l1.length) (hq : q ≤ l2.length)
    (hA : (q = 0 ∨ p = l1.length) ∨ lt (l2.getD (q - 1) spz) (l1.getD p spz) = true) (hB : (q = l2.length ∨ p = 0) ∨ lt (l2.getD q spz) (l1.getD (p - 1) spz) = false) :
    (∀ x ∈ l1.drop p, ∀ y ∈ l2.take q, lt y x = true) ∧ (∀ x ∈ l1.take p, ∀ y ∈ l2.drop q, lt y x = false) := by
  constructor
  · intro x hx y hy
    by_cases hq0 : q = 0
    · subst hq0; simp at hy
    · by_cases hp0 : p = l1.length
      · subst hp0; simp at hx
      · have h3 := hA.resolve_left (by omega)
        have h4 := bs_lt h h2 hq (.inr h3) y hy
        exact bs_lt2 h h1 hp (.inr h4) x hx
  · intro x hx y hy
    by_cases hq0 : q = l2.length
    · subst hq0; simp at hy
    · by_cases hp0 : p = 0
      · subst hp0; simp at hx
      · have h3 := hB.resolve_left (by omega)
        have h4 := bs_nlt h h2 hq (.inr h3) y hy
        exact bs_nlt2 h h1 hp (.inr h4) x hx
end

/-- The counts, as the closure finds them: its variable in block bx, they themselves in block gc. -/
structure CtR (N : Nat) (W : World) (bx gc : Nat) (ct : List Int) : Prop where
  b : Blk W bx 22 #[.slice (some ⟨gc, 0, none⟩) (N + 1) (N + 1)]
  c : Blk W gc 3 (ic .i64 ct).toArray
  len : ct.length = N + 1
  bd : ∀ x ∈ ct, 0 ≤ x ∧ x ≤ 1000000000
theorem CtR.mod {M : Nat → Prop} {W W' : World} {bx gc : Nat} {ct : List Int} (h : CtR N W bx gc ct) (hm : Mod M W W') (h1 : ¬ M bx) (h2 : ¬ M gc) : CtR N W' bx gc ct := ⟨h.b.mod hm h1, h.c.mod hm h2, h.len, h.bd⟩
def cfC (ct : List Int) (x y : SI N) : Int := ct.getD y.val 0 - ct.getD x.val 0
def ltC (ct : List Int) (x y : SI N) : Bool := decide (cfC ct x y < 0)
theorem cfC_neg (ct : List Int) (x y : SI N) : cfC ct x y < 0 ↔ ct.getD y.val 0 < ct.getD x.val 0 := by unfold cfC; omega
theorem ltC_leO (ct : List Int) : LeO (N := N) (ltC ct) where
  asym x y h := by
    simp only [ltC, decide_eq_true_eq, decide_eq_false_iff_not, cfC_neg] at *; omega
  neg x y z h1 h2 := by
    simp only [ltC, decide_eq_false_iff_not, cfC_neg] at *; omega
set_option maxHeartbeats 2000000 in
theorem less3_any {W : World} {bx gc : Nat} {ct : List Int} (h : CtR N W bx gc ct) (x y : SI N) (hN : N ≤ 1000000) :
    Calls Try.prog 51 #[.int .i64 ((x.val : Nat) : Int), .int .i64 ((y.val : Nat) : Int), .pointer (some ⟨bx, 0, none⟩)] W fun e w' => e = .returned (.int .i64 (cfC ct x y)) ∧ Below W.heap.size W w' := by
  have hx := x.isLt
  have hy := y.isLt
  obtain ⟨hb, hc, hl, hbd⟩ := h
  have z0 := hb.cell 0
  have gt : ∀ i, i < N + 1 → W.cell? ⟨gc, i, none⟩ = some (.int .i64 (ct.getD i 0)) ∧ 0 ≤ ct.getD i 0 ∧ ct.getD i 0 ≤ 1000000000 := fun i hi => by
    have h1 := hc.cell i
    have hi2 : i < ct.length := by omega
    rw [List.getElem?_toArray, ic_get hi2] at h1
    have e : ct.getD i 0 = ct[i] := by rw [List.getD_eq_getElem?_getD, List.getElem?_eq_getElem hi2]; rfl
    refine ⟨h1, ?_⟩
    rw [e]
    exact hbd _ (List.getElem_mem hi2)
  obtain ⟨c0, c1, c2⟩ := gt x.val hx
  obtain ⟨d0, d1, d2⟩ := gt y.val hy
  have HF := Lib.hid (show cfC ct x y = ct.getD y.val 0 - ct.getD x.val 0 from rfl)
  generalize cfC ct x y = F at *
  generalize ct.getD x.val 0 = p at *
  generalize ct.getD y.val 0 = q at *
  generalize x.val = i at *
  generalize y.val = j at *
  have hw : IntKind.i64.wrap (q - p) = q - p := IntWalk.i64_in _ (by omega)
  have hN1 : ((N + 1 : Nat) : Int) = (N : Int) + 1 := by omega
  have hi9 : (i : Int) < (N : Int) + 1 := by omega
  have hj9 : (j : Int) < (N : Int) + 1 := by omega
  clear gt hb hc hbd hx hy hl
  go_enter Try.func51, Try.ntmps51
  go_upto_region 1 with fail
  go_quiet (fail)
  go_wp2
  go_ret
  exact ⟨by rw [HF.out]; rfl, below_drewN (Below.refl _ _) _⟩
set_option maxHeartbeats 16000000 in
set_option maxRecDepth 100000 in
theorem inssort_any {w : World} {gb bx gc : Nat} {ct : List Int} {P l R : List (SI N)} {tl : List Value} {L : Nat} (hct : CtR N w bx gc ct) (hne : gb ≠ bx ∧ gb ≠ gc) (hN : N ≤ 1000000) (h : SRow w gb (P ++ (l ++ R)) tl) (hL : (P ++ (l ++ R)).length = L) (c : Nat) (hl : L ≤ 4000000000) (hc : L ≤ c) {a b : Nat} (ha : a = P.length) (hb : b = P.length + l.length) :
    Calls Try.prog 79 #[.slice (some ⟨gb, 0, none⟩) L c, .int .i64 a, .int .i64 b, .func (.func 51) #[] #[.pointer (some ⟨bx, 0, none⟩)]] w fun e w' => e = .returned (.tuple #[]) ∧ ∃ l', SRow w' gb (P ++ (l' ++ R)) tl ∧ l'.length = l.length ∧ Srt (ltC ct) l l' ∧ Srd (ltC ct) l' ∧ Mod (· = gb) w w' := by
  have hLL := hL
  simp only [List.length_append] at hLL
  cases l with
  | nil =>
    have hb' : b = a := by rw [ha, hb]; rfl
    subst hb'
    have hmL : b ≤ 4000000000 := by omega
    clear hLL ha hb
    go_enter Try.func79, Try.ntmps79
    go_wp2
    go_loop [8] (fun iv => iv = .int .i64 ((b : Int) + 1)) (fun _ => 0)
    case atStart => go_num
    case round =>
      subst hrel
      have hbb : ¬ (b : Int) + 1 < (b : Int) := by omega
      go_wp2
      go_end0
      exact ⟨rfl, [], h, rfl, Srt.refl _, Srd.nil, Mod.refl _ _⟩
  | cons x0 l0 =>
    have HC := Lib.hid (fun (x y : SI N) W (hW : Mod (· = gb) w W) => less3_any (hct.mod hW (fun e => hne.1 e.symm) (fun e => hne.2 e.symm)) x y hN)
    have HH := Lib.hid h
    have hab : b = a + 1 + l0.length := by rw [ha, hb]; simp; omega
    have hmL : b ≤ 4000000000 := by simp only [List.length_cons] at hLL; omega
    have HL := Lib.hid hL
    have HA := Lib.hid ha
    have HAB := Lib.hid hab
    have hab2 : a + 1 ≤ b := by omega
    have hbL : b ≤ L := by simp only [List.length_cons] at hLL; omega
    clear h hLL hL ha hb hab
    go_enter Try.func79, Try.ntmps79
    go_wp2
    go_loopw [8] (fun iv wr => ∃ (i : Nat) (l1 s rest : List (SI N)), iv = .int .i64 (i : Int) ∧ x0 :: l0 = l1 ++ rest ∧ i = a + s.length ∧ s.length = l1.length ∧ 0 < s.length ∧ Srt (ltC ct) l1 s ∧ Srd (ltC ct) s ∧ SRow wr gb (P ++ (s ++ (rest ++ R))) tl ∧ Mod (· = gb) w wr) (fun iv _ => b - (intOf iv).toNat)
    case atStart => exact ⟨a + 1, [x0], [x0], l0, by go_num, rfl, rfl, rfl, by simp, Srt.refl _, Srd.one _, HH.out, Mod.refl _ _⟩
    case round =>
      obtain ⟨i, l1, s, rest, rfl, hl1, hi, hsl, hs0, hsrt, hsrd, hR, hM⟩ := hrel
      have hlen := congrArg List.length hl1
      simp only [List.length_append, List.length_cons] at hlen
      have hia : a + 1 ≤ i := by omega
      have hab3 := HAB.out
      by_cases hib : i < b
      · cases rest with
        | nil => simp only [List.length_nil] at hlen; omega
        | cons x rest =>
          have hibz : (i : Int) < (b : Int) := by omega
          have HO := Lib.hid (⟨hl1, hi, hsl, hs0, hsrt, hsrd⟩ : x0 :: l0 = l1 ++ (x :: rest) ∧ i = a + s.length ∧ s.length = l1.length ∧ 0 < s.length ∧ Srt (ltC ct) l1 s ∧ Srd (ltC ct) s)
          have HR := Lib.hid hR
          have HM := Lib.hid hM
          clear hl1 hsl hs0 hsrt hsrd hR hM hlen hi hab3
          go_wp2
          go_loopw [9] (fun jv wr => ∃ (j : Nat) (s1 s2 : List (SI N)), jv = .int .i64 (j : Int) ∧ s = s1 ++ s2 ∧ j = a + s1.length ∧ (∀ y ∈ s2, (ltC ct) x y = true) ∧ SRow wr gb (P ++ (s1 ++ (x :: (s2 ++ (rest ++ R))))) tl ∧ Mod (· = gb) w wr) (fun jv _ => (intOf jv).toNat)
          case atStart => exact ⟨i, s, [], rfl, by simp, HO.out.2.1, by simp, HR.out, HM.out⟩
          case round =>
            obtain ⟨j, s1, s2, rfl, hs12, hj, hgt, hR, hM⟩ := hrel
            have HG := Lib.hid hgt
            have HS := Lib.hid hs12
            have hout : (∀ y ∈ s1, (ltC ct) x y = false) → (s1 ++ (x :: s2)).length = s.length + 1 ∧ Srt (ltC ct) (l1 ++ [x]) (s1 ++ (x :: s2)) ∧ Srd (ltC ct) (s1 ++ (x :: s2)) := fun h9 => by
              obtain ⟨o1, o2, o3, o4, o5, o6⟩ := HO.out
              have o6' := o6
              rw [HS.out] at o6'
              have h8 := ins_ok (ltC_leO ct) o6' h9 HG.out
              refine ⟨by rw [HS.out]; simp; omega, Srt.trans (Srt.app o5 (Srt.refl [x])) ?_, h8.2⟩
              rw [HS.out]; exact h8.1
            have HOut := Lib.hid hout
            clear hout hgt hs12
            rcases List.eq_nil_or_concat s1 with he | ⟨s1', y, he⟩
            · subst he
              have hja : ¬ (a : Int) < (j : Int) := by simp at hj; omega
              have hja' : decide ((a : Int) < (j : Int)) = false := decide_eq_false hja
              have hjaN : decide (a < j) = false := decide_eq_false (by omega)
              have HR := Lib.hid hR
              have HM := Lib.hid hM
              clear hR hM hj
              go_wp2_with (fail)
              refine wp_region_held_drew (S := (fun _ => True)) (by kernel_rfl) ?_ (fun hHeld => ?_)
              focus exact trivial
              refine wpAnyH_take (i := 0) (v := ?_) rfl (by kernel_rfl) (by kernel_rfl) (by kernel_rfl) (fun _ _ _ h => h) (Or.inl ⟨by kernel_rfl, ?_⟩) (by assumption) ?_
              rotate_left
              focus
                intro w9 hSw
                (try dsimp only at hSw)
                go_simp
                (try with_reducible rfl)
              (try simp only [Act.put, List.getElem_toArray, List.getElem_cons_succ, List.getElem_cons_zero, List.setIfInBounds_toArray, List.set_cons_zero, List.set_cons_succ])
              refine wpAnyH_take (i := 1) (v := ?_) rfl (by kernel_rfl) (by kernel_rfl) (by kernel_rfl) (fun _ _ _ h => h) (Or.inl ⟨by kernel_rfl, ?_⟩) (by assumption) ?_
              rotate_left
              focus
                intro w9 hSw
                (try dsimp only at hSw)
                go_simp
                (try with_reducible rfl)
              (try simp only [Act.put, List.getElem_toArray, List.getElem_cons_succ, List.getElem_cons_zero, List.setIfInBounds_toArray, List.set_cons_zero, List.set_cons_succ])
              refine wpAnyH_take (i := 2) (v := ?_) rfl (by kernel_rfl) (by kernel_rfl) (by kernel_rfl) (fun _ _ _ h => h) (Or.inl ⟨by kernel_rfl, ?_⟩) (by assumption) ?_
              rotate_left
              focus
                intro w9 hSw
                (try dsimp only at hSw)
                go_simp
                (try with_reducible rfl)
              (try simp only [Act.put, List.getElem_toArray, List.getElem_cons_succ, List.getElem_cons_zero, List.setIfInBounds_toArray, List.set_cons_zero, List.set_cons_succ])
              refine wpAnyH_take (i := 3) (v := ?_) rfl (by kernel_rfl) (by kernel_rfl) (by kernel_rfl) (fun _ _ _ h => h) (Or.inl ⟨by kernel_rfl, ?_⟩) (by assumption) ?_
              rotate_left
              focus
                intro w9 hSw
                (try dsimp only at hSw)
                go_simp
                (try with_reducible rfl)
              (try simp only [Act.put, List.getElem_toArray, List.getElem_cons_succ, List.getElem_cons_zero, List.setIfInBounds_toArray, List.set_cons_zero, List.set_cons_succ])
              refine wpAnyH_take (i := 4) (v := undef) rfl (by kernel_rfl) (by kernel_rfl) (by kernel_rfl) (fun _ _ _ h => h) (Or.inr ⟨by kernel_rfl, rfl⟩) (by assumption) ?_
              (try simp only [Act.put, List.getElem_toArray, List.getElem_cons_succ, List.getElem_cons_zero, List.setIfInBounds_toArray, List.set_cons_zero, List.set_cons_succ])
              refine wpAnyH_take (i := 5) (v := undef) rfl (by kernel_rfl) (by kernel_rfl) (by kernel_rfl) (fun _ _ _ h => h) (Or.inr ⟨by kernel_rfl, rfl⟩) (by assumption) ?_
              (try simp only [Act.put, List.getElem_toArray, List.getElem_cons_succ, List.getElem_cons_zero, List.setIfInBounds_toArray, List.set_cons_zero, List.set_cons_succ])
              refine wpAnyH_take (i := 6) (v := undef) rfl (by kernel_rfl) (by kernel_rfl) (by kernel_rfl) (fun _ _ _ h => h) (Or.inr ⟨by kernel_rfl, rfl⟩) (by assumption) ?_
              (try simp only [Act.put, List.getElem_toArray, List.getElem_cons_succ, List.getElem_cons_zero, List.setIfInBounds_toArray, List.set_cons_zero, List.set_cons_succ])
              refine wpAnyH_take (i := 7) (v := undef) rfl (by kernel_rfl) (by kernel_rfl) (by kernel_rfl) (fun _ _ _ h => h) (Or.inr ⟨by kernel_rfl, rfl⟩) (by assumption) ?_
              (try simp only [Act.put, List.getElem_toArray, List.getElem_cons_succ, List.getElem_cons_zero, List.setIfInBounds_toArray, List.set_cons_zero, List.set_cons_succ])
              refine wpAnyH_take (i := 8) (v := undef) rfl (by kernel_rfl) (by kernel_rfl) (by kernel_rfl) (fun _ _ _ h => h) (Or.inr ⟨by kernel_rfl, rfl⟩) (by assumption) ?_
              (try simp only [Act.put, List.getElem_toArray, List.getElem_cons_succ, List.getElem_cons_zero, List.setIfInBounds_toArray, List.set_cons_zero, List.set_cons_succ])
              refine wpAnyH_take (i := 9) (v := undef) rfl (by kernel_rfl) (by kernel_rfl) (by kernel_rfl) (fun _ _ _ h => h) (Or.inr ⟨by kernel_rfl, rfl⟩) (by assumption) ?_
              (try simp only [Act.put, List.getElem_toArray, List.getElem_cons_succ, List.getElem_cons_zero, List.setIfInBounds_toArray, List.set_cons_zero, List.set_cons_succ])
              refine wpAnyH_take (i := 10) (v := undef) rfl (by kernel_rfl) (by kernel_rfl) (by kernel_rfl) (fun _ _ _ h => h) (Or.inr ⟨by kernel_rfl, rfl⟩) (by assumption) ?_
              (try simp only [Act.put, List.getElem_toArray, List.getElem_cons_succ, List.getElem_cons_zero, List.setIfInBounds_toArray, List.set_cons_zero, List.set_cons_succ])
              refine wpAnyH_take (i := 11) (v := undef) rfl (by kernel_rfl) (by kernel_rfl) (by kernel_rfl) (fun _ _ _ h => h) (Or.inr ⟨by kernel_rfl, rfl⟩) (by assumption) ?_
              (try simp only [Act.put, List.getElem_toArray, List.getElem_cons_succ, List.getElem_cons_zero, List.setIfInBounds_toArray, List.set_cons_zero, List.set_cons_succ])
              refine wpAnyH_take (i := 12) (v := undef) rfl (by kernel_rfl) (by kernel_rfl) (by kernel_rfl) (fun _ _ _ h => h) (Or.inr ⟨by kernel_rfl, rfl⟩) (by assumption) ?_
              (try simp only [Act.put, List.getElem_toArray, List.getElem_cons_succ, List.getElem_cons_zero, List.setIfInBounds_toArray, List.set_cons_zero, List.set_cons_succ])
              refine wpAnyH_take (i := 13) (v := undef) rfl (by kernel_rfl) (by kernel_rfl) (by kernel_rfl) (fun _ _ _ h => h) (Or.inr ⟨by kernel_rfl, rfl⟩) (by assumption) ?_
              (try simp only [Act.put, List.getElem_toArray, List.getElem_cons_succ, List.getElem_cons_zero, List.setIfInBounds_toArray, List.set_cons_zero, List.set_cons_succ])
              refine wpAnyH_take (i := 14) (v := undef) rfl (by kernel_rfl) (by kernel_rfl) (by kernel_rfl) (fun _ _ _ h => h) (Or.inr ⟨by kernel_rfl, rfl⟩) (by assumption) ?_
              (try simp only [Act.put, List.getElem_toArray, List.getElem_cons_succ, List.getElem_cons_zero, List.setIfInBounds_toArray, List.set_cons_zero, List.set_cons_succ])
              refine wpAnyH_take (i := 15) (v := undef) rfl (by kernel_rfl) (by kernel_rfl) (by kernel_rfl) (fun _ _ _ h => h) (Or.inr ⟨by kernel_rfl, rfl⟩) (by assumption) ?_
              (try simp only [Act.put, List.getElem_toArray, List.getElem_cons_succ, List.getElem_cons_zero, List.setIfInBounds_toArray, List.set_cons_zero, List.set_cons_succ])
              refine wpAnyH_take (i := 16) (v := ?_) rfl (by kernel_rfl) (by kernel_rfl) (by kernel_rfl) (fun _ _ _ h => h) (Or.inl ⟨by kernel_rfl, ?_⟩) (by assumption) ?_
              rotate_left
              focus
                intro w9 hSw
                (try dsimp only at hSw)
                go_simp
                (try with_reducible rfl)
              (try simp only [Act.put, List.getElem_toArray, List.getElem_cons_succ, List.getElem_cons_zero, List.setIfInBounds_toArray, List.set_cons_zero, List.set_cons_succ])
              refine wpAnyH_done (by kernel_rfl) ?_ _
              (try simp only [Act.put, List.getElem_toArray, List.getElem_cons_succ, List.getElem_cons_zero, List.setIfInBounds_toArray, List.set_cons_zero, List.set_cons_succ])
              have hi9 : i + 1 ≤ 4000000001 := by omega
              go_wp2
              go_roundw
              case rel =>
                obtain ⟨o1, o2, o3, o4, o5, o6⟩ := HO.out
                obtain ⟨p1, p2, p3⟩ := HOut.out (by simp)
                refine ⟨i + 1, l1 ++ [x], [] ++ (x :: s2), rest, by go_num, by simpa using o1, by rw [p1]; omega, by rw [p1]; simp; omega, by rw [p1]; omega, p2, p3, ?_, ?_⟩
                · refine SRow.drew ?_
                  simpa using HR.out
                · exact HM.out.drew
              case measure => simp [intOf]; omega
            · subst he
              have hj' : j = a + s1'.length + 1 := by rw [hj]; simp; omega
              obtain ⟨q, hq⟩ : ∃ q, a + s1'.length = q := ⟨_, rfl⟩
              rw [hq] at hj'
              have hja : (a : Int) < (j : Int) := by omega
              have hjb : j ≤ i := by
                have h9 := HO.out.2.1
                have h8 := congrArg List.length HS.out
                simp only [List.concat_eq_append, List.length_append, List.length_cons, List.length_nil] at h8
                omega
              have e1 : IntKind.i64.wrap ((j : Int) - 1) = (q : Int) := by rw [IntWalk.i64_in _ (by omega)]; omega
              have hLn : (P ++ (s1'.concat y ++ (x :: (s2 ++ (rest ++ R))))).length = L := by
                have h9 := congrArg List.length HO.out.1
                have h7 := HO.out.2.2.1
                have h8 := congrArg List.length HS.out
                rw [← HL.out]
                simp only [List.concat_eq_append, List.length_append, List.length_cons, List.length_nil] at h8 h9 ⊢
                omega
              have hxa : (P ++ (s1'.concat y ++ (x :: (s2 ++ (rest ++ R))))).getD j spz = x := by
                rw [← List.append_assoc, show j = (P ++ s1'.concat y).length by rw [hj', ← hq, HA.out]; simp; omega]
                exact getD_mid _ _ _
              have hya : (P ++ (s1'.concat y ++ (x :: (s2 ++ (rest ++ R))))).getD q spz = y := by
                rw [show P ++ (s1'.concat y ++ (x :: (s2 ++ (rest ++ R)))) = (P ++ s1') ++ (y :: (x :: (s2 ++ (rest ++ R)))) by simp, show q = (P ++ s1').length by rw [← hq, HA.out]; simp]
                exact getD_mid _ _ _
              have hsw : swp (P ++ (s1'.concat y ++ (x :: (s2 ++ (rest ++ R))))) j q = P ++ (s1' ++ (x :: ((y :: s2) ++ (rest ++ R)))) := by
                rw [show P ++ (s1'.concat y ++ (x :: (s2 ++ (rest ++ R)))) = (P ++ s1') ++ (y :: ([] ++ (x :: (s2 ++ (rest ++ R))))) by simp]
                rw [swp_mid' (P ++ s1') [] (s2 ++ (rest ++ R)) y x (i := q) (j := j) (by rw [← hq, HA.out]; simp) (by rw [hj', ← hq, HA.out]; simp)]
                simp
              rw [swp, hxa, hya] at hsw
              have hjl : j < (P ++ (s1'.concat y ++ (x :: (s2 ++ (rest ++ R))))).length := by omega
              have hql : q < (P ++ (s1'.concat y ++ (x :: (s2 ++ (rest ++ R))))).length := by omega
              have hjL : j < L := by omega
              have hqL : q < L := by omega
              have x0 := hR.at_ hjl hxa
              have y0 := hR.at_ hql hya
              have HSW := Lib.hid hsw
              have HLn := Lib.hid hLn
              have HR := Lib.hid hR
              have HM := Lib.hid hM
              have HQ := Lib.hid hq
              have HJ := Lib.hid hj'
              have HC1 := Lib.hid (fun W h => HC.out x y W h)
              have HLt := Lib.hid (show (ltC ct) x y = decide (cfC ct x y < 0) from rfl)
              have hne : j ≠ q := by omega
              clear hR hM hLn hsw hxa hya hq hj' hj
              generalize cfC ct x y = cf at *
              go_wp2_with (fail)
              refine wp_region_held_drew (S := (fun w' => Below wr.heap.size wr w')) (by kernel_rfl) ?_ (fun hHeld => ?_)
              focus exact (Below.refl _ _).drew
              refine wpAnyH_take (i := 0) (v := ?_) rfl (by kernel_rfl) (by kernel_rfl) (by kernel_rfl) (fun _ _ _ h => h) (Or.inl ⟨by kernel_rfl, ?_⟩) (by assumption) ?_
              rotate_left
              focus
                intro w9 hSw
                (try dsimp only at hSw)
                have zK : ∀ {a9 : Addr} {u9 : Value}, wr.cell? a9 = some u9 → w9.cell? a9 = some u9 := fun {a9} {u9} h9 => (hSw.cell (World.block_lt_of_cell? wr a9 h9)).trans h9
                have z0 := zK x0
                have z1 := zK y0
                clear zK hSw
                go_simp
                (try with_reducible rfl)
              (try simp only [Act.put, List.getElem_toArray, List.getElem_cons_succ, List.getElem_cons_zero, List.setIfInBounds_toArray, List.set_cons_zero, List.set_cons_succ])
              refine wpAnyH_take (i := 1) (v := ?_) rfl (by kernel_rfl) (by kernel_rfl) (by kernel_rfl) (fun _ _ _ h => h) (Or.inl ⟨by kernel_rfl, ?_⟩) (by assumption) ?_
              rotate_left
              focus
                intro w9 hSw
                (try dsimp only at hSw)
                have zK : ∀ {a9 : Addr} {u9 : Value}, wr.cell? a9 = some u9 → w9.cell? a9 = some u9 := fun {a9} {u9} h9 => (hSw.cell (World.block_lt_of_cell? wr a9 h9)).trans h9
                have z0 := zK x0
                have z1 := zK y0
                clear zK hSw
                go_simp
                (try with_reducible rfl)
              (try simp only [Act.put, List.getElem_toArray, List.getElem_cons_succ, List.getElem_cons_zero, List.setIfInBounds_toArray, List.set_cons_zero, List.set_cons_succ])
              refine wpAnyH_take (i := 2) (v := ?_) rfl (by kernel_rfl) (by kernel_rfl) (by kernel_rfl) (fun _ _ _ h => h) (Or.inl ⟨by kernel_rfl, ?_⟩) (by assumption) ?_
              rotate_left
              focus
                intro w9 hSw
                (try dsimp only at hSw)
                have zK : ∀ {a9 : Addr} {u9 : Value}, wr.cell? a9 = some u9 → w9.cell? a9 = some u9 := fun {a9} {u9} h9 => (hSw.cell (World.block_lt_of_cell? wr a9 h9)).trans h9
                have z0 := zK x0
                have z1 := zK y0
                clear zK hSw
                go_simp
                (try with_reducible rfl)
              (try simp only [Act.put, List.getElem_toArray, List.getElem_cons_succ, List.getElem_cons_zero, List.setIfInBounds_toArray, List.set_cons_zero, List.set_cons_succ])
              refine wpAnyH_take (i := 3) (v := ?_) rfl (by kernel_rfl) (by kernel_rfl) (by kernel_rfl) (fun _ _ _ h => h) (Or.inl ⟨by kernel_rfl, ?_⟩) (by assumption) ?_
              rotate_left
              focus
                intro w9 hSw
                (try dsimp only at hSw)
                have zK : ∀ {a9 : Addr} {u9 : Value}, wr.cell? a9 = some u9 → w9.cell? a9 = some u9 := fun {a9} {u9} h9 => (hSw.cell (World.block_lt_of_cell? wr a9 h9)).trans h9
                have z0 := zK x0
                have z1 := zK y0
                clear zK hSw
                go_simp
                (try with_reducible rfl)
              (try simp only [Act.put, List.getElem_toArray, List.getElem_cons_succ, List.getElem_cons_zero, List.setIfInBounds_toArray, List.set_cons_zero, List.set_cons_succ])
              refine wpAnyH_take (i := 4) (v := ?_) rfl (by kernel_rfl) (by kernel_rfl) (by kernel_rfl) (fun _ _ _ h => h) (Or.inl ⟨by kernel_rfl, ?_⟩) (by assumption) ?_
              rotate_left
              focus
                intro w9 hSw
                (try dsimp only at hSw)
                have zK : ∀ {a9 : Addr} {u9 : Value}, wr.cell? a9 = some u9 → w9.cell? a9 = some u9 := fun {a9} {u9} h9 => (hSw.cell (World.block_lt_of_cell? wr a9 h9)).trans h9
                have z0 := zK x0
                have z1 := zK y0
                clear zK hSw
                go_simp
                (try with_reducible rfl)
              (try simp only [Act.put, List.getElem_toArray, List.getElem_cons_succ, List.getElem_cons_zero, List.setIfInBounds_toArray, List.set_cons_zero, List.set_cons_succ])
              refine wpAnyH_take (i := 5) (v := ?_) rfl (by kernel_rfl) (by kernel_rfl) (by kernel_rfl) (fun _ _ _ h => h) (Or.inl ⟨by kernel_rfl, ?_⟩) (by assumption) ?_
              rotate_left
              focus
                intro w9 hSw
                (try dsimp only at hSw)
                have zK : ∀ {a9 : Addr} {u9 : Value}, wr.cell? a9 = some u9 → w9.cell? a9 = some u9 := fun {a9} {u9} h9 => (hSw.cell (World.block_lt_of_cell? wr a9 h9)).trans h9
                have z0 := zK x0
                have z1 := zK y0
                clear zK hSw
                go_simp
                (try with_reducible rfl)
              (try simp only [Act.put, List.getElem_toArray, List.getElem_cons_succ, List.getElem_cons_zero, List.setIfInBounds_toArray, List.set_cons_zero, List.set_cons_succ])
              refine wpAnyH_take (i := 6) (v := ?_) rfl (by kernel_rfl) (by kernel_rfl) (by kernel_rfl) (fun _ _ _ h => h) (Or.inl ⟨by kernel_rfl, ?_⟩) (by assumption) ?_
              rotate_left
              focus
                intro w9 hSw
                (try dsimp only at hSw)
                have zK : ∀ {a9 : Addr} {u9 : Value}, wr.cell? a9 = some u9 → w9.cell? a9 = some u9 := fun {a9} {u9} h9 => (hSw.cell (World.block_lt_of_cell? wr a9 h9)).trans h9
                have z0 := zK x0
                have z1 := zK y0
                clear zK hSw
                go_simp
                (try with_reducible rfl)
              (try simp only [Act.put, List.getElem_toArray, List.getElem_cons_succ, List.getElem_cons_zero, List.setIfInBounds_toArray, List.set_cons_zero, List.set_cons_succ])
              refine wpAnyH_take (i := 7) (v := ?_) rfl (by kernel_rfl) (by kernel_rfl) (by kernel_rfl) (fun _ _ _ h => h) (Or.inl ⟨by kernel_rfl, ?_⟩) (by assumption) ?_
              rotate_left
              focus
                intro w9 hSw
                (try dsimp only at hSw)
                have zK : ∀ {a9 : Addr} {u9 : Value}, wr.cell? a9 = some u9 → w9.cell? a9 = some u9 := fun {a9} {u9} h9 => (hSw.cell (World.block_lt_of_cell? wr a9 h9)).trans h9
                have z0 := zK x0
                have z1 := zK y0
                clear zK hSw
                go_simp
                (try with_reducible rfl)
              (try simp only [Act.put, List.getElem_toArray, List.getElem_cons_succ, List.getElem_cons_zero, List.setIfInBounds_toArray, List.set_cons_zero, List.set_cons_succ])
              refine wpAnyH_take (i := 8) (v := ?_) rfl (by kernel_rfl) (by kernel_rfl) (by kernel_rfl) (fun _ _ _ h => h) (Or.inl ⟨by kernel_rfl, ?_⟩) (by assumption) ?_
              rotate_left
              focus
                intro w9 hSw
                (try dsimp only at hSw)
                have zK : ∀ {a9 : Addr} {u9 : Value}, wr.cell? a9 = some u9 → w9.cell? a9 = some u9 := fun {a9} {u9} h9 => (hSw.cell (World.block_lt_of_cell? wr a9 h9)).trans h9
                have z0 := zK x0
                have z1 := zK y0
                clear zK hSw
                go_simp
                (try with_reducible rfl)
              (try simp only [Act.put, List.getElem_toArray, List.getElem_cons_succ, List.getElem_cons_zero, List.setIfInBounds_toArray, List.set_cons_zero, List.set_cons_succ])
              refine wpAnyH_take (i := 9) (v := ?_) rfl (by kernel_rfl) (by kernel_rfl) (by kernel_rfl) (fun _ _ _ h => h) (Or.inl ⟨by kernel_rfl, ?_⟩) (by assumption) ?_
              rotate_left
              focus
                intro w9 hSw
                (try dsimp only at hSw)
                have zK : ∀ {a9 : Addr} {u9 : Value}, wr.cell? a9 = some u9 → w9.cell? a9 = some u9 := fun {a9} {u9} h9 => (hSw.cell (World.block_lt_of_cell? wr a9 h9)).trans h9
                have z0 := zK x0
                have z1 := zK y0
                clear zK hSw
                go_simp
                (try with_reducible rfl)
              (try simp only [Act.put, List.getElem_toArray, List.getElem_cons_succ, List.getElem_cons_zero, List.setIfInBounds_toArray, List.set_cons_zero, List.set_cons_succ])
              refine wpAnyH_take (i := 10) (v := ?_) rfl (by kernel_rfl) (by kernel_rfl) (by kernel_rfl) (fun _ _ _ h => h) (Or.inl ⟨by kernel_rfl, ?_⟩) (by assumption) ?_
              rotate_left
              focus
                intro w9 hSw
                (try dsimp only at hSw)
                have zK : ∀ {a9 : Addr} {u9 : Value}, wr.cell? a9 = some u9 → w9.cell? a9 = some u9 := fun {a9} {u9} h9 => (hSw.cell (World.block_lt_of_cell? wr a9 h9)).trans h9
                have z0 := zK x0
                have z1 := zK y0
                clear zK hSw
                go_simp
                (try with_reducible rfl)
              (try simp only [Act.put, List.getElem_toArray, List.getElem_cons_succ, List.getElem_cons_zero, List.setIfInBounds_toArray, List.set_cons_zero, List.set_cons_succ])
              refine wpAnyH_take (i := 11) (v := ?_) rfl (by kernel_rfl) (by kernel_rfl) (by kernel_rfl) (fun _ _ _ h => h) (Or.inl ⟨by kernel_rfl, ?_⟩) (by assumption) ?_
              rotate_left
              focus
                intro w9 hSw
                (try dsimp only at hSw)
                have zK : ∀ {a9 : Addr} {u9 : Value}, wr.cell? a9 = some u9 → w9.cell? a9 = some u9 := fun {a9} {u9} h9 => (hSw.cell (World.block_lt_of_cell? wr a9 h9)).trans h9
                have z0 := zK x0
                have z1 := zK y0
                clear zK hSw
                go_simp
                (try with_reducible rfl)
              (try simp only [Act.put, List.getElem_toArray, List.getElem_cons_succ, List.getElem_cons_zero, List.setIfInBounds_toArray, List.set_cons_zero, List.set_cons_succ])
              refine wpAnyH_take (i := 12) (v := ?_) rfl (by kernel_rfl) (by kernel_rfl) (by kernel_rfl) (fun _ _ _ h => h) (Or.inl ⟨by kernel_rfl, ?_⟩) (by assumption) ?_
              rotate_left
              focus
                intro w9 hSw
                (try dsimp only at hSw)
                have zK : ∀ {a9 : Addr} {u9 : Value}, wr.cell? a9 = some u9 → w9.cell? a9 = some u9 := fun {a9} {u9} h9 => (hSw.cell (World.block_lt_of_cell? wr a9 h9)).trans h9
                have z0 := zK x0
                have z1 := zK y0
                clear zK hSw
                go_simp
                (try with_reducible rfl)
              (try simp only [Act.put, List.getElem_toArray, List.getElem_cons_succ, List.getElem_cons_zero, List.setIfInBounds_toArray, List.set_cons_zero, List.set_cons_succ])
              refine wpAnyH_take (i := 13) (v := ?_) rfl (by kernel_rfl) (by kernel_rfl) (by kernel_rfl) (fun _ _ _ h => h) (Or.inl ⟨by kernel_rfl, ?_⟩) (by assumption) ?_
              rotate_left
              focus
                intro w9 hSw
                (try dsimp only at hSw)
                have zK : ∀ {a9 : Addr} {u9 : Value}, wr.cell? a9 = some u9 → w9.cell? a9 = some u9 := fun {a9} {u9} h9 => (hSw.cell (World.block_lt_of_cell? wr a9 h9)).trans h9
                have z0 := zK x0
                have z1 := zK y0
                clear zK hSw
                go_simp
                (try with_reducible rfl)
              (try simp only [Act.put, List.getElem_toArray, List.getElem_cons_succ, List.getElem_cons_zero, List.setIfInBounds_toArray, List.set_cons_zero, List.set_cons_succ])
              refine wpAnyH_ready (rs := [14]) (by kernel_rfl) (by simp) (AllReadyH.cons rfl (fun K hK => ?_) AllReadyH.nil)
              go_simp
              go_at_call 51
              refine (HC1.out _ HM.out.drew).mono ?_
              rintro e wc ⟨rfl, hbc'⟩
              have hbc := below_undr hbc'
              refine hK.out _ _ ?_ (fun hHeld => ?_)
              focus exact hbc
              clear hK K
              (try simp only [Act.put, List.getElem_toArray, List.getElem_cons_succ, List.getElem_cons_zero, List.setIfInBounds_toArray, List.set_cons_zero, List.set_cons_succ])
              refine wpAnyH_take (i := 15) (v := ?_) rfl (by kernel_rfl) (by kernel_rfl) (by kernel_rfl) (fun _ _ _ h => h) (Or.inl ⟨by kernel_rfl, ?_⟩) (by assumption) ?_
              rotate_left
              focus
                intro w9 hSw
                (try dsimp only at hSw)
                go_simp
                (try with_reducible rfl)
              (try simp only [Act.put, List.getElem_toArray, List.getElem_cons_succ, List.getElem_cons_zero, List.setIfInBounds_toArray, List.set_cons_zero, List.set_cons_succ])
              refine wpAnyH_take (i := 16) (v := ?_) rfl (by kernel_rfl) (by kernel_rfl) (by kernel_rfl) (fun _ _ _ h => h) (Or.inl ⟨by kernel_rfl, ?_⟩) (by assumption) ?_
              rotate_left
              focus
                intro w9 hSw
                (try dsimp only at hSw)
                go_simp
                (try with_reducible rfl)
              (try simp only [Act.put, List.getElem_toArray, List.getElem_cons_succ, List.getElem_cons_zero, List.setIfInBounds_toArray, List.set_cons_zero, List.set_cons_succ])
              refine wpAnyH_done (by kernel_rfl) ?_ _
              (try simp only [Act.put, List.getElem_toArray, List.getElem_cons_succ, List.getElem_cons_zero, List.setIfInBounds_toArray, List.set_cons_zero, List.set_cons_succ])
              have hRc := HR.out.below hbc
              have hMc := HM.out.then_ (Mod.of_fresh (M := (· = gb)) hbc)
              clear x0 y0 hHeld hbc' hjb HC1
              by_cases hcf : cf < 0
              · have hq9 : decide (cf < 0) = true := decide_eq_true hcf
                have HX := Lib.hid (show (P ++ (s1'.concat y ++ (x :: (s2 ++ (rest ++ R))))).getD j spz = x by
                  rw [← List.append_assoc, show j = (P ++ s1'.concat y).length by rw [HJ.out, ← HQ.out, HA.out]; simp; omega]
                  exact getD_mid _ _ _)
                have HY := Lib.hid (show (P ++ (s1'.concat y ++ (x :: (s2 ++ (rest ++ R))))).getD q spz = y by
                  rw [show P ++ (s1'.concat y ++ (x :: (s2 ++ (rest ++ R)))) = (P ++ s1') ++ (y :: (x :: (s2 ++ (rest ++ R)))) by simp, show q = (P ++ s1').length by rw [← HQ.out, HA.out]; simp]
                  exact getD_mid _ _ _)
                have HPl := Lib.hid (show j < (P ++ (s1'.concat y ++ (x :: (s2 ++ (rest ++ R))))).length ∧ q < ((P ++ (s1'.concat y ++ (x :: (s2 ++ (rest ++ R))))).set j y).length by rw [List.length_set]; exact ⟨hjl, hql⟩)
                have x0 := hRc.at_ hjl HX.out
                have y0 := hRc.at_ hql HY.out
                have f0 := hRc.fz j
                have g0 := hRc.fz q
                have HRc := Lib.hid hRc
                have HMc := Lib.hid hMc
                clear hRc hMc hjl hql
                go_wp2_with (fail)
                have hmx : Try.prog.follows .mixedOrders = true := by kernel_rfl
                go_big_region_o
                go_wp2
                go_roundw
                case rel =>
                  refine ⟨q, s1', y :: s2, rfl, by rw [HS.out]; simp, HQ.out.symm, fun z hz => ?_, ?_, ?_⟩
                  · rcases List.mem_cons.1 hz with hz | hz
                    · subst hz; rw [HLt.out]; exact decide_eq_true hcf
                    · exact HG.out z hz
                  · have h2 := (HRc.out.put HPl.out.1 y).put (j := q) HPl.out.2 x
                    rw [HSW.out] at h2
                    refine SRow.drew ?_
                    exact h2
                  · refine Mod.drew ?_
                    exact HMc.out.then_ ((SRow.putM wc gb j y).then_ (SRow.putM _ gb q x))
                case measure => have h8 := HJ.out; simp [intOf]; omega
              · have hq9 : decide (cf < 0) = false := decide_eq_false hcf
                have hi9 : i + 1 ≤ 4000000001 := by omega
                have HRc := Lib.hid hRc
                have HMc := Lib.hid hMc
                have HN := Lib.hid hcf
                clear hRc hMc hcf
                go_wp2_with (fail)
                go_roundw
                case rel =>
                  obtain ⟨o1, o2, o3, o4, o5, o6⟩ := HO.out
                  obtain ⟨p1, p2, p3⟩ := HOut.out (by
                    rw [HS.out] at o6
                    have o7 := (Srd.app.1 o6).1
                    rw [List.concat_eq_append] at o7 ⊢
                    exact o7.last (ltC_leO ct) (by rw [HLt.out]; exact decide_eq_false HN.out))
                  refine ⟨i + 1, l1 ++ [x], s1'.concat y ++ (x :: s2), rest, by go_num, by simpa using o1, by rw [p1]; omega, by rw [p1]; simp; omega, by rw [p1]; omega, p2, p3, ?_, HMc.out⟩
                  simpa using HRc.out
                case measure => simp [intOf]; omega
      · have hie : i = b := by omega
        have hr : rest = [] := List.eq_nil_of_length_eq_zero (by omega)
        subst hr
        rw [List.append_nil] at hl1
        have hibz : ¬ (i : Int) < (b : Int) := by omega
        have HO := Lib.hid (⟨hl1, hsl⟩ : x0 :: l0 = l1 ∧ s.length = l1.length)
        clear hia hab3 hlen hi hie hl1 hsl hs0 hbL hab2
        go_wp2
        go_end0
        obtain ⟨o1, o2⟩ := HO.out
        subst o1
        exact ⟨rfl, s, by simpa using hR, by simpa using o2, hsrt, hsrd, hM⟩

set_option maxHeartbeats 4000000 in
set_option maxRecDepth 100000 in
/-- slices.SortStableFunc where there are fewer than twenty. -/
theorem stable20_any {w : World} {gb bx gc : Nat} {ct : List Int} {l : List (SI N)} {tl : List Value} {L : Nat} (hct : CtR N w bx gc ct) (hne : gb ≠ bx ∧ gb ≠ gc) (hN : N ≤ 1000000) (h : SRow w gb l tl) (hL : l.length = L) (c : Nat) (hl : L < 20) (hc : L ≤ c) :
    Calls Try.prog 67 #[.slice (some ⟨gb, 0, none⟩) L c, .int .i64 L, .func (.func 51) #[] #[.pointer (some ⟨bx, 0, none⟩)]] w fun e w' => e = .returned (.tuple #[]) ∧ ∃ l', SRow w' gb l' tl ∧ l'.length = L ∧ Srt (ltC ct) l l' ∧ Srd (ltC ct) l' ∧ Mod (· = gb) w w' := by
  have HI := inssort_any (P := []) (l := l) (R := []) hct hne hN (by simpa using h) (by simpa using hL) c (by omega) hc (a := 0) (b := L) rfl (by simpa using hL.symm)
  simp only [List.nil_append, List.append_nil] at HI
  rw [show ((0 : Nat) : Int) = 0 from rfl] at HI
  replace HI := Lib.hid HI
  have HL := Lib.hid hL
  have q1 : decide ((20 : Int) ≤ (L : Int)) = false := decide_eq_false (by omega)
  have q2 : decide ((20 : Int) < (L : Int)) = false := decide_eq_false (by omega)
  clear h hL hct
  go_enter Try.func67, Try.ntmps67
  go_wp2
  go_loopw [7, 8] (fun av bv wr => av = .int .i64 0 ∧ bv = .int .i64 20 ∧ wr = w) (fun _ _ _ => 0)
  case atStart => exact ⟨rfl, rfl, rfl⟩
  case round =>
    obtain ⟨rfl, rfl, rfl⟩ := hrel
    go_wp2_with (first
      | (go_at_call 79; (with_reducible refine HI.out.mono ?_); rintro e w1 ⟨rfl, s', q1', q2', q3', q4', q5'⟩))
    obtain ⟨wz, hwz⟩ : ∃ wz, wz = w1 := ⟨_, rfl⟩
    go_loopw [6] (fun Bv wr => Bv = .int .i64 20 ∧ wr = w1) (fun _ _ => 0)
    case atStart => exact ⟨rfl, rfl⟩
    case round =>
      obtain ⟨rfl, rfl⟩ := hrel
      go_wp2
      go_end0
      exact ⟨rfl, s', q1', by rw [q2', HL.out], q3', q4', q5'⟩
theorem sort20_any {w : World} {gb bx gc : Nat} {ct : List Int} {l : List (SI N)} {tl : List Value} {L : Nat} (hct : CtR N w bx gc ct) (hne : gb ≠ bx ∧ gb ≠ gc) (hN : N ≤ 1000000) (h : SRow w gb l tl) (hL : l.length = L) (c : Nat) (hl : L < 20) (hc : L ≤ c) :
    Calls Try.prog 50 #[.slice (some ⟨gb, 0, none⟩) L c, .func (.func 51) #[] #[.pointer (some ⟨bx, 0, none⟩)]] w fun e w' => e = .returned (.tuple #[]) ∧ ∃ l', SRow w' gb l' tl ∧ l'.length = L ∧ Srt (ltC ct) l l' ∧ Srd (ltC ct) l' ∧ Mod (· = gb) w w' := by
  have HS := Lib.hid (stable20_any hct hne hN h hL c hl hc)
  clear h hL hct
  go_enter Try.func50, Try.ntmps50
  go_wp2_with (first
    | (go_at_call 67; (with_reducible refine HS.out.mono ?_); rintro e w1 ⟨rfl, s', q1, q2, q3, q4, q5⟩))
  go_end0
  exact ⟨rfl, s', q1, q2, q3, q4, q5⟩
end Go.Proofs.Ytbbflddhbamjbaa
