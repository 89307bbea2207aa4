/- What the merge's searches by halves find, plainly. -/
import Derived.Test.YtnflhogjonlnmaaPk
import Derived.Test.YtnflhogjonlnmaaPkVal
import Derived.Deep.DeepCutAuto
import Derived.Shelf.RegionOpenPlain
set_option linter.unusedSimpArgs false
set_option linter.unusedVariables false
namespace Go.Proofs.Ytnflhogjonlnmaa
open Go.RowKit

/-- A packet as it lies in a row. -/
structure SP where
  p : Pk
  A : Option Addr
  c : Nat
def SP.cs (x : SP) : List Value := x.p.cells x.A x.c
theorem SP.len (x : SP) : x.cs.length = 6 := rfl
def spz : SP := ⟨⟨0, 0, 0, false, false, []⟩, none, 0⟩
theorem flat_len (xs : List SP) : (xs.flatMap SP.cs).length = xs.length * 6 := by
  induction xs with
  | nil => rfl
  | cons x xs ih => rw [List.flatMap_cons, List.length_append, ih, SP.len, List.length_cons]; omega
theorem flat_get (xs : List SP) (tl : List Value) {j i : Nat} (hj : j < xs.length) (hi : i < 6) : (xs.flatMap SP.cs ++ tl)[j * 6 + i]? = (xs[j]).cs[i]? := by
  induction xs generalizing j with
  | nil => simp at hj
  | cons x xs ih =>
    rw [List.flatMap_cons, List.append_assoc]
    match j with
    | 0 => rw [List.getElem?_append_left (by rw [SP.len]; omega)]; simp
    | j + 1 =>
      rw [List.getElem?_append_right (by rw [SP.len]; omega), SP.len, show (j + 1) * 6 + i - 6 = j * 6 + i by omega]
      rw [ih (by simpa using hj)]
      rfl
theorem flat_set (xs : List SP) (tl : List Value) {j : Nat} (hj : j < xs.length) (y : SP) {v0 v1 v2 v3 v4 v5 : Value} (hy : y.cs = [v0, v1, v2, v3, v4, v5]) :
    ((((((xs.flatMap SP.cs ++ tl).set (j * 6) v0).set (j * 6 + 1) v1).set (j * 6 + 2) v2).set (j * 6 + 3) v3).set (j * 6 + 4) v4).set (j * 6 + 5) v5 = (xs.set j y).flatMap SP.cs ++ tl := by
  induction xs generalizing j with
  | nil => simp at hj
  | cons x xs ih =>
    match j with
    | 0 =>
      rw [List.set_cons_zero, List.flatMap_cons, List.flatMap_cons, hy]
      rfl
    | j + 1 =>
      rw [List.set_cons_succ, List.flatMap_cons, List.flatMap_cons, List.append_assoc, List.append_assoc, ← ih (by simpa using hj)]
      have e : ∀ (L : List Value) (k : Nat) (v : Value), (x.cs ++ L).set (6 + k) v = x.cs ++ L.set k v := fun L k v => by
        rw [List.set_append_right _ _ (by rw [SP.len]; omega), SP.len, show 6 + k - 6 = k by omega]
      rw [show (j + 1) * 6 = 6 + j * 6 by omega, show 6 + j * 6 + 1 = 6 + (j * 6 + 1) by omega, show 6 + j * 6 + 2 = 6 + (j * 6 + 2) by omega, show 6 + j * 6 + 3 = 6 + (j * 6 + 3) by omega, show 6 + j * 6 + 4 = 6 + (j * 6 + 4) by omega, show 6 + j * 6 + 5 = 6 + (j * 6 + 5) by omega]
      simp only [e]
def SRow (W : World) (gb : Nat) (xs : List SP) (tl : List Value) : Prop := Blk W gb 40 (xs.flatMap SP.cs ++ tl).toArray
section
variable {W W' : World} {gb : Nat} {xs : List SP} {tl : List Value}
theorem SRow.at_ (h : SRow W gb xs tl) {j : Nat} (hj : j < xs.length) {x : SP} (hx : xs.getD j spz = x) :
    W.cell? ⟨gb, j * 6, none⟩ = some (.int .i64 x.p.st) ∧ W.cell? ⟨gb, j * 6 + 1, none⟩ = some (.int .i64 x.p.at_) ∧ W.cell? ⟨gb, j * 6 + 2, none⟩ = some (.int .i64 x.p.ln) ∧ W.cell? ⟨gb, j * 6 + 3, none⟩ = some (.bool x.p.key) ∧
    W.cell? ⟨gb, j * 6 + 4, none⟩ = some (.bool x.p.hid) ∧ W.cell? ⟨gb, j * 6 + 5, none⟩ = some (.slice x.A x.p.data.length x.c) := by
  rw [List.getD_eq_getElem?_getD, List.getElem?_eq_getElem hj, Option.getD_some] at hx
  subst hx
  have k : ∀ i, i < 6 → W.cell? ⟨gb, j * 6 + i, none⟩ = (xs[j]).cs[i]? := fun i hi => by
    rw [Blk.cell h (j * 6 + i), List.getElem?_toArray, flat_get xs tl hj hi]
  exact ⟨k 0 (by omega), k 1 (by omega), k 2 (by omega), k 3 (by omega), k 4 (by omega), k 5 (by omega)⟩
theorem SRow.fz (h : SRow W gb xs tl) (j : Nat) : W.frozen? ⟨gb, j, none⟩ = false := Blk.frozen h j
theorem SRow.mod {M : Nat → Prop} (h : SRow W gb xs tl) (hm : Mod M W W') (hn : ¬ M gb) : SRow W' gb xs tl := Blk.mod h hm hn
theorem SRow.below (h : SRow W gb xs tl) (hb : Below W.heap.size W W') : SRow W' gb xs tl := Blk.below h hb (Blk.lt h)
theorem SRow.put (h : SRow W gb xs tl) {j : Nat} (hj : j < xs.length) (y : SP) :
    SRow ((((((W.setCell ⟨gb, j * 6, none⟩ (.int .i64 y.p.st)).setCell ⟨gb, j * 6 + 1, none⟩ (.int .i64 y.p.at_)).setCell ⟨gb, j * 6 + 2, none⟩ (.int .i64 y.p.ln)).setCell ⟨gb, j * 6 + 3, none⟩ (.bool y.p.key)).setCell ⟨gb, j * 6 + 4, none⟩ (.bool y.p.hid)).setCell ⟨gb, j * 6 + 5, none⟩ (.slice y.A y.p.data.length y.c)) gb (xs.set j y) tl := by
  have h1 := (((((Blk.set_ h (j * 6) (.int .i64 y.p.st)).set_ (j * 6 + 1) (.int .i64 y.p.at_)).set_ (j * 6 + 2) (.int .i64 y.p.ln)).set_ (j * 6 + 3) (.bool y.p.key)).set_ (j * 6 + 4) (.bool y.p.hid)).set_ (j * 6 + 5) (.slice y.A y.p.data.length y.c)
  have e := flat_set xs tl hj y rfl
  unfold SRow
  rw [← e]
  simpa using h1
theorem SRow.drew (h : SRow W gb xs tl) : SRow W.drew gb xs tl := h
theorem SRow.putM (W : World) (gb : Nat) (j : Nat) (y : SP) :
    Mod (· = gb) W ((((((W.setCell ⟨gb, j * 6, none⟩ (.int .i64 y.p.st)).setCell ⟨gb, j * 6 + 1, none⟩ (.int .i64 y.p.at_)).setCell ⟨gb, j * 6 + 2, none⟩ (.int .i64 y.p.ln)).setCell ⟨gb, j * 6 + 3, none⟩ (.bool y.p.key)).setCell ⟨gb, j * 6 + 4, none⟩ (.bool y.p.hid)).setCell ⟨gb, j * 6 + 5, none⟩ (.slice y.A y.p.data.length y.c)) :=
  mod_put (mod_put (mod_put (mod_put (mod_put (mod_put (Mod.refl _ _) (fun _ => rfl)) (fun _ => rfl)) (fun _ => rfl)) (fun _ => rfl)) (fun _ => rfl)) (fun _ => rfl)
end
end Go.Proofs.Ytnflhogjonlnmaa

namespace Go.Proofs.Ytnflhogjonlnmaa
open Go.RowKit

def swp (xs : List SP) (i j : Nat) : List SP := (xs.set i (xs.getD j spz)).set j (xs.getD i spz)
theorem swp_len (xs : List SP) (i j : Nat) : (swp xs i j).length = xs.length := by simp [swp]
def swapUp (xs : List SP) (a b : Nat) : Nat → List SP
  | 0 => xs
  | k + 1 => swp (swapUp xs a b k) (a + k) (b + k)
theorem swapUp_len (xs : List SP) (a b : Nat) : ∀ k, (swapUp xs a b k).length = xs.length
  | 0 => rfl
  | k + 1 => by rw [swapUp, swp_len, swapUp_len xs a b k]

set_option maxHeartbeats 8000000 in
set_option maxRecDepth 100000 in
theorem swapRange_any {w : World} {gb : Nat} {xs : List SP} {tl : List Value} (h : SRow w gb xs tl) (c : Nat) (hl : xs.length ≤ 4000000000) (hc : xs.length ≤ c) (a b n : Nat) (hb : b + n ≤ xs.length) (ha : a + n ≤ b) (cmp : Value) :
    Calls Try.prog 83 #[.slice (some ⟨gb, 0, none⟩) xs.length c, .int .i64 a, .int .i64 b, .int .i64 n, cmp] w fun e w' => e = .returned (.tuple #[]) ∧ SRow w' gb (swapUp xs a b n) tl ∧ Mod (· = gb) w w' := by
  have HH := Lib.hid h
  clear h
  go_enter Try.func83, Try.ntmps83
  go_wp2
  go_loopw [10] (fun iv wr => ∃ k : Nat, k ≤ n ∧ iv = .int .i64 k ∧ SRow wr gb (swapUp xs a b k) tl ∧ Mod (· = gb) w wr) (fun iv _ => n - (intOf iv).toNat)
  case atStart => exact ⟨0, Nat.zero_le _, rfl, HH.out, Mod.refl _ _⟩
  case round =>
    obtain ⟨k, hk, rfl, hR, hM⟩ := hrel
    by_cases hkn : k < n
    · have hkz : (k : Int) < (n : Int) := by omega
      have hlx := swapUp_len xs a b k
      have e1 : IntKind.i64.wrap ((a : Int) + (k : Int)) = ((a + k : Nat) : Int) := by rw [IntWalk.i64_in _ (by omega)]; omega
      have e2 : IntKind.i64.wrap ((b : Int) + (k : Int)) = ((b + k : Nat) : Int) := by rw [IntWalk.i64_in _ (by omega)]; omega
      obtain ⟨p, hp⟩ : ∃ p, a + k = p := ⟨_, rfl⟩
      obtain ⟨q, hq⟩ : ∃ q, b + k = q := ⟨_, rfl⟩
      rw [hp] at e1
      rw [hq] at e2
      have hpl : p < xs.length := by omega
      have hql : q < xs.length := by omega
      have hne : p ≠ q := by omega
      obtain ⟨x, hx⟩ : ∃ x, (swapUp xs a b k).getD p spz = x := ⟨_, rfl⟩
      obtain ⟨y, hy⟩ : ∃ y, (swapUp xs a b k).getD q spz = y := ⟨_, rfl⟩
      have HS := Lib.hid (show swapUp xs a b (k + 1) = ((swapUp xs a b k).set p y).set q x by rw [swapUp, swp, hp, hq, hx, hy])
      generalize swapUp xs a b k = ys at *
      obtain ⟨x0, x1, x2, x3, x4, x5⟩ := hR.at_ (by omega) hx
      obtain ⟨y0, y1, y2, y3, y4, y5⟩ := hR.at_ (by omega) hy
      have f0 := hR.fz (p * 6)
      have f1 := hR.fz (p * 6 + 1)
      have f2 := hR.fz (p * 6 + 2)
      have f3 := hR.fz (p * 6 + 3)
      have f4 := hR.fz (p * 6 + 4)
      have f5 := hR.fz (p * 6 + 5)
      have g0 := hR.fz (q * 6)
      have g1 := hR.fz (q * 6 + 1)
      have g2 := hR.fz (q * 6 + 2)
      have g3 := hR.fz (q * 6 + 3)
      have g4 := hR.fz (q * 6 + 4)
      have g5 := hR.fz (q * 6 + 5)
      have HR := Lib.hid hR
      have HPl := Lib.hid (show p < ys.length ∧ q < (ys.set p y).length by rw [List.length_set]; omega)
      have HK1 := Lib.hid hkn
      have HK9 := Lib.hid (show k + 1 ≤ 4000000000 by omega)
      have HM := Lib.hid hM
      clear hR hM hx hy ha hb hp hq hk
      go_wp2_with (fail)
      have hmx : Try.prog.follows .mixedOrders = true := by kernel_rfl
      go_big_region_o
      have hk9 := HK9.out
      go_wp2
      go_roundw
      case rel =>
        refine ⟨k + 1, HK1.out, by go_num, ?_, ?_⟩
        · rw [HS.out]
          refine SRow.drew ?_
          exact (HR.out.put HPl.out.1 y).put (j := q) HPl.out.2 x
        · refine Mod.drew ?_
          exact HM.out.then_ ((SRow.putM wr gb p y).then_ (SRow.putM _ gb q x))
      case measure => have := HK1.out; simp [intOf]; omega
    · have hkz : ¬ (k : Int) < (n : Int) := by omega
      have hke : k = n := by omega
      subst hke
      go_wp2
      go_end0
      exact ⟨rfl, hR, hM⟩
end Go.Proofs.Ytnflhogjonlnmaa

namespace Go.Proofs.Ytnflhogjonlnmaa
open Go.RowKit

/-- 'not less' is an order in which any two may be set side by side. -/
structure LeO (lt : SP → SP → Bool) : Prop where
  asym : ∀ x y, lt x y = true → lt y x = false
  neg : ∀ x y z, lt y x = false → lt z y = false → lt z x = false
def Srd (lt : SP → SP → Bool) (l : List SP) : Prop := l.Pairwise fun x y => lt y x = false
def eqv (lt : SP → SP → Bool) (x y : SP) : Bool := !lt x y && !lt y x
/-- Of each kind the same ones, in the same order. -/
def Srt (lt : SP → SP → Bool) (l l' : List SP) : Prop := ∀ x, l'.filter (eqv lt x) = l.filter (eqv lt x)
section
variable {lt : SP → SP → Bool}
theorem Srt.refl (l : List SP) : Srt lt l l := fun _ => rfl
theorem Srt.trans {a b c : List SP} (h : Srt lt a b) (k : Srt lt b c) : Srt lt a c := fun x => (k x).trans (h x)
theorem Srt.app {a b a' b' : List SP} (h : Srt lt a a') (k : Srt lt b b') : Srt lt (a ++ b) (a' ++ b') := fun x => by rw [List.filter_append, List.filter_append, h x, k x]
theorem LeO.irr (h : LeO lt) (x : SP) : lt x x = false := by
  cases hx : lt x x with
  | false => rfl
  | true => exact hx ▸ h.asym x x hx
theorem LeO.tr (h : LeO lt) {x y z : SP} (h1 : lt x y = true) (h2 : lt z y = false) : lt x z = true := by
  cases h3 : lt x z with
  | true => rfl
  | false => have := h.neg y z x h2 h3; rw [h1] at this; cases this
theorem LeO.tr2 (h : LeO lt) {x y z : SP} (h1 : lt y x = false) (h2 : lt y z = true) : lt x z = true := by
  cases h3 : lt x z with
  | true => rfl
  | false => have := h.neg z x y h3 h1; rw [h2] at this; cases this
/-- Of two neighbours of which the second is less, none is of the other's kind. -/
theorem Srt.swap (h : LeO lt) {l1 l2 : List SP} (hlt : ∀ x ∈ l1, ∀ y ∈ l2, lt y x = true) : Srt lt (l1 ++ l2) (l2 ++ l1) := fun z => by
  rw [List.filter_append, List.filter_append]
  by_cases h1 : l1.filter (eqv lt z) = []
  · rw [h1, List.append_nil, List.nil_append]
  · by_cases h2 : l2.filter (eqv lt z) = []
    · rw [h2, List.append_nil, List.nil_append]
    · obtain ⟨x, hx⟩ := List.exists_mem_of_ne_nil _ h1
      obtain ⟨y, hy⟩ := List.exists_mem_of_ne_nil _ h2
      obtain ⟨hx1, hx2⟩ := List.mem_filter.1 hx
      obtain ⟨hy1, hy2⟩ := List.mem_filter.1 hy
      simp only [eqv, Bool.and_eq_true, Bool.not_eq_true'] at hx2 hy2
      have h3 := hlt x hx1 y hy1
      have h4 := h.neg x z y hx2.1 hy2.2
      rw [h3] at h4; cases h4
theorem eqv_self (h : LeO lt) (x : SP) : eqv lt x x = true := by simp [eqv, h.irr]
theorem Srt.mem (h : LeO lt) {l l' : List SP} (hs : Srt lt l l') {x : SP} : x ∈ l' ↔ x ∈ l := by
  have h1 := hs x
  constructor
  · intro hx
    have : x ∈ l'.filter (eqv lt x) := List.mem_filter.2 ⟨hx, eqv_self h x⟩
    rw [h1] at this
    exact (List.mem_filter.1 this).1
  · intro hx
    have : x ∈ l.filter (eqv lt x) := List.mem_filter.2 ⟨hx, eqv_self h x⟩
    rw [← h1] at this
    exact (List.mem_filter.1 this).1
theorem Srd.app {a b : List SP} : Srd lt (a ++ b) ↔ Srd lt a ∧ Srd lt b ∧ ∀ x ∈ a, ∀ y ∈ b, lt y x = false := List.pairwise_append
theorem Srd.nil : Srd lt [] := List.Pairwise.nil
theorem Srd.one (x : SP) : Srd lt [x] := List.pairwise_singleton _ _
/-- All of a sorted row lie before what its last does. -/
theorem Srd.last (h : LeO lt) {l : List SP} {z y : SP} (hs : Srd lt (l ++ [z])) (hy : lt y z = false) : ∀ x ∈ l ++ [z], lt y x = false := fun x hx => by
  rcases List.mem_append.1 hx with hx | hx
  · exact h.neg x z y ((Srd.app.1 hs).2.2 x hx z (List.mem_singleton.2 rfl)) hy
  · rw [List.mem_singleton] at hx; subst hx; exact hy
theorem Srd.lastLt (h : LeO lt) {l : List SP} {z y : SP} (hs : Srd lt (l ++ [z])) (hy : lt z y = true) : ∀ x ∈ l ++ [z], lt x y = true := fun x hx => by
  rcases List.mem_append.1 hx with hx | hx
  · exact h.tr2 ((Srd.app.1 hs).2.2 x hx z (List.mem_singleton.2 rfl)) hy
  · rw [List.mem_singleton] at hx; subst hx; exact hy
theorem Srd.first (h : LeO lt) {l : List SP} {z y : SP} (hs : Srd lt (z :: l)) (hy : lt z y = false) : ∀ x ∈ z :: l, lt x y = false := fun x hx => by
  rcases List.mem_cons.1 hx with hx | hx
  · subst hx; exact hy
  · exact h.neg y z x hy ((List.pairwise_cons.1 hs).1 x hx)
theorem Srd.firstLt (h : LeO lt) {l : List SP} {z y : SP} (hs : Srd lt (z :: l)) (hy : lt y z = true) : ∀ x ∈ z :: l, lt y x = true := fun x hx => by
  rcases List.mem_cons.1 hx with hx | hx
  · subst hx; exact hy
  · exact h.tr hy ((List.pairwise_cons.1 hs).1 x hx)
/-- One is put into a sorted row from behind: what it passes is greater. -/
theorem ins_ok (h : LeO lt) {s1 s2 : List SP} {x : SP} (hs : Srd lt (s1 ++ s2)) (h1 : ∀ y ∈ s1, lt x y = false) (h2 : ∀ y ∈ s2, lt x y = true) : Srt lt ((s1 ++ s2) ++ [x]) (s1 ++ (x :: s2)) ∧ Srd lt (s1 ++ (x :: s2)) := by
  obtain ⟨a1, a2, a3⟩ := Srd.app.1 hs
  constructor
  · rw [List.append_assoc]
    exact Srt.app (Srt.refl _) (Srt.swap h (l1 := s2) (l2 := [x]) (fun y hy z hz => by rw [List.mem_singleton] at hz; subst hz; exact h2 y hy))
  · refine Srd.app.2 ⟨a1, List.pairwise_cons.2 ⟨fun y hy => h.asym x y (h2 y hy), a2⟩, fun y hy z hz => ?_⟩
    rcases List.mem_cons.1 hz with hz | hz
    · subst hz; exact h1 y hy
    · exact a3 y hy z hz
/-- One is put into a sorted row from ahead: what it passes is less. -/
theorem ins_ok2 (h : LeO lt) {s1 s2 : List SP} {x : SP} (hs : Srd lt (s1 ++ s2)) (h1 : ∀ y ∈ s1, lt y x = true) (h2 : ∀ y ∈ s2, lt y x = false) : Srt lt ([x] ++ (s1 ++ s2)) (s1 ++ (x :: s2)) ∧ Srd lt (s1 ++ (x :: s2)) := by
  obtain ⟨a1, a2, a3⟩ := Srd.app.1 hs
  constructor
  · rw [← List.append_assoc, show s1 ++ (x :: s2) = (s1 ++ [x]) ++ s2 by simp]
    exact Srt.app (Srt.swap h (l1 := [x]) (l2 := s1) (fun z hz y hy => by rw [List.mem_singleton] at hz; subst hz; exact h1 y hy)) (Srt.refl _)
  · refine Srd.app.2 ⟨a1, List.pairwise_cons.2 ⟨h2, a2⟩, fun y hy z hz => ?_⟩
    rcases List.mem_cons.1 hz with hz | hz
    · subst hz; exact h.asym y z (h1 y hy)
    · exact a3 y hy z hz
/-- The two halves behind the turn, each sorted, are sorted together. -/
theorem merge_ok (h : LeO lt) {L1 L2 R1 R2 P Q : List SP} (h1 : Srd lt (L1 ++ L2)) (h2 : Srd lt (R1 ++ R2)) (hRL : ∀ x ∈ L2, ∀ y ∈ R1, lt y x = true) (hLR : ∀ x ∈ L1, ∀ y ∈ R2, lt y x = false)
    (hP : Srt lt (L1 ++ R1) P) (sP : Srd lt P) (hQ : Srt lt (L2 ++ R2) Q) (sQ : Srd lt Q) : Srt lt ((L1 ++ L2) ++ (R1 ++ R2)) (P ++ Q) ∧ Srd lt (P ++ Q) := by
  obtain ⟨a1, a2, a3⟩ := Srd.app.1 h1
  obtain ⟨b1, b2, b3⟩ := Srd.app.1 h2
  constructor
  · refine Srt.trans ?_ (Srt.app hP hQ)
    have k := Srt.app (Srt.app (Srt.refl (lt := lt) L1) (Srt.swap h (l1 := L2) (l2 := R1) hRL)) (Srt.refl R2)
    simpa using k
  · refine Srd.app.2 ⟨sP, sQ, fun x hx y hy => ?_⟩
    have hx' := (hP.mem h).1 hx
    have hy' := (hQ.mem h).1 hy
    rcases List.mem_append.1 hx' with hx' | hx' <;> rcases List.mem_append.1 hy' with hy' | hy'
    · exact a3 x hx' y hy'
    · exact hLR x hx' y hy'
    · exact h.asym x y (hRL y hy' x hx')
    · exact b3 x hx' y hy'
end
/-- A row by its places. -/
theorem getD_mid (P : List SP) (x : SP) (R : List SP) : (P ++ (x :: R)).getD P.length spz = x := by
  rw [List.getD_eq_getElem?_getD, List.getElem?_append_right (Nat.le_refl _), Nat.sub_self]; rfl
theorem set_mid (P : List SP) (x y : SP) (R : List SP) : (P ++ (x :: R)).set P.length y = P ++ (y :: R) := by
  rw [List.set_append_right _ _ (Nat.le_refl _), Nat.sub_self]; rfl
theorem swp_mid (P M R : List SP) (x y : SP) {i j : Nat} (hi : i = P.length) (hj : j = P.length + 1 + M.length) : swp (P ++ (x :: (M ++ (y :: R)))) i j = P ++ (y :: (M ++ (x :: R))) := by
  subst hi
  have e1 : (P ++ (x :: (M ++ (y :: R)))).getD j spz = y := by
    rw [show P ++ (x :: (M ++ (y :: R))) = (P ++ (x :: M)) ++ (y :: R) by simp, show j = (P ++ (x :: M)).length by simp; omega]
    exact getD_mid _ _ _
  rw [swp, e1, getD_mid, set_mid, show P ++ (y :: (M ++ (y :: R))) = (P ++ (y :: M)) ++ (y :: R) by simp, show j = (P ++ (y :: M)).length by simp; omega, set_mid]
  simp
theorem swp_mid' (P M R : List SP) (x y : SP) {i j : Nat} (hi : i = P.length) (hj : j = P.length + 1 + M.length) : swp (P ++ (x :: (M ++ (y :: R)))) j i = P ++ (y :: (M ++ (x :: R))) := by
  have hne : i ≠ j := by omega
  rw [← swp_mid P M R x y hi hj, swp, swp, List.set_comm _ _ hne.symm]
theorem swapUp_seg : ∀ (n : Nat) (X Y P M R : List SP), X.length = n → Y.length = n → swapUp (P ++ (X ++ (M ++ (Y ++ R)))) P.length (P.length + n + M.length) n = P ++ (Y ++ (M ++ (X ++ R)))
  | 0, X, Y, P, M, R, hX, hY => by
    have : X = [] := List.eq_nil_of_length_eq_zero hX
    have : Y = [] := List.eq_nil_of_length_eq_zero hY
    subst X Y
    rfl
  | n + 1, X, Y, P, M, R, hX, hY => by
    obtain ⟨X', x, rfl⟩ : ∃ X' x, X = X' ++ [x] := ⟨X.dropLast, X.getLast (by intro h; rw [h] at hX; cases hX), (List.dropLast_concat_getLast _).symm⟩
    obtain ⟨Y', y, rfl⟩ : ∃ Y' y, Y = Y' ++ [y] := ⟨Y.dropLast, Y.getLast (by intro h; rw [h] at hY; cases hY), (List.dropLast_concat_getLast _).symm⟩
    have hX' : X'.length = n := by simpa using hX
    have hY' : Y'.length = n := by simpa using hY
    have ih := swapUp_seg n X' Y' P (x :: M) (y :: R) hX' hY'
    rw [show P ++ (X' ++ [x] ++ (M ++ (Y' ++ [y] ++ R))) = P ++ (X' ++ (x :: M ++ (Y' ++ y :: R))) by simp, swapUp, show P.length + (n + 1) + M.length = P.length + n + (x :: M).length by simp; omega, ih]
    rw [show P ++ (Y' ++ (x :: M ++ (X' ++ y :: R))) = (P ++ Y') ++ (x :: ((M ++ X') ++ (y :: R))) by simp]
    rw [swp_mid (P ++ Y') (M ++ X') R x y (by simp; omega) (by simp; omega)]
    simp
end Go.Proofs.Ytnflhogjonlnmaa

namespace Go.Proofs.Ytnflhogjonlnmaa
open Go.RowKit

theorem split_at {α : Type} (X : List α) {n : Nat} (h : n ≤ X.length) : ∃ A B, X = A ++ B ∧ A.length = n := ⟨X.take n, X.drop n, (List.take_append_drop n X).symm, by simp; omega⟩
/-- swapRange, its rows named. -/
theorem swapSeg_any {w : World} {gb : Nat} {P X M Y R : List SP} {tl : List Value} {L : Nat} (h : SRow w gb (P ++ (X ++ (M ++ (Y ++ R)))) tl) (hL : (P ++ (X ++ (M ++ (Y ++ R)))).length = L) (c : Nat) (hl : L ≤ 4000000000) (hc : L ≤ c) {a b n : Nat} (ha : a = P.length) (hX : X.length = n) (hY : Y.length = n) (hb : b = P.length + n + M.length) (cmp : Value) :
    Calls Try.prog 83 #[.slice (some ⟨gb, 0, none⟩) L c, .int .i64 a, .int .i64 b, .int .i64 n, cmp] w fun e w' => e = .returned (.tuple #[]) ∧ SRow w' gb (P ++ (Y ++ (M ++ (X ++ R)))) tl ∧ Mod (· = gb) w w' := by
  subst hL ha hb
  have h1 := swapRange_any h c hl hc P.length (P.length + n + M.length) n (by simp; omega) (by omega) cmp
  rw [swapUp_seg n X Y P M R hX hY] at h1
  exact h1

set_option maxHeartbeats 8000000 in
set_option maxRecDepth 100000 in
theorem rotate_any {w : World} {gb : Nat} {P X Y R : List SP} {tl : List Value} {L : Nat} (h : SRow w gb (P ++ (X ++ (Y ++ R))) tl) (hL : (P ++ (X ++ (Y ++ R))).length = L) (c : Nat) (hl : L ≤ 4000000000) (hc : L ≤ c) {a m b : Nat} (ha : a = P.length) (hm : m = P.length + X.length) (hb : b = P.length + X.length + Y.length) (hX : 0 < X.length) (hY : 0 < Y.length) (cmp : Value) :
    Calls Try.prog 81 #[.slice (some ⟨gb, 0, none⟩) L c, .int .i64 a, .int .i64 m, .int .i64 b, cmp] w fun e w' => e = .returned (.tuple #[]) ∧ SRow w' gb (P ++ (Y ++ (X ++ R))) tl ∧ Mod (· = gb) w w' := by
  have HH := Lib.hid h
  have hLL := hL
  simp only [List.length_append] at hLL
  have e1 : IntKind.i64.wrap ((m : Int) - (a : Int)) = (X.length : Int) := by rw [IntWalk.i64_in _ (by omega)]; omega
  have e2 : IntKind.i64.wrap ((b : Int) - (m : Int)) = (Y.length : Int) := by rw [IntWalk.i64_in _ (by omega)]; omega
  have hmL : m ≤ 4000000000 := by omega
  have HT := Lib.hid (⟨hL, hm, hX, hY⟩ : (P ++ (X ++ (Y ++ R))).length = L ∧ m = P.length + X.length ∧ 0 < X.length ∧ 0 < Y.length)
  clear h hLL hm hb ha hL
  go_enter Try.func81, Try.ntmps81
  go_wp2
  go_loopw [10, 11] (fun iv jv wr => ∃ (P1 X1 Y1 R1 : List SP), iv = .int .i64 (X1.length : Int) ∧ jv = .int .i64 (Y1.length : Int) ∧ 0 < X1.length ∧ 0 < Y1.length ∧ P1.length + X1.length = m ∧ (P1 ++ (X1 ++ (Y1 ++ R1))).length = L ∧ Hid (P1 ++ (Y1 ++ (X1 ++ R1)) = P ++ (Y ++ (X ++ R))) ∧
    SRow wr gb (P1 ++ (X1 ++ (Y1 ++ R1))) tl ∧ Mod (· = gb) w wr) (fun iv jv _ => (intOf iv + intOf jv).toNat)
  case atStart => exact ⟨P, X, Y, R, rfl, rfl, hX, hY, HT.out.2.1.symm, HT.out.1, rfl, HH.out, Mod.refl _ _⟩
  case round =>
    obtain ⟨P1, X1, Y1, R1, rfl, rfl, hX1, hY1, hm1, hL1, HE, hR, hM⟩ := hrel
    have hLL := hL1
    simp only [List.length_append] at hLL
    clear e1 e2
    by_cases hxy : X1.length = Y1.length
    · have q1 : ((X1.length : Int) != (Y1.length : Int)) = false := by rw [bne_eq_false_iff_eq]; omega
      have q2 : IntKind.i64.wrap ((m : Int) - (X1.length : Int)) = (P1.length : Int) := by rw [IntWalk.i64_in _ (by omega)]; omega
      have HC := swapSeg_any (M := []) (a := P1.length) (b := m) (n := X1.length) hR hL1 c hl hc rfl rfl hxy.symm (by simp; omega) cmp
      generalize X1.length = i at *
      generalize Y1.length = j at *
      replace hxy := Lib.hid hxy
      go_wp2_with (first
        | (go_at_call 83; (with_reducible refine HC.mono ?_); rintro e w1 ⟨rfl, hR1, hM1⟩))
      go_end0
      exact ⟨rfl, HE.out ▸ hR1, hM.then_ hM1⟩
    · have q1 : ((X1.length : Int) != (Y1.length : Int)) = true := by rw [bne_iff_ne]; omega
      by_cases hgt : Y1.length < X1.length
      · obtain ⟨A, B, rfl, hA⟩ := split_at X1 (n := Y1.length) (by omega)
        have hB : B.length = (A ++ B).length - Y1.length := by rw [List.length_append]; omega
        have q2 : IntKind.i64.wrap ((m : Int) - ((A ++ B).length : Int)) = (P1.length : Int) := by rw [IntWalk.i64_in _ (by omega)]; omega
        have q3 : IntKind.i64.wrap (((A ++ B).length : Int) - (Y1.length : Int)) = (B.length : Int) := by rw [IntWalk.i64_in _ (by omega)]; omega
        have q4 : (Y1.length : Int) < ((A ++ B).length : Int) := by omega
        rw [List.append_assoc] at hR
        have hL2 : (P1 ++ (A ++ (B ++ (Y1 ++ R1)))).length = L := by rw [← hL1]; simp
        have hml := hm1
        rw [List.length_append] at hml
        have HC := swapSeg_any (a := P1.length) (b := m) (n := Y1.length) hR hL2 c hl hc rfl hA rfl (by omega) cmp
        have HE2 := Lib.hid (show (P1 ++ Y1) ++ (A ++ (B ++ R1)) = P ++ (Y ++ (X ++ R)) by rw [← HE.out]; simp)
        have HN := Lib.hid (show (P1 ++ Y1).length + B.length = m ∧ 0 < B.length ∧ 0 < A.length ∧ (P1 ++ Y1 ++ (B ++ (A ++ R1))).length = L ∧ A.length = Y1.length ∧ B.length + A.length < (A ++ B).length + Y1.length by
          simp only [List.length_append] at *; omega)
        have hBl : B.length ≤ 4000000000 := by omega
        clear hL2 hLL hml hB hR hL1 hm1 hxy hX1
        generalize hxn : (A ++ B).length = i at *
        generalize hyn : Y1.length = j at *
        generalize hbn : B.length = i2 at *
        replace hxn := Lib.hid hxn
        replace hyn := Lib.hid hyn
        replace hbn := Lib.hid hbn
        have hpn : P1.length = P1.length := rfl
        clear hpn hA
        go_wp2_with (first
          | (go_at_call 83; (with_reducible refine HC.mono ?_); rintro e w1 ⟨rfl, hR1, hM1⟩))
        go_roundw
        case rel =>
          obtain ⟨n1, n2, n3, n4, n5, n6⟩ := HN.out
          refine ⟨P1 ++ Y1, B, A, R1, by rw [hbn.out], by rw [n5], by rw [hbn.out]; exact n2, n3, by rw [hbn.out]; exact n1, n4, HE2.out, ?_, hM.then_ hM1⟩
          simpa using hR1
        case measure =>
          obtain ⟨n1, n2, n3, n4, n5, n6⟩ := HN.out
          simp [intOf]; omega
      · obtain ⟨A, B, rfl, hA⟩ := split_at Y1 (n := Y1.length - X1.length) (by omega)
        have hB : B.length = X1.length := by rw [List.length_append] at *; omega
        have q2 : IntKind.i64.wrap ((m : Int) - (X1.length : Int)) = (P1.length : Int) := by rw [IntWalk.i64_in _ (by omega)]; omega
        have q3 : IntKind.i64.wrap (((A ++ B).length : Int) - (X1.length : Int)) = (A.length : Int) := by rw [List.length_append] at *; rw [IntWalk.i64_in _ (by omega)]; omega
        have q4 : ¬ ((A ++ B).length : Int) < (X1.length : Int) := by omega
        have q5 : IntKind.i64.wrap ((m : Int) + ((A ++ B).length : Int)) = ((m + (A ++ B).length : Nat) : Int) := by rw [IntWalk.i64_in _ (by omega)]; omega
        have q6 : IntKind.i64.wrap (((m + (A ++ B).length : Nat) : Int) - (X1.length : Int)) = ((m + A.length : Nat) : Int) := by rw [List.length_append] at *; rw [IntWalk.i64_in _ (by omega)]; omega
        rw [List.append_assoc] at hR
        have hL2 : (P1 ++ (X1 ++ (A ++ (B ++ R1)))).length = L := by rw [← hL1]; simp
        have HC := swapSeg_any (a := P1.length) (b := m + A.length) (n := X1.length) hR hL2 c hl hc rfl rfl hB (by omega) cmp
        have HE2 := Lib.hid (show P1 ++ (A ++ (B ++ (X1 ++ R1))) = P ++ (Y ++ (X ++ R)) by rw [← HE.out]; simp)
        have HN := Lib.hid (show P1.length + B.length = m ∧ 0 < A.length ∧ 0 < B.length ∧ (P1 ++ (B ++ (A ++ (X1 ++ R1)))).length = L ∧ B.length = X1.length ∧ B.length + A.length < X1.length + (A ++ B).length by
          simp only [List.length_append] at *; omega)
        have hAl : A.length ≤ 4000000000 := by simp only [List.length_append] at *; omega
        clear hL2 hLL hB hR hL1 hm1 hxy
        generalize hxn : (A ++ B).length = j at *
        generalize hyn : X1.length = i at *
        generalize hbn : A.length = j2 at *
        generalize hmj : m + j2 = mj at *
        generalize hmj2 : m + j = mjj at *
        replace hxn := Lib.hid hxn
        replace hyn := Lib.hid hyn
        replace hbn := Lib.hid hbn
        replace hmj := Lib.hid hmj
        replace hmj2 := Lib.hid hmj2
        clear hA
        go_wp2_with (first
          | (go_at_call 83; (with_reducible refine HC.mono ?_); rintro e w1 ⟨rfl, hR1, hM1⟩))
        go_roundw
        case rel =>
          obtain ⟨n1, n2, n3, n4, n5, n6⟩ := HN.out
          exact ⟨P1, B, A, X1 ++ R1, by rw [n5], by rw [hbn.out], n3, by rw [hbn.out]; exact n2, n1, n4, HE2.out, hR1, hM.then_ hM1⟩
        case measure =>
          obtain ⟨n1, n2, n3, n4, n5, n6⟩ := HN.out
          simp [intOf]; omega
end Go.Proofs.Ytnflhogjonlnmaa

namespace Go.Proofs.Ytnflhogjonlnmaa
open Go.RowKit
theorem gd_get {l : List SP} {t : Nat} (h : t < l.length) : l.getD t spz = l[t] := by rw [List.getD_eq_getElem?_getD, List.getElem?_eq_getElem h]; rfl
theorem gd_l1 (P l T : List SP) {t i : Nat} (h : t < l.length) (hi : i = P.length + t) : (P ++ (l ++ T)).getD i spz = l.getD t spz := by
  subst hi
  rw [List.getD_eq_getElem?_getD, List.getElem?_append_right (by omega), List.getElem?_append_left (by omega), List.getD_eq_getElem?_getD, show P.length + t - P.length = t by omega]
theorem gd_l2 (P l1 l2 T : List SP) {t i : Nat} (h : t < l2.length) (hi : i = P.length + l1.length + t) : (P ++ (l1 ++ (l2 ++ T))).getD i spz = l2.getD t spz := by
  rw [← List.append_assoc]
  exact gd_l1 (P ++ l1) l2 T h (by rw [List.length_append]; exact hi)
theorem take_last {l : List SP} {k : Nat} (h0 : 0 < k) (h : k ≤ l.length) : l.take k = l.take (k - 1) ++ [l.getD (k - 1) spz] := by
  obtain ⟨j, rfl⟩ : ∃ j, k = j + 1 := ⟨k - 1, by omega⟩
  rw [Nat.add_sub_cancel, gd_get (by omega), List.take_succ_eq_append_getElem (by omega)]
theorem drop_first {l : List SP} {k : Nat} (h : k < l.length) : l.drop k = l.getD k spz :: l.drop (k + 1) := by rw [gd_get h, List.drop_eq_getElem_cons h]
theorem take_srd {lt : SP → SP → Bool} {l : List SP} (hs : Srd lt l) (k : Nat) : Srd lt (l.take k) ∧ Srd lt (l.drop k) := by
  have hs' := hs
  rw [← List.take_append_drop k l] at hs'
  have := Srd.app.1 hs'
  exact ⟨this.1, this.2.1⟩
section
variable {lt : SP → SP → Bool} (h : LeO lt) {l : List SP} {k : Nat} {x : SP}
include h
theorem bs_lt (hs : Srd lt l) (hk : k ≤ l.length) (hx : k = 0 ∨ lt (l.getD (k - 1) spz) x = true) : ∀ y ∈ l.take k, lt y x = true := by
  by_cases h0 : k = 0
  · subst h0; simp
  · have h1 := (take_srd hs k).1
    rw [take_last (by omega) hk] at h1 ⊢
    exact h1.lastLt h (hx.resolve_left h0)
theorem bs_nlt (hs : Srd lt l) (hk : k ≤ l.length) (hx : k = l.length ∨ lt (l.getD k spz) x = false) : ∀ y ∈ l.drop k, lt y x = false := by
  by_cases h0 : k = l.length
  · subst h0; simp
  · have h1 := (take_srd hs k).2
    rw [drop_first (by omega)] at h1 ⊢
    exact h1.first h (hx.resolve_left h0)
theorem bs_nlt2 (hs : Srd lt l) (hk : k ≤ l.length) (hx : k = 0 ∨ lt x (l.getD (k - 1) spz) = false) : ∀ y ∈ l.take k, lt x y = false := by
  by_cases h0 : k = 0
  · subst h0; simp
  · have h1 := (take_srd hs k).1
    rw [take_last (by omega) hk] at h1 ⊢
    exact h1.last h (hx.resolve_left h0)
theorem bs_lt2 (hs : Srd lt l) (hk : k ≤ l.length) (hx : k = l.length ∨ lt x (l.getD k spz) = true) : ∀ y ∈ l.drop k, lt x y = true := by
  by_cases h0 : k = l.length
  · subst h0; simp
  · have h1 := (take_srd hs k).2
    rw [drop_first (by omega)] at h1 ⊢
    exact h1.firstLt h (hx.resolve_left h0)
/-- Where the turn is laid. -/
theorem turn_ok {l1 l2 : List SP} {p q : Nat} (h1 : Srd lt l1) (h2 : Srd lt l2) (hp : p ≤ l1.length) (hq : q ≤ l2.length)
    (hA : (q = 0 ∨ p = l1.length) ∨ lt (l2.getD (q - 1) spz) (l1.getD p spz) = true) (hB : (q = l2.length ∨ p = 0) ∨ lt (l2.getD q spz) (l1.getD (p - 1) spz) = false) :
    (∀ x ∈ l1.drop p, ∀ y ∈ l2.take q, lt y x = true) ∧ (∀ x ∈ l1.take p, ∀ y ∈ l2.drop q, lt y x = false) := by
  constructor
  · intro x hx y hy
    by_cases hq0 : q = 0
    · subst hq0; simp at hy
    · by_cases hp0 : p = l1.length
      · subst hp0; simp at hx
      · have h3 := hA.resolve_left (by omega)
        have h4 := bs_lt h h2 hq (.inr h3) y hy
        exact bs_lt2 h h1 hp (.inr h4) x hx
  · intro x hx y hy
    by_cases hq0 : q = l2.length
    · subst hq0; simp at hy
    · by_cases hp0 : p = 0
      · subst hp0; simp at hx
      · have h3 := hB.resolve_left (by omega)
        have h4 := bs_nlt h h2 hq (.inr h3) y hy
        exact bs_nlt2 h h1 hp (.inr h4) x hx
end
end Go.Proofs.Ytnflhogjonlnmaa
