/- Tapes: Within, New, Next, Depth. -/
import Derived.Test.YtbbflddhbamjbaaPicFacts
import Derived.Deep.RegionHeld3
set_option linter.unusedSimpArgs false
set_option linter.unusedVariables false
namespace Go.Proofs.Ytbbflddhbamjbaa
open Go.RowKit

def withinR (n lo hi : Int) : Int := if n.tmod (hi - lo + 1) < 0 then n.tmod (hi - lo + 1) + hi - lo + 1 else n.tmod (hi - lo + 1)
def withinV (n lo hi : Int) : Int := if lo ≤ n ∧ n ≤ hi then n else lo + withinR n lo hi
theorem tmod_bounds (n m : Int) (h : 0 < m) : -m < n.tmod m ∧ n.tmod m < m := by
  refine ⟨?_, Int.tmod_lt_of_pos n h⟩
  rcases Int.le_total 0 n with h0 | h0
  · have := Int.tmod_nonneg m h0
    omega
  · have := Int.tmod_lt_of_pos (-n) h
    rw [Int.neg_tmod] at this
    omega
theorem withinV_in {n lo hi : Int} (h : lo ≤ hi) : lo ≤ withinV n lo hi ∧ withinV n lo hi ≤ hi := by
  unfold withinV
  split
  · omega
  · have := tmod_bounds n (hi - lo + 1) (by omega)
    unfold withinR
    split <;> omega

set_option maxHeartbeats 1000000 in
theorem within_any (n lo hi : Int) (n0 : -9223372036854775808 ≤ n) (n1 : n ≤ 9223372036854775807) (l0 : 0 ≤ lo) (lh : lo ≤ hi) (h1 : hi ≤ 2147483647) (w : World) :
    Calls Try.prog 24 #[.int .i64 n, .int .i64 lo, .int .i64 hi] w fun e w' => e = .returned (.int .i64 (withinV n lo hi)) ∧ w = w' := by
  by_cases hin : lo ≤ n ∧ n ≤ hi
  · have HV := Lib.hid (show withinV n lo hi = n by rw [withinV, if_pos hin])
    obtain ⟨i1, i2⟩ := hin
    go_enter Try.func24, Try.ntmps24
    go_wp2
    go_ret
    exact ⟨ret_int HV.out.symm, rfl⟩
  · obtain ⟨b1, b2⟩ := tmod_bounds n (hi - lo + 1) (by omega)
    have HT := Lib.hid (show ∃ t, t = n.tmod (hi - lo + 1) from ⟨_, rfl⟩)
    obtain ⟨t, ht⟩ := HT.out
    have HV := Lib.hid (show withinV n lo hi = lo + (if t < 0 then t + hi - lo + 1 else t) by rw [withinV, if_neg hin, withinR, ht])
    rw [← ht] at b1 b2
    have hd : hi - lo + 1 ≠ 0 := by omega
    clear HT
    have ht' := ht.symm
    clear ht
    by_cases h2 : lo ≤ n
    · have h3 : ¬ n ≤ hi := by omega
      clear hin
      by_cases hneg : t < 0
      · go_enter Try.func24, Try.ntmps24
        go_wp2
        go_ret
        exact ⟨ret_int (by rw [HV.out, if_pos hneg]), rfl⟩
      · go_enter Try.func24, Try.ntmps24
        go_wp2
        go_ret
        exact ⟨ret_int (by rw [HV.out, if_neg (by omega)]), rfl⟩
    · clear hin
      by_cases hneg : t < 0
      · go_enter Try.func24, Try.ntmps24
        go_wp2
        go_ret
        exact ⟨ret_int (by rw [HV.out, if_pos hneg]), rfl⟩
      · go_enter Try.func24, Try.ntmps24
        go_wp2
        go_ret
        exact ⟨ret_int (by rw [HV.out, if_neg (by omega)]), rfl⟩

/-- A tape lies at g, its numbers below B. -/
def TapeB (w : World) (B g : Nat) : Prop :=
  ∃ A l c at_, Blk w g 59 #[.slice A l.length c, .int .i64 (at_ : Nat)] ∧ at_ ≤ l.length ∧ l.length ≤ c ∧ l.length ≤ 9223372036854775807 ∧ RdI w B .i64 A l ∧ (∀ x ∈ l, -9223372036854775808 ≤ x ∧ x ≤ 9223372036854775807) ∧ B ≤ g
section
variable {w w' : World} {B g : Nat}
theorem TapeB.lt (h : TapeB w B g) : g < w.heap.size := by
  obtain ⟨_, _, _, _, h, _⟩ := h
  exact h.lt
theorem TapeB.ge (h : TapeB w B g) : B ≤ g := by
  obtain ⟨_, _, _, _, _, _, _, _, _, _, h⟩ := h
  exact h
theorem TapeB.below {C : Nat} (h : TapeB w B g) (hb : Below C w w') (hg : g < C) : TapeB w' B g := by
  obtain ⟨A, l, c, at_, h1, h2, h3, h4, h5, h6, h7⟩ := h
  exact ⟨A, l, c, at_, h1.below hb hg, h2, h3, h4, h5.below hb (by omega), h6, h7⟩
theorem TapeB.alloc (h : TapeB w B g) (o : Obj) : TapeB (w.alloc o) B g := h.below (below_alloc (Below.refl _ _) o) h.lt
theorem TapeB.far (h : TapeB w B g) {a : Addr} (ha : B ≤ a.block) (hne : g ≠ a.block) (u : Value) : TapeB (w.setCell a u) B g := by
  obtain ⟨A, l, c, at_, h1, h2, h3, h4, h5, h6, h7⟩ := h
  exact ⟨A, l, c, at_, h1.far hne u, h2, h3, h4, h5.setCell ha u, h6, h7⟩
theorem TapeB.keep {x : Nat} (h : TapeB w B g) (hg : w.grownBy w' (some x)) (hne : x ≠ g) (hx : B ≤ x) : TapeB w' B g := by
  have hlt := h.lt
  obtain ⟨A, l, c, at_, h1, h2, h3, h4, h5, h6, h7⟩ := h
  exact ⟨A, l, c, at_, h1.grown hg (by simp; omega), h2, h3, h4, h5.grown hg (by omega) (fun g' h => by injection h with h; omega), h6, h7⟩
theorem TapeB.drew (h : TapeB w B g) : TapeB w.drew B g := h
theorem TapeB.drewN (h : TapeB w B g) (n : Nat) : TapeB (w.drewN n) B g := h
end

theorem newtape_any (A : Option Addr) (l : List Int) (c : Nat) (hl : ∀ x ∈ l, -9223372036854775808 ≤ x ∧ x ≤ 9223372036854775807) (hc : l.length ≤ c) (h63 : l.length ≤ 9223372036854775807) (w : World) {B : Nat} (hr : RdI w B .i64 A l) (hB : B ≤ w.heap.size) :
    Calls Try.prog 8 #[.slice A l.length c] w fun e w' => e = .returned (.pointer (some ⟨w.heap.size, 0, none⟩)) ∧ TapeB w' B w.heap.size ∧ Below w.heap.size w w' := by
  go_enter Try.func8, Try.ntmps8
  go_wp2
  go_ret
  exact ⟨rfl, ⟨A, l, c, 0, Blk.new w _ _, Nat.zero_le _, hc, h63, hr.alloc hB _, hl, hB⟩, below_alloc (Below.refl _ _) _⟩

set_option maxHeartbeats 2000000 in
theorem next_any {w : World} {B g : Nat} (h : TapeB w B g) (n : Int) (n0 : 1 ≤ n) (n1 : n ≤ 1073741824) :
    Calls Try.prog 11 #[.pointer (some ⟨g, 0, none⟩), .int .i64 n] w fun e w' => ∃ r : Nat, e = .returned (.int .i64 (r : Int)) ∧ (r : Int) < n ∧ TapeB w' B g ∧ w.grownBy w' (some g) := by
  have HT := Lib.hid h
  obtain ⟨A, l, c, at_, h1, h2, h3, h4, h5, h6, h7⟩ := h
  have HT3 := Lib.hid h3
  have k0 := h1.cell 0
  have k1 := h1.cell 1
  have f1 := h1.frozen 1
  by_cases hlt : at_ < l.length
  · obtain ⟨ad, rfl, hadB, hcell⟩ := h5.at_ hlt
    have hb := h6 (l.getD at_ 0) (by rw [List.getD_eq_getElem?_getD, List.getElem?_eq_getElem hlt]; exact List.getElem_mem hlt)
    have HW := Lib.hid (fun W => within_any (l.getD at_ 0) 0 1073741824 hb.1 hb.2 (by omega) (by omega) (by omega) W)
    have HV := withinV_in (n := l.getD at_ 0) (lo := 0) (hi := 1073741824) (by omega)
    generalize withinV (l.getD at_ 0) 0 1073741824 = v at *
    obtain ⟨vn, rfl⟩ := Int.eq_ofNat_of_zero_le HV.1
    obtain ⟨nn, rfl⟩ := Int.eq_ofNat_of_zero_le (show 0 ≤ n by omega)
    generalize l.getD at_ 0 = x at *
    have hne : (nn : Int) ≠ 0 := by omega
    have hnn : 0 < nn := by omega
    have htm : (vn : Int).tmod nn = ((vn % nn : Nat) : Int) := rfl
    have hlt2 := Nat.mod_lt vn hnn
    generalize vn % nn = r at *
    have HC := Lib.hid HW
    clear HW HV
    go_enter Try.func11, Try.ntmps11
    go_wp2
    go_quiet (fail)
    go_wp2
    obtain ⟨W1, hW1⟩ : ∃ W1, W1 = (w.drewN nq).setCell ⟨g, 1, none⟩ (.int .i64 ((at_ : Int) + 1)) := ⟨_, rfl⟩
    rw [← hW1]
    have hb1 : Blk W1 g 59 #[.slice (some ad) l.length c, .int .i64 ((at_ : Int) + 1)] := by
      rw [hW1]
      exact (h1.drewN nq).set_ 1 _
    have hg1 : w.grownBy W1 (some g) := by
      rw [hW1]
      exact only_setCell (only_drewN (only_refl _ _) _) (.inl rfl) _
    have c0 := hb1.cell 0
    have c1 := hb1.cell 1
    have c2 : W1.cell? (ad.add at_) = some (.int .i64 x) := by
      rw [hW1, World.cell?_setCell_far _ _ _ _ (by rw [add_block]; simp; omega)]
      exact hcell
    have hT1 : TapeB W1 B g := ⟨_, l, c, at_ + 1, hb1, by omega, HT3.out, by omega, by rw [hW1]; exact (RdI.drewN h5 nq).setCell (by simp; omega) _, h6, h7⟩
    have hw1 := IntWalk.i64_in ((at_ : Int) + 1 - 1) (by omega)
    rw [show (at_ : Int) + 1 - 1 = at_ by omega] at hw1
    clear hW1 k0 k1 f1 hcell
    go_quiet ((go_at_call 24; exact quiet_left (HC.out _)))
    go_wp2
    go_ret
    exact ⟨r, rfl, by omega, hT1.drewN _, only_drewN hg1 _⟩
  · have hge : at_ = l.length := by omega
    clear h5 h6 h3
    go_enter Try.func11, Try.ntmps11
    go_wp2
    go_quiet (fail)
    go_wp2
    go_ret
    exact ⟨0, rfl, by omega, HT.out.drewN _, only_drewN (only_refl _ _) _⟩

theorem Blk.lit_at {w : World} {g : Nat} {t : TypeId} {k : IntKind} {l : List Int} (h : Blk w g t (ic k l).toArray) {r : Nat} (hr : r < l.length) : w.cell? ⟨g, r, none⟩ = some (.int k (l.getD r 0)) := by
  rw [h.cell r, List.getElem?_toArray, ic_get hr]
theorem getD_mem {l : List Int} {r : Nat} (hr : r < l.length) : l.getD r 0 ∈ l := by
  rw [List.getD_eq_getElem?_getD, List.getElem?_eq_getElem hr]
  exact List.getElem_mem hr

set_option maxHeartbeats 1000000 in
theorem tapedepth_any {w : World} {B g : Nat} (h : TapeB w B g) :
    Calls Try.prog 38 #[.pointer (some ⟨g, 0, none⟩)] w fun e w' => ∃ r : Nat, e = .returned (.int .i64 (r : Int)) ∧ 1 ≤ r ∧ r ≤ 16 ∧ TapeB w' B g ∧ w.grownBy w' (some g) := by
  have HN := Lib.hid (fun W (hW : TapeB W B g) => next_any hW 10 (by omega) (by omega))
  have HT := Lib.hid h
  have HA : Hid (∀ x ∈ ([8, 1, 2, 4, 8, 10, 12, 16, 5, 8] : List Int), 1 ≤ x ∧ x ≤ 16) := by rw [Hid]; decide
  go_enter Try.func38, Try.ntmps38
  go_wp2_with (first
    | (go_at_call 11; go_must (refine (HN.out _ (HT.out.alloc _)).mono ?_); rintro e w1 ⟨r, rfl, hr, hT1, hg1⟩; have hb1 := (Blk.new w 3 #[.int .i64 8, .int .i64 1, .int .i64 2, .int .i64 4, .int .i64 8, .int .i64 10, .int .i64 12, .int .i64 16, .int .i64 5, .int .i64 8]).grown hg1 (by have := HT.out.lt; simp; omega); have hlt := hT1.lt; have hx := Blk.lit_at (k := .i64) (l := [8, 1, 2, 4, 8, 10, 12, 16, 5, 8]) (by exact hb1) (r := r) (by simp; omega); have hm := HA.out _ (getD_mem (l := [8, 1, 2, 4, 8, 10, 12, 16, 5, 8]) (r := r) (by simp; omega)); generalize ([8, 1, 2, 4, 8, 10, 12, 16, 5, 8] : List Int).getD r 0 = x at *))
  go_ret
  obtain ⟨xn, rfl⟩ := Int.eq_ofNat_of_zero_le (show 0 ≤ x by omega)
  exact ⟨xn, rfl, by omega, by omega, hT1, only_trans (only_alloc (only_refl _ _) _) hg1⟩
end Go.Proofs.Ytbbflddhbamjbaa
