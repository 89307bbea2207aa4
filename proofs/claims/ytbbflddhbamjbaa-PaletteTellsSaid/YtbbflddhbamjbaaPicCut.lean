/- pic.Cut. -/
import Derived.Test.YtbbflddhbamjbaaPicIn
import Derived.Test.YtbbflddhbamjbaaPicClone
set_option linter.unusedSimpArgs false
set_option linter.unusedVariables false
namespace Go.Proofs.Ytbbflddhbamjbaa
open Go.RowKit

/-- The first k rows of the part. -/
def cutPl (l : List Int) (W x y w : Nat) : Nat → List Int
  | 0 => []
  | k + 1 => cutPl l W x y w k ++ (l.drop ((y + k) * W + x)).take w
theorem cutPl_length {l : List Int} {W x y w : Nat} : ∀ k, (∀ r, r < k → (y + r) * W + x + w ≤ l.length) → (cutPl l W x y w k).length = k * w
  | 0, _ => by simp [cutPl]
  | k + 1, h => by
    have h1 := h k (by omega)
    rw [cutPl, List.length_append, cutPl_length k (fun r hr => h r (by omega)), List.length_take, List.length_drop, Nat.min_eq_left (by omega), Nat.succ_mul]
theorem rows_in {W H x w L r : Nat} (hL : L = W * H) (hx : x + w ≤ W) (hr : r < H) : r * W + x + w ≤ L := by
  have h1 : (r + 1) * W ≤ H * W := Nat.mul_le_mul_right W (by omega)
  rw [Nat.succ_mul] at h1
  rw [hL, Nat.mul_comm W H]
  omega
def cutLL (q : List (List Int)) (W x y w h : Nat) : List (List Int) := q.map fun l => cutPl l W x y w h

def emptyP : Value := .agg #[.int .i64 0, .int .i64 0, .int .i64 0, .slice none 0 0]

set_option maxHeartbeats 2000000 in
theorem cut_not {w : World} {B : Nat} {q : Pc} {A : Option Addr} {c : Nat} (hr : RdLL w B .i64 A q.p) (hB : B ≤ w.heap.size) (x y a b : Int) (hq : isB q = false) :
    Calls Try.prog 25 #[.agg #[.int .i64 q.w, .int .i64 q.h, .int .i64 q.d, .slice A q.p.length c], .int .i64 x, .int .i64 y, .int .i64 a, .int .i64 b] w fun e w' => e = .returned (.tuple #[emptyP, .int .i64 1]) ∧ Below w.heap.size w w' := by
  have HI := fun (W : World) (hb : Below w.heap.size w W) => is_any (c := c) (hr.below hb hB) (Nat.le_trans hB hb.size)
  simp only [hq] at HI
  have HI := Lib.hid HI
  clear hq
  obtain ⟨qw, qh, qd, qp⟩ := q
  simp only at *
  go_enter Try.func25, Try.ntmps25
  go_wp2_with (first
    | (go_at_call 44; go_must (refine (HI.out _ (by repeat (first | exact Below.refl _ _ | assumption | refine Below.drew ?_ | refine below_drewN ?_ _ | refine below_alloc ?_ _))).mono ?_); rintro e w1 ⟨rfl, hb1⟩; have hbz := (Blk.new1 w _ 30 #[.int .i64 0, .int .i64 0, .int .i64 0, .slice none 0 0]).below hb1 (by simp); obtain ⟨z0, z1, z2, z3, f0, f1, f2, f3⟩ := hbz.four))
  have bb := below_then (below_alloc (below_alloc (Below.refl w.heap.size w) _) _) hb1
  exact bodyPost_ret (v := .tuple #[emptyP, .int .i64 1]) (by simp [results, Try.results25, go_sem, z0, z1, z2, z3, emptyP]) rfl ⟨rfl, (((bb.setCell (by simp) _).setCell (by simp) _).setCell (by simp) _).setCell (by simp) _⟩

set_option maxHeartbeats 2000000 in
theorem cut_out {w : World} {B : Nat} {q : Pc} {A : Option Addr} {c : Nat} (hr : RdLL w B .i64 A q.p) (hB : B ≤ w.heap.size) (x y a b : Int) (hx : x ≤ 9223372036854775807) (hy : y ≤ 9223372036854775807) (hq : isB q = true) (hi : insB q.w q.h x y a b = false) :
    Calls Try.prog 25 #[.agg #[.int .i64 q.w, .int .i64 q.h, .int .i64 q.d, .slice A q.p.length c], .int .i64 x, .int .i64 y, .int .i64 a, .int .i64 b] w fun e w' => e = .returned (.tuple #[emptyP, .int .i64 6]) ∧ Below w.heap.size w w' := by
  have HI := fun W (hb : Below w.heap.size w W) => is_any (c := c) (hr.below hb hB) (Nat.le_trans hB hb.size)
  simp only [hq] at HI
  have hp : possB q.w q.h q.d q.p.length = true := by rw [isB, Bool.and_eq_true] at hq; exact hq.1
  simp only [possB, decide_eq_true_eq] at hp
  have HS := inside_any q.w q.h q.d x y a b hp.1 hp.2.1 hp.2.2.1 hp.2.2.2.1 hx hy A q.p.length c
  simp only [hi] at HS
  have HI := Lib.hid HI
  have HS := Lib.hid HS
  clear hq hp hi
  obtain ⟨qw, qh, qd, qp⟩ := q
  simp only at *
  go_enter Try.func25, Try.ntmps25
  go_wp2_with (first
    | (go_at_call 44; go_must (refine (HI.out _ (by repeat (first | exact Below.refl _ _ | assumption | refine Below.drew ?_ | refine below_drewN ?_ _ | refine below_alloc ?_ _))).mono ?_); rintro e w1 ⟨rfl, hb1⟩; have hbz := (Blk.new1 w _ 30 #[.int .i64 0, .int .i64 0, .int .i64 0, .slice none 0 0]).below hb1 (by simp); have hbx := ((Blk.new w 30 #[.int .i64 qw, .int .i64 qh, .int .i64 qd, .slice A qp.length c]).alloc (.cells #[.int .i64 0, .int .i64 0, .int .i64 0, .slice none 0 0] 30)).below hb1 (by simp; omega); have bb := below_then (below_alloc (below_alloc (Below.refl w.heap.size w) _) _) hb1; clear hb1; obtain ⟨x0, x1, x2, x3, _⟩ := hbx.four)
    | (go_at_call 54; go_must (refine (HS.out _).mono ?_); rintro e w2 ⟨rfl, hb2⟩; have hby := hbz.below hb2 hbz.lt; clear x0 x1 x2 x3; obtain ⟨z0, z1, z2, z3, f0, f1, f2, f3⟩ := hby.four))
  have bb := below_then bb hb2
  exact bodyPost_ret (v := .tuple #[emptyP, .int .i64 6]) (by simp [results, Try.results25, go_sem, z0, z1, z2, z3, emptyP]) rfl ⟨rfl, (((bb.setCell (by simp) _).setCell (by simp) _).setCell (by simp) _).setCell (by simp) _⟩

set_option maxHeartbeats 4000000 in
theorem cut_yes {w : World} {B : Nat} {W H : Nat} {d : Int} {p : List (List Int)} {A : Option Addr} {c : Nat} (hr : RdLL w B .i64 A p) (hB : B ≤ w.heap.size) (x y a b : Nat) (hq : isB ⟨W, H, d, p⟩ = true) (hi : insB W H x y a b = true) :
    Calls Try.prog 25 #[.agg #[.int .i64 W, .int .i64 H, .int .i64 d, .slice A p.length c], .int .i64 x, .int .i64 y, .int .i64 a, .int .i64 b] w fun e w' => ∃ A' c', e = .returned (.tuple #[.agg #[.int .i64 a, .int .i64 b, .int .i64 d, .slice A' p.length c'], .int .i64 0]) ∧
      OwnLL w' w.heap.size 22 3 .i64 (.slice A' p.length c') (cutLL p W x y a b) ∧ Below w.heap.size w w' := by
  have HI := fun W' (hb : Below w.heap.size w W') => is_any (q := ⟨W, H, d, p⟩) (c := c) (hr.below hb hB) (Nat.le_trans hB hb.size)
  simp only [hq] at HI
  have hp : possB W H d p.length = true := by rw [isB, Bool.and_eq_true] at hq; exact hq.1
  have hpl : ∀ l ∈ p, l.length = W * H := fun l hl => by
    rw [isB, Bool.and_eq_true] at hq
    have h1 := List.all_eq_true.1 hq.2 l hl
    rw [okPl, Bool.and_eq_true, decide_eq_true_eq] at h1
    have := h1.1
    rw [← Int.natCast_mul] at this
    omega
  simp only [possB, decide_eq_true_eq] at hp
  obtain ⟨b1, b2, b3, b4, b5, b6, b7, b8⟩ := hp
  have HS := inside_any W H d x y a b b1 b2 b3 b4 (by simp only [insB, decide_eq_true_eq] at hi; omega) (by simp only [insB, decide_eq_true_eq] at hi; omega) A p.length c
  simp only [hi] at HS
  simp only [insB, decide_eq_true_eq] at hi
  obtain ⟨i1, i2, i3, i4, i5, i6⟩ := hi
  have HI := Lib.hid HI
  have HS := Lib.hid HS
  have HL := Lib.hid hpl
  clear hq hpl
  obtain ⟨m1, m2⟩ := mul_64 (a := a) (b := b) (by omega) (by omega)
  obtain ⟨m, hm⟩ : ∃ m : Nat, (a : Int) * (b : Int) = m := ⟨a * b, by simp⟩
  have hw := IntWalk.i64_in (m : Int) (by omega)
  have hmk := fun W => run_make_ints (P := Try.prog) W 22 Try.underlying22 info_int (by omega) .i64 0 m (Nat.zero_le _) (by omega)
  simp only [Int.natCast_zero] at hmk
  have HM := Lib.hid (show a * b = m by have : ((a * b : Nat) : Int) = m := by rw [← hm]; simp
                                        omega)
  go_enter Try.func25, Try.ntmps25
  go_wp2_with (first
    | (go_at_call 44; go_must (refine (HI.out _ (by repeat (first | exact Below.refl _ _ | assumption | refine Below.drew ?_ | refine below_drewN ?_ _ | refine below_alloc ?_ _))).mono ?_); rintro e w1 ⟨rfl, hb1⟩; have hbz := (Blk.new1 w _ 30 #[.int .i64 0, .int .i64 0, .int .i64 0, .slice none 0 0]).below hb1 (by simp); have hbx := ((Blk.new w 30 #[.int .i64 W, .int .i64 H, .int .i64 d, .slice A p.length c]).alloc (.cells #[.int .i64 0, .int .i64 0, .int .i64 0, .slice none 0 0] 30)).below hb1 (by simp; omega); have bb := below_then (below_alloc (below_alloc (Below.refl w.heap.size w) _) _) hb1; clear hb1; obtain ⟨x0, x1, x2, x3, _⟩ := hbx.four)
    | (go_at_call 54; go_must (refine (HS.out _).mono ?_); rintro e w2 ⟨rfl, hb2⟩; have hby := hbz.below hb2 hbz.lt; have hbx2 := hbx.below hb2 hbx.lt; clear x0 x1 x2 x3; obtain ⟨z0, z1, z2, z3, f0, f1, f2, f3⟩ := hby.four; obtain ⟨x0, x1, x2, x3, _⟩ := hbx2.four; have x3a := (hbx2.alloc (.cells #[.int .i64 a, .int .i64 b, .int .i64 d, .slice none 0 0] 30)).cell 3))
  have bb2 := below_then bb hb2
  obtain ⟨g, hg⟩ : ∃ g, g = w2.heap.size := ⟨_, rfl⟩
  have hgw : w.heap.size + 1 < g := by rw [hg]; exact hby.lt
  obtain ⟨wa, hwa⟩ : ∃ wa, wa = w2.alloc (.cells #[.int .i64 a, .int .i64 b, .int .i64 d, .slice none 0 0] 30) := ⟨_, rfl⟩
  rw [← hwa, ← hg]
  have bxa : Below w.heap.size w wa := by rw [hwa]; exact below_alloc bb2 _
  have c1 : Blk wa (w.heap.size + 1) 30 #[.int .i64 0, .int .i64 0, .int .i64 0, .slice none 0 0] := by
    rw [hwa]
    exact hby.alloc _
  have c0 : Blk wa w.heap.size 30 #[.int .i64 W, .int .i64 H, .int .i64 d, .slice A p.length c] := by
    rw [hwa]
    exact hbx2.alloc _
  have c2 : Blk wa g 30 #[.int .i64 a, .int .i64 b, .int .i64 d, .slice none 0 0] := by
    rw [hwa, hg]
    exact Blk.new w2 _ _
  clear x0 x1 x2 x3 x3a z0 z1 z2 z3 f0 f1 f2 f3 hbx hbz hby hbx2 hb2 bb bb2 hwa hg
  go_loopw [38] (fun i wr => ∃ (j : Nat) (v : Value), j ≤ p.length ∧ i = .int .i64 j ∧ Below w.heap.size w wr ∧ Blk wr w.heap.size 30 #[.int .i64 W, .int .i64 H, .int .i64 d, .slice A p.length c] ∧ Blk wr (w.heap.size + 1) 30 #[.int .i64 0, .int .i64 0, .int .i64 0, .slice none 0 0] ∧
      Blk wr g 30 #[.int .i64 a, .int .i64 b, .int .i64 d, v] ∧ OwnLL wr (g + 1) 22 3 .i64 v (cutLL (p.take j) W x y a b)) (fun i _ => p.length - (intOf i).toNat)
  case atStart => exact ⟨0, _, Nat.zero_le _, rfl, bxa, c0, c1, c2, by simpa [cutLL] using OwnLL.nil_ _ _ _ _ _⟩
  case round =>
    obtain ⟨j, v, hj, rfl, hbx, hb0, hb1, hb2, hll⟩ := hrel
    by_cases hlt : j < p.length
    · obtain ⟨ad, Aj, cj, rfl, hadB, hcell, hcj, hrj⟩ := (hr.below hbx hB) j hlt
      have HE : Hid (cutLL (p.take (j + 1)) W x y a b = cutLL (p.take j) W x y a b ++ [cutPl (p.getD j []) W x y a b] ∧ (p.getD j []).length = W * H ∧ (cutLL (p.take j) W x y a b).length = j) := by
        have e : p.getD j [] = p[j] := by simp [List.getD, List.getElem?_eq_getElem hlt]
        rw [Hid, e]
        exact ⟨by rw [List.take_succ_eq_append_getElem hlt, cutLL, List.map_append]; rfl, HL.out _ (List.getElem_mem hlt), by rw [cutLL, List.length_map, List.length_take]; omega⟩
      generalize p.getD j [] = l at *
      have hB2 : B ≤ w.heap.size := hB
      have hsz : g + 1 ≤ wr.heap.size := hb2.lt
      go_wp2
      have hown0 := OwnI.room (e := 3) (k := .i64) wr (Nat.le_refl _) (n := m) (by omega)
      have hbe0 := below_alloc (Below.refl wr.heap.size wr) (.cells (Array.replicate m (.int .i64 0)) 3)
      generalize wr.alloc (.cells (Array.replicate m (.int .i64 0)) 3) = wb at *
      obtain ⟨wo, hwo⟩ : ∃ wo, wo = wr := ⟨_, rfl⟩
      subst hwo
      go_loopw [15, 16] (fun u i w3 => ∃ (k r : Nat), k ≤ b ∧ r = y + k ∧ i = .int .i64 r ∧ Below wo.heap.size wo w3 ∧ OwnI w3 wo.heap.size 3 .i64 u (cutPl l W x y a k)) (fun _ i _ => y + b - (intOf i).toNat)
      case atStart => exact ⟨0, y, Nat.zero_le _, rfl, rfl, hbe0, hown0⟩
      case round =>
        obtain ⟨k, r, hk, hrk, rfl, hbw3, how3⟩ := hrel
        have hb0x := hb0.below hbw3 hb0.lt
        by_cases hkb : k < b
        · obtain ⟨A3, c3, rfl, hc3, hr3, ha3⟩ := how3.form
          obtain ⟨P, hP⟩ : ∃ P : Nat, P = r * W := ⟨_, rfl⟩
          have hin := rows_in (x := x) (w := a) (r := r) (H := H) HE.out.2.1 (by omega) (by omega)
          rw [← hP] at hin
          obtain ⟨L1, L2⟩ := mul_64 (a := W) (b := H) (by omega) (by omega)
          have hL : ((W * H : Nat) : Int) = (W : Int) * H := by simp
          have hlen : (l.length : Int) ≤ 4096 := by rw [HE.out.2.1]; omega
          obtain ⟨at_, hat⟩ : ∃ at_ : Nat, at_ = P + x := ⟨_, rfl⟩
          obtain ⟨to_, hto⟩ : ∃ to_ : Nat, to_ = at_ + a := ⟨_, rfl⟩
          obtain ⟨A4, hrun, hr4, _⟩ := hrj.slice_lh (P := Try.prog) Try.underlying22 info_int (lo := at_) (hh := to_) (by omega) (by omega) hcj
          have hta : to_ - at_ = a := by omega
          rw [hta] at hrun hr4
          have e1 : (r : Int) * (W : Int) = (P : Int) := by rw [hP]; simp
          have e2 : (P : Int) + (x : Int) = (at_ : Int) := by rw [hat]; simp
          have e3 : (at_ : Int) + (a : Int) = (to_ : Int) := by rw [hto]; simp
          have HC := Lib.hid (show cutPl l W x y a (k + 1) = cutPl l W x y a k ++ (l.drop at_).take a ∧ (cutPl l W x y a k).length ≤ 100000 ∧ ((l.drop at_).take a).length = a from ⟨by rw [cutPl, ← hrk, ← hP, ← hat], by
            rw [cutPl_length k (fun r' hr' => rows_in (x := x) (w := a) (r := y + r') (H := H) HE.out.2.1 (by omega) (by omega))]
            have := Nat.mul_le_mul (show k ≤ 64 by omega) (show a ≤ 64 by omega)
            omega, by rw [List.length_take, List.length_drop]; omega⟩)
          obtain ⟨k0, k1, k2, k3, _⟩ := hb0x.four
          have hrb : (r : Int) < (y : Int) + (b : Int) := by omega
          have hrr : r + 1 = y + (k + 1) := by omega
          clear hP hat hto hL hrk L1 L2
          go_wp2_with (first
            | (at_builtin; refine wpList_append_int _ rfl (.tmp 60) (.tmp 66) _ rfl wo wo.heap.size wo.heap.size 3 .i64 8 Try.underlying22 info_int _ (cutPl l W x y a k) (by rfl) how3 B A4 a _ ((l.drop at_).take a) (by rfl) HC.out.2.2.symm (hr4.below hbw3 (by exact Nat.le_trans hB2 hbx.size)) (by rw [HC.out.2.2]; have := HC.out.2.1; omega) (by omega) hbw3 (Nat.le_refl _) hbw3.size ?_; intro v4 w4 hown4 hbw4))
          go_roundw
          case rel =>
            exact ⟨k + 1, r + 1, by omega, by exact hrr, by go_num, hbw4, by rw [HC.out.1]; exact hown4⟩
          case measure => simp [intOf]; omega
        · have hkb2 : k = b := by omega
          subst hkb2
          have hrb : ¬ ((r : Int) < (y : Int) + (k : Int)) := by omega
          clear hrk
          obtain ⟨A3, c3, rfl, hc3, hr3, ha3⟩ := how3.form
          have hlo := how3.lo
          have hsz3 : g + 1 ≤ wr.heap.size := Nat.le_trans hsz hbw3.size
          have hb2x := hb2.below hbw3 hb2.lt
          obtain ⟨k0, k1, k2, k3, f0, f1, f2, f3⟩ := hb2x.four
          have k3' := (hb2x.alloc (.cells #[.slice A3 (cutPl l W x y a k).length c3] 22)).cell 3
          clear k0 k1 k2 f0 f1 f2
          go_wp2_with (first
            | (at_builtin; refine wpList_push_ll (by rfl) (.tmp 69) (.tmp 71) _ (by rfl) wr (g + 1) 22 3 .i64 24 Try.underlying23 info_ints (by omega) (by decide) v (by rfl) _ wo hll (by exact hbw3) _ _ (by rfl) (by rfl) A3 _ _ (cutPl l W x y a k) (by rfl) (how3.base_ (by exact hsz)) (by exact hlo) (by rw [HE.out.2.2]; omega) (by exact hsz3) ?_; intro v4 w4 hL4 hbw4; have hb2y := hb2x.below hbw4 (by omega); obtain ⟨_, _, _, k3x, _, _, _, f3x⟩ := hb2y.four; obtain ⟨A4, c4, hv4, hq4⟩ := hL4.form; clear hq4; subst hv4))
          have hL3 : OwnLL w4 (g + 1) 22 3 .i64 (.slice A4 (j + 1) c4) (cutLL (p.take (j + 1)) W x y a k) := by
            rw [← HE.out.1, HE.out.1, List.length_append, HE.out.2.2, ← HE.out.1] at hL4
            exact hL4
          have hbw : Below (g + 1) wo w4 := (hbw3.mono (by omega)).trans hbw4
          rw [HE.out.2.2]
          refine ⟨⟨j + 1, _, by omega, by go_num, (hbx.trans (hbw.mono (by omega))).setCell (by simp; omega) _, (hb0.below hbw (by omega)).far (by simp; omega) _, (hb1.below hbw (by omega)).far (by simp; omega) _, hb2y.set_ 3 _, hL3.far (by simp) _⟩, ?_⟩
          simp [intOf]
          omega
    · have hjl : j = p.length := by omega
      subst hjl
      rw [List.take_length] at hll
      obtain ⟨A', c', hv, hc', _, _⟩ := hll.form
      rw [cutLL, List.length_map] at hv
      subst hv
      obtain ⟨k0, k1, k2, k3, _⟩ := hb2.four
      obtain ⟨q0, q1, q2, q3, f0, f1, f2, f3⟩ := hb1.four
      go_wp2
      refine bodyPost_ret (v := .tuple #[.agg #[.int .i64 a, .int .i64 b, .int .i64 d, .slice A' p.length c'], .int .i64 0]) (by simp [results, Try.results25, go_sem, q0, q1, q2, q3]) rfl ⟨A', c', rfl, ?_, ?_⟩
      · exact ((((hll.far (by simp; omega) _).far (by simp; omega) _).far (by simp; omega) _).far (by simp; omega) _).base_ (by omega)
      · exact (((hbx.setCell (by simp) _).setCell (by simp) _).setCell (by simp) _).setCell (by simp) _
end Go.Proofs.Ytbbflddhbamjbaa
