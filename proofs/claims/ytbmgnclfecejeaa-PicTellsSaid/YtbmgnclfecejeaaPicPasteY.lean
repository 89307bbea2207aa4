/- pic.Paste where the part lies in the picture. -/
import Derived.Test.YtbmgnclfecejeaaPicPaste
set_option linter.unusedSimpArgs false
set_option linter.unusedVariables false
namespace Go.Proofs.Ytbmgnclfecejeaa
open Go.RowKit

def pastePl (l : List Int) (W x y : Nat) (part : List Int) (a : Nat) : Nat → List Int
  | 0 => l
  | k + 1 => splI (pastePl l W x y part a k) ((y + k) * W + x) ((part.drop (k * a)).take a)
theorem pastePl_length {l : List Int} {W x y : Nat} {part : List Int} {a : Nat} : ∀ k, (∀ r, r < k → (y + r) * W + x + a ≤ l.length) → (pastePl l W x y part a k).length = l.length
  | 0, _ => rfl
  | k + 1, h => by
    have ih := pastePl_length k (part := part) (fun r hr => h r (by omega))
    have h1 := h k (by omega)
    rw [pastePl, splI_length, ih]
    rw [ih, List.length_take]
    have := Nat.min_le_left a (part.drop (k * a)).length
    omega
def pasteLL (p q : List (List Int)) (W x y a b j : Nat) : List (List Int) := (List.range p.length).map fun i => if i < j then pastePl (p.getD i []) W x y (q.getD i []) a b else p.getD i []
theorem pasteLL_length (p q : List (List Int)) (W x y a b j : Nat) : (pasteLL p q W x y a b j).length = p.length := by simp [pasteLL]
theorem pasteLL_get (p q : List (List Int)) (W x y a b j : Nat) {i : Nat} (hi : i < p.length) : (pasteLL p q W x y a b j).getD i [] = if i < j then pastePl (p.getD i []) W x y (q.getD i []) a b else p.getD i [] := by
  simp [pasteLL, List.getD, hi]
theorem ext_getD {a b : List (List Int)} (h1 : a.length = b.length) (h : ∀ i, i < a.length → a.getD i [] = b.getD i []) : a = b := by
  refine List.ext_getElem h1 fun i h2 h3 => ?_
  have := h i h2
  simpa [List.getD, h2, h3] using this
theorem pasteLL_zero (p q : List (List Int)) (W x y a b : Nat) : pasteLL p q W x y a b 0 = p :=
  ext_getD (pasteLL_length _ _ _ _ _ _ _ _) fun i hi => by
    rw [pasteLL_length] at hi
    rw [pasteLL_get _ _ _ _ _ _ _ _ hi]
    simp
theorem getD_set {L : List (List Int)} {j i : Nat} {x : List Int} (hi : i < L.length) : (L.set j x).getD i [] = if i = j then x else L.getD i [] := by
  by_cases h : i = j
  · subst h
    simp [List.getD, hi]
  · simp [List.getD, h, Ne.symm h]
theorem pasteLL_succ (p q : List (List Int)) (W x y a b : Nat) {j : Nat} (hj : j < p.length) : pasteLL p q W x y a b (j + 1) = (pasteLL p q W x y a b j).set j (pastePl (p.getD j []) W x y (q.getD j []) a b) :=
  ext_getD (by simp [pasteLL_length]) fun i hi => by
    rw [pasteLL_length] at hi
    rw [pasteLL_get _ _ _ _ _ _ _ _ hi, getD_set (by rw [pasteLL_length]; exact hi), pasteLL_get _ _ _ _ _ _ _ _ hi]
    by_cases h : i = j
    · subst h
      simp
    · simp only [h, if_false]
      by_cases h2 : i < j
      · rw [if_pos h2, if_pos (by omega)]
      · rw [if_neg h2, if_neg (by omega)]

theorem plane_len {W H d : Int} {p : List (List Int)} (hq : isB ⟨W, H, d, p⟩ = true) : ∀ l ∈ p, (l.length : Int) = W * H := fun l hl => by
  rw [isB, Bool.and_eq_true] at hq
  have h1 := List.all_eq_true.1 hq.2 l hl
  rw [okPl, Bool.and_eq_true, decide_eq_true_eq] at h1
  exact h1.1
theorem isB_small {q : Pc} (h : isB q = true) : Small q.p := by
  have hp : possB q.w q.h q.d q.p.length = true := by rw [isB, Bool.and_eq_true] at h; exact h.1
  simp only [possB, decide_eq_true_eq] at hp
  obtain ⟨w, h', d, p⟩ := q
  refine ⟨by simp only at hp ⊢; omega, fun l hl => ?_⟩
  have h1 := plane_len h l hl
  simp only at hp
  have := mul_64 (a := w) (b := h') (by omega) (by omega)
  omega

set_option maxHeartbeats 4000000 in
theorem paste_yes {w : World} {B : Nat} {W H a b : Nat} {d : Int} {p q : List (List Int)} {A A2 : Option Addr} {c c2 : Nat} (hr : RdLL w B .i64 A p) (hr2 : RdLL w B .i64 A2 q) (hB : B ≤ w.heap.size) (x y : Nat)
    (hq1 : isB ⟨W, H, d, p⟩ = true) (hq2 : isB ⟨a, b, d, q⟩ = true) (hlen : p.length = q.length) (hi : insB W H x y a b = true) :
    Calls Try.prog 24 #[.agg #[.int .i64 W, .int .i64 H, .int .i64 d, .slice A p.length c], .agg #[.int .i64 a, .int .i64 b, .int .i64 d, .slice A2 q.length c2], .int .i64 x, .int .i64 y] w
      fun e w' => ∃ A' c', e = .returned (.tuple #[.agg #[.int .i64 W, .int .i64 H, .int .i64 d, .slice A' p.length c'], .int .i64 0]) ∧
        OwnLL w' w.heap.size 25 3 .i64 (.slice A' p.length c') (pasteLL p q W x y a b p.length) ∧ Below w.heap.size w w' := by
  have HI := fun W' (hb : Below w.heap.size w W') => is_any (q := ⟨W, H, d, p⟩) (c := c) (hr.below hb hB) (Nat.le_trans hB hb.size)
  have HJ := fun W' (hb : Below w.heap.size w W') => is_any (q := ⟨a, b, d, q⟩) (c := c2) (hr2.below hb hB) (Nat.le_trans hB hb.size)
  have HC := fun W' (hb : Below w.heap.size w W') => copy_any (q := ⟨W, H, d, p⟩) (c := c) (hr.below hb hB) (Nat.le_trans hB hb.size) (isB_small hq1)
  simp only [hq1, hq2] at HI HJ HC
  rw [← hlen] at HJ
  have hp : possB W H d p.length = true := by rw [isB, Bool.and_eq_true] at hq1; exact hq1.1
  simp only [possB, decide_eq_true_eq] at hp
  obtain ⟨b1, b2, b3, b4, b5, b6, b7, b8⟩ := hp
  have HS := inside_any W H d x y a b b1 b2 b3 b4 (by simp only [insB, decide_eq_true_eq] at hi; omega) (by simp only [insB, decide_eq_true_eq] at hi; omega) A p.length c
  simp only [hi] at HS
  simp only [insB, decide_eq_true_eq] at hi
  obtain ⟨i1, i2, i3, i4, i5, i6⟩ := hi
  obtain ⟨m1, m2⟩ := mul_64 (a := W) (b := H) ⟨b1, b2⟩ ⟨b3, b4⟩
  have HL := Lib.hid (show (∀ l ∈ p, l.length = W * H) ∧ (∀ l ∈ q, l.length = a * b) from ⟨fun l hl => by
    have := plane_len hq1 l hl
    rw [← Int.natCast_mul] at this
    omega, fun l hl => by
    have := plane_len hq2 l hl
    rw [← Int.natCast_mul] at this
    omega⟩)
  rw [← hlen]
  have HQ := Lib.hid hlen
  clear hq1 hq2 hlen
  replace HI := Lib.hid HI
  replace HJ := Lib.hid HJ
  replace HS := Lib.hid HS
  replace HC := Lib.hid HC
  go_enter Try.func24, Try.ntmps24
  go_wp2_with (first
    | (go_at_call 32; (with_reducible refine (HI.out _ (by repeat (first | exact Below.refl _ _ | assumption | refine Below.drew ?_ | refine below_drewN ?_ _ | refine below_alloc ?_ _))).mono ?_); rintro e w1 ⟨rfl, hb1⟩; have hb0 := ((Blk.new1 w (.cells #[.int .i64 W, .int .i64 H, .int .i64 d, .slice A p.length c] 28) 28 #[.int .i64 a, .int .i64 b, .int .i64 d, .slice A2 p.length c2]).alloc (.cells #[.int .i64 0, .int .i64 0, .int .i64 0, .slice none 0 0] 28)).below hb1 (by simp <;> omega); have hba := (((Blk.new w 28 #[.int .i64 W, .int .i64 H, .int .i64 d, .slice A p.length c]).alloc (.cells #[.int .i64 a, .int .i64 b, .int .i64 d, .slice A2 p.length c2] 28)).alloc (.cells #[.int .i64 0, .int .i64 0, .int .i64 0, .slice none 0 0] 28)).below hb1 (by simp <;> omega); have hbz := (Blk.new2 w _ _ 28 #[.int .i64 0, .int .i64 0, .int .i64 0, .slice none 0 0]).below hb1 (by simp); have bb := below_then (below_alloc (below_alloc (below_alloc (Below.refl w.heap.size w) _) _) _) hb1; clear hb1; obtain ⟨x0, x1, x2, x3, _⟩ := hb0.four)
    | (go_at_call 32; (with_reducible refine (HJ.out _ (by repeat (first | exact Below.refl _ _ | assumption | refine Below.drew ?_ | refine below_drewN ?_ _ | refine below_alloc ?_ _))).mono ?_); rintro e w2 ⟨rfl, hb2⟩; have hbz2 := hbz.below hb2 hbz.lt; have hbx2 := hb0.below hb2 hb0.lt; have hba2 := hba.below hb2 hba.lt; clear x0 x1 x2 x3; obtain ⟨x0, x1, x2, x3, _⟩ := hbx2.four; obtain ⟨y0, y1, y2, y3, _⟩ := hba2.four; have bb2 := below_then bb hb2; clear hbz hb0 hba hb2)
    | (go_at_call 39; go_must (refine (HS.out _).mono ?_); rintro e w3 ⟨rfl, hb3⟩; clear x0 x1 x2 x3 y0 y1 y2 y3; have hbz := hbz2.below hb3 hbz2.lt; have hb0 := hbx2.below hb3 hbx2.lt; have hba := hba2.below hb3 hba2.lt; have bb3 := below_then bb2 hb3; clear hb3 hbz2 hbx2 hba2; obtain ⟨z0, z1, z2, z3, f0, f1, f2, f3⟩ := hbz.four; obtain ⟨y0, y1, y2, y3, _⟩ := hba.four; obtain ⟨x0, x1, x2, x3, _⟩ := hb0.four)
    | (go_at_call 26; (with_reducible refine (HC.out _ (by assumption)).mono ?_); rintro e w4 ⟨A4, c4, rfl, hown4, hb4⟩; clear x0 x1 x2 x3 y0 y1 y2 y3 z0 z1 z2 z3 f0 f1 f2 f3; have hbz4 := hbz.below hb4 hbz.lt; have hb04 := hb0.below hb4 hb0.lt; have hba4 := hba.below hb4 hba.lt; have bb4 := below_then bb3 hb4; obtain ⟨x0, x1, x2, x3, _⟩ := hb04.four; have x3a := (hb04.alloc (.cells #[.int .i64 W, .int .i64 H, .int .i64 d, .slice A4 p.length c4] 28)).cell 3))
  obtain ⟨g, hg⟩ : ∃ g, g = w4.heap.size := ⟨_, rfl⟩
  obtain ⟨b0, hb0'⟩ : ∃ b0, b0 = w3.heap.size := ⟨_, rfl⟩
  have hgw : w.heap.size + 2 < b0 := by rw [hb0']; exact hbz.lt
  have hgb : b0 ≤ g := by rw [hb0', hg]; exact hb4.size
  obtain ⟨wa, hwa⟩ : ∃ wa, wa = w4.alloc (.cells #[.int .i64 W, .int .i64 H, .int .i64 d, .slice A4 p.length c4] 28) := ⟨_, rfl⟩
  rw [← hwa, ← hg]
  have bxa : Below w.heap.size w wa := by rw [hwa]; exact below_alloc bb4 _
  have o4 : OwnLL wa b0 25 3 .i64 (.slice A4 p.length c4) (pasteLL p q W x y a b 0) := by
    rw [hwa, hb0', pasteLL_zero]
    exact hown4.below (below_alloc (Below.refl _ _) _)
  have e0 : Blk wa w.heap.size 28 #[.int .i64 W, .int .i64 H, .int .i64 d, .slice A p.length c] := by
    rw [hwa]
    exact hba4.alloc _
  have e1 : Blk wa (w.heap.size + 1) 28 #[.int .i64 a, .int .i64 b, .int .i64 d, .slice A2 p.length c2] := by
    rw [hwa]
    exact hb04.alloc _
  have e2 : Blk wa (w.heap.size + 1 + 1) 28 #[.int .i64 0, .int .i64 0, .int .i64 0, .slice none 0 0] := by
    rw [hwa]
    exact hbz4.alloc _
  have e3 : Blk wa g 28 #[.int .i64 W, .int .i64 H, .int .i64 d, .slice A4 p.length c4] := by
    rw [hwa, hg]
    exact Blk.new w4 _ _
  have hlp : ∀ j, j < p.length → (p.getD j []).length = W * H ∧ (q.getD j []).length = a * b := fun j hj => by
    have hj2 : j < q.length := by rw [← HQ.out]; exact hj
    have ea : p.getD j [] = p[j] := by simp [List.getD, hj]
    have eb : q.getD j [] = q[j] := by simp [List.getD, hj2]
    rw [ea, eb]
    exact ⟨HL.out.1 _ (List.getElem_mem hj), HL.out.2 _ (List.getElem_mem hj2)⟩
  have hWH : 0 < W * H := by
    have : ((W * H : Nat) : Int) = (W : Int) * H := by simp
    omega
  obtain ⟨G, hA4⟩ : ∃ G, A4 = some ⟨G, 0, none⟩ := by
    obtain ⟨G, C, g5, c5, hv, _⟩ := o4.at_ (j := 0) (by decide) (by rw [pasteLL_length]; omega) (by rw [pasteLL_zero, (hlp 0 (by omega)).1]; exact hWH)
    simp only [Value.slice.injEq] at hv
    exact ⟨G, hv.1⟩
  subst hA4
  replace hlp := Lib.hid hlp
  clear x0 x1 x2 x3 x3a hbz hb0 hba hbz4 hb04 hba4 bb bb2 bb3 bb4 hwa hg hb0' hb4 hown4
  go_loopw [54] (fun i wr => ∃ (j : Nat), j ≤ p.length ∧ i = .int .i64 j ∧ Below w.heap.size w wr ∧ Blk wr w.heap.size 28 #[.int .i64 W, .int .i64 H, .int .i64 d, .slice A p.length c] ∧ Blk wr (w.heap.size + 1) 28 #[.int .i64 a, .int .i64 b, .int .i64 d, .slice A2 p.length c2] ∧ Blk wr (w.heap.size + 1 + 1) 28 #[.int .i64 0, .int .i64 0, .int .i64 0, .slice none 0 0] ∧
      Blk wr g 28 #[.int .i64 W, .int .i64 H, .int .i64 d, .slice (some ⟨G, 0, none⟩) p.length c4] ∧ OwnLL wr b0 25 3 .i64 (.slice (some ⟨G, 0, none⟩) p.length c4) (pasteLL p q W x y a b j)) (fun i _ => p.length - (intOf i).toNat)
  case atStart => exact ⟨0, Nat.zero_le _, rfl, bxa, e0, e1, e2, e3, o4⟩
  case round =>
    obtain ⟨j, hj, rfl, hbx, hb0, hb1, hb2, hb3, hll⟩ := hrel
    by_cases hlt : j < p.length
    · obtain ⟨ad, Aj, cj, rfl, hadB, hcell, hcj, hrj⟩ := (hr2.below hbx hB) j (by rw [← HQ.out]; exact hlt)
      have hlx := Lib.hid (hlp.out j hlt)
      have HE : Hid ((pasteLL p q W x y a b j).getD j [] = p.getD j [] ∧ pasteLL p q W x y a b (j + 1) = (pasteLL p q W x y a b j).set j (pastePl (p.getD j []) W x y (q.getD j []) a b)) := by
        refine ⟨?_, pasteLL_succ _ _ _ _ _ _ _ hlt⟩
        rw [pasteLL_get _ _ _ _ _ _ _ _ hlt]
        simp
      have HN : Hid ((pasteLL p q W x y a b j).length = p.length) := pasteLL_length _ _ _ _ _ _ _ _
      generalize p.getD j [] = l at *
      generalize q.getD j [] = l2 at *
      generalize hLq : pasteLL p q W x y a b j = Lq at *
      obtain ⟨k0, k1, k2, k3, _⟩ := hb1.four
      clear k0 k2 k3
      have HLq := Lib.hid hLq
      clear hLq
      go_wp2
      obtain ⟨wo, hwo⟩ : ∃ wo, wo = wr := ⟨_, rfl⟩
      subst hwo
      have o5 : OwnLL wo b0 25 3 .i64 (.slice (some ⟨G, 0, none⟩) p.length c4) (Lq.set j (pastePl l W x y l2 a 0)) := by
        have e9 : Lq.set j (pastePl l W x y l2 a 0) = Lq := ext_getD (by simp) fun i hi => by
          rw [List.length_set] at hi
          rw [getD_set hi]
          by_cases h : i = j
          · subst h
            rw [if_pos rfl, pastePl, HE.out.1]
          · simp [h]
        rw [e9]
        exact hll
      go_loopw [61] (fun i w3 => ∃ (k : Nat), k ≤ b ∧ i = .int .i64 k ∧ Below b0 wo w3 ∧ Blk w3 g 28 #[.int .i64 W, .int .i64 H, .int .i64 d, .slice (some ⟨G, 0, none⟩) p.length c4] ∧ OwnLL w3 b0 25 3 .i64 (.slice (some ⟨G, 0, none⟩) p.length c4) (Lq.set j (pastePl l W x y l2 a k))) (fun i _ => b - (intOf i).toNat)
      case atStart => exact ⟨0, Nat.zero_le _, rfl, Below.refl _ _, hb3, o5⟩
      case round =>
        obtain ⟨k, hk, rfl, hbw3, hb3w, how3⟩ := hrel
        by_cases hkb : k < b
        · have hba3 := hb0.below hbw3 (by omega)
          have hbb3 := hb1.below hbw3 (by omega)
          obtain ⟨k0, k1, k2, k3, _⟩ := hba3.four
          obtain ⟨n0, n1, n2, n3, _⟩ := hbb3.four
          obtain ⟨g0, g1, g2, g3, _⟩ := hb3w.four
          have hrows : ∀ r, r < k + 1 → (y + r) * W + x + a ≤ l.length := fun r hr' => rows_in (H := H) hlx.out.1 (by omega) (by omega)
          have hpl : (pastePl l W x y l2 a k).length = l.length := pastePl_length k fun r hr' => hrows r (by omega)
          have HP : Hid ((Lq.set j (pastePl l W x y l2 a k)).getD j [] = pastePl l W x y l2 a k ∧ (Lq.set j (pastePl l W x y l2 a k)).length = p.length) := ⟨by rw [getD_set (by rw [HN.out]; exact hlt)]; simp, by rw [List.length_set]; exact HN.out⟩
          obtain ⟨G', C', gj, cg, hv, hC, hcg, hgb', hcc, ⟨cur, hcur⟩, hog, hupd⟩ := how3.at_ (j := j) (by decide) (by rw [HP.out.2]; exact hlt) (by rw [HP.out.1, hpl, hlx.out.1]; exact hWH)
          simp only [Value.slice.injEq, Option.some.injEq, Addr.mk.injEq, and_true] at hv
          obtain ⟨rfl, hclr, rfl⟩ := hv
          clear hclr
          rw [HP.out.1] at hcg hcc hog hupd
          have hgne : gj ≠ g := fun h => by
            subst h
            have := hcur.symm.trans hb3w
            simp at this
          obtain ⟨P, hP⟩ : ∃ P : Nat, P = (y + k) * W := ⟨_, rfl⟩
          obtain ⟨Q1, hQ1⟩ : ∃ Q1 : Nat, Q1 = k * a := ⟨_, rfl⟩
          have hin := hrows k (by omega)
          rw [← hP] at hin
          obtain ⟨L1, L2⟩ := mul_64 (a := a) (b := b) (by omega) (by omega)
          have hL : ((a * b : Nat) : Int) = (a : Int) * b := by simp
          have hL' : ((W * H : Nat) : Int) = (W : Int) * H := by simp
          have hQ2 : Q1 + a ≤ a * b := by
            have := Nat.mul_le_mul_right a (show k + 1 ≤ b by omega)
            rw [Nat.succ_mul, Nat.mul_comm b a] at this
            omega
          obtain ⟨at_, hat⟩ : ∃ at_ : Nat, at_ = P + x := ⟨_, rfl⟩
          obtain ⟨to_, hto⟩ : ∃ to_ : Nat, to_ = Q1 + a := ⟨_, rfl⟩
          have hlen1 : l.length = W * H := hlx.out.1
          have hlen2 : l2.length = a * b := hlx.out.2
          obtain ⟨A5, hrun, hr5, _⟩ := (hrj.below hbw3 (by omega)).slice_lh (P := Try.prog) Try.underlying25 info_int (lo := Q1) (hh := to_) (by omega) (by omega) hcj
          have hta : to_ - Q1 = a := by omega
          rw [hta] at hrun hr5
          have hrun2 := fun W' => run_cut_from (P := Try.prog) (t := 25) Try.underlying25 info_int gj at_ _ cg (by rw [hpl]; omega) hcc W'
          have e1 : ((y : Int) + (k : Int)) * (W : Int) = (P : Int) := by rw [hP]; simp
          have e2 : (P : Int) + (x : Int) = (at_ : Int) := by rw [hat]; simp
          have e3 : (k : Int) * (a : Int) = (Q1 : Int) := by rw [hQ1]; simp
          have e4 : ((k : Int) + 1) * (a : Int) = (to_ : Int) := by rw [Int.add_mul, e3, hto]; simp
          have w0' := IntWalk.i64_in ((y : Int) + (k : Int)) (by omega)
          have w5' := IntWalk.i64_in ((k : Int) + 1) (by omega)
          have w1' := IntWalk.i64_in (P : Int) (by omega)
          have w2' := IntWalk.i64_in (at_ : Int) (by omega)
          have w3' := IntWalk.i64_in (Q1 : Int) (by omega)
          have w4' := IntWalk.i64_in (to_ : Int) (by omega)
          have HC2 := Lib.hid (show pastePl l W x y l2 a (k + 1) = splI (pastePl l W x y l2 a k) at_ ((l2.drop Q1).take a) ∧ ((l2.drop Q1).take a).length = a ∧ at_ + a ≤ (pastePl l W x y l2 a k).length from ⟨by rw [pastePl, ← hP, ← hat, ← hQ1], by rw [List.length_take, List.length_drop]; omega, by omega⟩)
          clear hP hat hto hL hL' hQ1 L1 L2 k1 k2 k3 n1 n2 n3 g0 g1 g2 hrows
          have HPl := Lib.hid hpl
          clear hpl hin hQ2 hlen1 hlen2 hta
          go_wp2
          refine wp_still_tail 25 (by kernel_rfl) (by kernel_rfl) ?_
          simp only [List.take_succ_cons, List.take_zero, List.drop_succ_cons, List.drop_zero]
          repeat still_step
          refine wpStill_nil ?_
          clear w0' w1' w2' w3' w4' w5' e1 e2 e3 e4 hrun hrun2 k0 n0 g3 hcg hcell
          refine wpList_copy_own' (by rfl) (.tmp 77) (.tmp 88) _ _ (by rfl) Try.underlying25 (by kernel_rfl) gj cg _ (by exact hog) at_ _ _ (by rfl) (by rfl) A5 a _ B ((l2.drop Q1).take a) (by rfl) HC2.out.2.1.symm (by exact hr5) (by rw [HC2.out.2.1]; exact HC2.out.2.2) (by rw [HC2.out.2.1]; omega) ?_
          intro w4 hown4 hgr4'
          have hgr4 := only_undrew hgr4'
          clear hgr4'
          go_wp2
          go_roundw
          case rel =>
            have h9 := hupd w4 _ hgr4 (by rw [← HC2.out.1, pastePl_length (k + 1) (fun r hr' => rows_in (H := H) hlx.out.1 (by omega) (by omega)), HPl.out]) hown4
            rw [List.set_set, ← HC2.out.1] at h9
            exact ⟨k + 1, by omega, by go_num, below_only hbw3 hgr4 (by have := hbw3.size; have := hb3.lt; omega) hgb', hb3w.grown hgr4 (by simp; omega), h9⟩
          case measure => simp [intOf]; omega
        · have hkb2 : k = b := by omega
          subst hkb2
          go_wp2
          go_roundw
          case rel =>
            exact ⟨j + 1, by omega, by go_num, hbx.trans (hbw3.mono (by omega)), hb0.below hbw3 (by omega), hb1.below hbw3 (by omega), hb2.below hbw3 (by omega), hb3w, by rw [HE.out.2]; exact how3⟩
          case measure => simp [intOf]; omega
    · have hjl : j = p.length := by omega
      subst hjl
      obtain ⟨k0, k1, k2, k3, _⟩ := hb3.four
      obtain ⟨q0, q1, q2, q3, f0, f1, f2, f3⟩ := hb2.four
      go_wp2
      refine bodyPost_ret (v := .tuple #[.agg #[.int .i64 W, .int .i64 H, .int .i64 d, .slice (some ⟨G, 0, none⟩) p.length c4], .int .i64 0]) (by simp [results, Try.results24, go_sem, q0, q1, q2, q3]) rfl ⟨_, c4, rfl, ?_, ?_⟩
      · exact ((((hll.far (by simp; omega) _).far (by simp; omega) _).far (by simp; omega) _).far (by simp; omega) _).base_ (by omega)
      · exact (((hbx.setCell (by simp; omega) _).setCell (by simp; omega) _).setCell (by simp; omega) _).setCell (by simp; omega) _
end Go.Proofs.Ytbmgnclfecejeaa
