/- Numbers that go on by themselves. -/
import Derived.Test.YtbbflddhbamjbaaPicTape
set_option linter.unusedSimpArgs false
set_option linter.unusedVariables false
namespace Go.Proofs.Ytbbflddhbamjbaa
open Go.RowKit

theorem and_31 (c : Int) : 0 ≤ bits .and .i64 c 2147483647 ∧ bits .and .i64 c 2147483647 ≤ 2147483647 := by
  have h1 : (BitVec.ofInt 64 c &&& BitVec.ofInt 64 2147483647).toNat ≤ 2147483647 := by
    rw [BitVec.toNat_and]
    exact Nat.and_le_right
  have h2 : bits .and .i64 c 2147483647 = IntKind.i64.wrap ((BitVec.ofInt 64 c &&& BitVec.ofInt 64 2147483647).toNat : Int) := rfl
  rw [h2, IntKind.wrap_i64]
  omega

set_option maxHeartbeats 1000000 in
theorem rownext_any {w : World} {g : Nat} {s : Int} (h : Blk w g 88 #[.int .i64 s]) (ni : Int) (n0 : 1 ≤ ni) (n1 : ni ≤ 1073741824) :
    Calls Try.prog 61 #[.pointer (some ⟨g, 0, none⟩), .int .i64 ni] w fun e w' => ∃ (r : Nat) (s' : Int), e = .returned (.int .i64 (r : Int)) ∧ (r : Int) < ni ∧ Blk w' g 88 #[.int .i64 s'] ∧ w.grownBy w' (some g) := by
  obtain ⟨n, rfl⟩ := Int.eq_ofNat_of_zero_le (show 0 ≤ ni by omega)
  have k0 := h.cell 0
  have f0 := h.frozen 0
  have hne : (n : Int) ≠ 0 := by omega
  have HB := fun c => Lib.hid (and_31 c)
  go_enter Try.func61, Try.ntmps61
  go_wp2
  have HB2 := (HB (wrap64 (wrap64 (s * 1103515245) + 12345))).out
  generalize bits BinOp.and IntKind.i64 (wrap64 (wrap64 (s * 1103515245) + 12345)) 2147483647 = b at *
  obtain ⟨bn, hbn⟩ := Int.eq_ofNat_of_zero_le (show 0 ≤ b / 256 by omega)
  go_ret
  rw [hbn]
  exact ⟨bn % n, b, rfl, by have := Nat.mod_lt bn (show 0 < n by omega); omega, h.set_ 0 _, only_setCell (only_refl _ _) (.inl rfl) _⟩

theorem grown_new {a b c : World} {row : Option Nat} {x : Nat} (h : a.grownBy b row) (k : b.grownBy c (some x)) (hx : a.heap.size ≤ x) : a.grownBy c row :=
  ⟨k.os.trans h.os, k.tape.trans h.tape, k.output.trans h.output, Nat.le_trans h.size k.size, fun i hi hne => (k.block i (Nat.lt_of_lt_of_le hi h.size) (by simp; omega)).trans (h.block i hi hne)⟩
theorem only_then_below {a b c : World} {row : Option Nat} {B : Nat} (h : a.grownBy b row) (k : Below B b c) (hB : a.heap.size ≤ B) : a.grownBy c row :=
  ⟨k.os.trans h.os, k.tape.trans h.tape, k.output.trans h.output, Nat.le_trans h.size k.size, fun i hi hne => (k.block i (by omega)).trans (h.block i hi hne)⟩

/-- The pushed sample. -/
theorem tmod_nn {v m : Int} (h : 0 ≤ v) (hm : 0 < m) : 0 ≤ v.tmod m ∧ v.tmod m < m := ⟨Int.tmod_nonneg m h, Int.tmod_lt_of_pos v hm⟩

set_option maxHeartbeats 8000000 in
set_option maxRecDepth 100000 in
theorem plane_any {w : World} {B g : Nat} (h : TapeB w B g) (W H d : Nat) (w0 : 1 ≤ W) (w1 : W ≤ 64) (h0 : 1 ≤ H) (h1 : H ≤ 64) (d0 : 1 ≤ d) (d1 : d ≤ 16) :
    Calls Try.prog 39 #[.pointer (some ⟨g, 0, none⟩), .int .i64 (W : Int), .int .i64 (H : Int), .int .i64 (d : Int)] w fun e w' => ∃ A c l, e = .returned (.slice A l.length c) ∧ l.length = W * H ∧ (∀ v ∈ l, okV d v = true) ∧
      OwnI w' w.heap.size 3 .i64 (.slice A l.length c) l ∧ TapeB w' B g ∧ w.grownBy w' (some g) := by
  have HN7 := Lib.hid (fun W (hW : TapeB W B g) => next_any hW 7 (by omega) (by omega))
  have HN1 := Lib.hid (fun W (hW : TapeB W B g) => next_any hW 1048576 (by omega) (by omega))
  have HT := Lib.hid h
  have p1 := (pow_16 (k := d) (by omega) (by omega)).2.1
  have p0 := (pow_16 (k := d) (by omega) (by omega)).1
  go_enter Try.func39, Try.ntmps39
  go_wp2_with (first
    | (go_at_call 11; (with_reducible refine (HN7.out _ HT.out).mono ?_); rintro e w1 ⟨r1, rfl, hr1, hT1, hg1⟩)
    | (go_at_call 11; (with_reducible refine (HN1.out _ hT1).mono ?_); rintro e w2 ⟨r2, rfl, hr2, hT2, hg2⟩))
  have HO := Lib.hid (show ∀ v : Int, 0 ≤ v → v < 2 ^ d → okV d v = true from fun v h1 h2 => by
    have e : (d : Int).toNat = d := rfl
    rw [okV, decide_eq_true_eq, e]
    exact ⟨h1, h2⟩)
  generalize (2 : Int) ^ d = m at *
  have hgg := only_trans hg1 hg2
  obtain ⟨k1, hk1⟩ : ∃ k1 : Int, k1 = (r1 : Int) := ⟨_, rfl⟩
  rw [← hk1]
  have hk0 : 0 ≤ k1 ∧ k1 < 7 := by omega
  clear hk1 hr1
  have hsz : w.heap.size ≤ w2.heap.size := hgg.size
  have hT := hT2.alloc (.cells #[.int .i64 (r2 : Int)] 88)
  have hgl := hT2.lt
  obtain ⟨gr, hgr⟩ : ∃ gr, gr = w2.heap.size := ⟨_, rfl⟩
  have hbr := Blk.new w2 88 #[.int .i64 (r2 : Int)]
  have hga := only_alloc hgg (.cells #[.int .i64 (r2 : Int)] 88)
  rw [← hgr] at hbr hsz hgl
  rw [← hgr]
  generalize w2.alloc (.cells #[.int .i64 (r2 : Int)] 88) = wa at *
  obtain ⟨N, hN⟩ : ∃ N : Nat, (W : Int) * (H : Int) = N := ⟨W * H, by simp⟩
  have hN' : W * H = N := by
    have : ((W * H : Nat) : Int) = N := by rw [← hN]; simp
    omega
  have hNb := mul_64 (a := W) (b := H) (by omega) (by omega)
  rw [hN] at hNb
  have hHN := Lib.hid hN'
  clear hN' hgr
  go_loopw [13, 14] (fun u i wr => ∃ (l : List Int) (s : Int), l.length ≤ N ∧ i = .int .i64 l.length ∧ (∀ v ∈ l, okV d v = true) ∧ OwnI wr (gr + 1) 3 .i64 u l ∧ TapeB wr B g ∧ Blk wr gr 88 #[.int .i64 s] ∧ w.grownBy wr (some g)) (fun _ i _ => N - (intOf i).toNat)
  case atStart => exact ⟨[], _, Nat.zero_le _, rfl, by simp, OwnI.nil_ _ _ _ _, hT, hbr, hga⟩
  case round =>
    obtain ⟨l, s, hl, rfl, hok, hown, hTr, hbs, hgw⟩ := hrel
    obtain ⟨A, c, rfl, hc, hrd, hA⟩ := hown.form
    by_cases hlt : l.length < N
    · have hOK := Lib.hid hok
      clear hok
      obtain ⟨xn, hxn⟩ : ∃ xn : Nat, xn = l.length % W := ⟨_, rfl⟩
      obtain ⟨yn, hyn⟩ : ∃ yn : Nat, yn = l.length / W := ⟨_, rfl⟩
      have e1 : (l.length : Int).tmod (W : Int) = (xn : Int) := by rw [hxn]; rfl
      have e2 : (l.length : Int).tdiv (W : Int) = (yn : Int) := by rw [hyn]; rfl
      have hx : xn < 64 := by have := Nat.mod_lt l.length (show 0 < W by omega); omega
      have hy : yn < 64 := by have := Nat.div_lt_of_lt_mul (show l.length < W * H by rw [hHN.out]; exact hlt); omega
      have hW0 : (W : Int) ≠ 0 := by omega
      have hm0 : m ≠ 0 := by omega
      clear hxn hyn
      have hX0 : (0 : Int) ≤ (xn : Int) * (xn : Int) ∧ (xn : Int) * (xn : Int) ≤ 4096 := by
        have h1 : xn * xn ≤ 64 * 64 := Nat.mul_le_mul (by omega) (by omega)
        have h2 : ((xn * xn : Nat) : Int) = (xn : Int) * (xn : Int) := by simp
        omega
      have hY0 : (0 : Int) ≤ (yn : Int) * (yn : Int) ∧ (yn : Int) * (yn : Int) ≤ 4096 := by
        have h1 : yn * yn ≤ 64 * 64 := Nat.mul_le_mul (by omega) (by omega)
        have h2 : ((yn * yn : Nat) : Int) = (yn : Int) * (yn : Int) := by simp
        omega
      go_wp2
      go_quiet (fail)
      have hown := hown.drewN nq
      have hTr := hTr.drewN nq
      have hbs := hbs.drewN nq
      have hgw := only_drewN hgw nq
      obtain ⟨wD, hwD⟩ : ∃ wD, wD = wr.drewN nq := ⟨_, rfl⟩
      rw [← hwD] at hown hTr hbs hgw
      rw [← hwD]
      clear hwD hrd hA hc
      rcases (show k1 = 0 ∨ k1 = 1 ∨ k1 = 2 ∨ k1 = 3 ∨ k1 = 4 ∨ k1 = 5 ∨ k1 = 6 by omega) with rfl | rfl | rfl | rfl | rfl | rfl | rfl
      all_goals
        go_wp2_with (first
          | (go_at_call 61; refine (rownext_any hbs _ (by omega) (by omega)).mono ?_; rintro e w3 ⟨r3, s3, rfl, hr3, hbs3, hg3⟩; have hown := hown.only hg3 (by omega); have hTr := hTr.keep hg3 (by omega) (by have := hTr.ge; omega); have hgw := grown_new hgw hg3 hsz; have hbs := hbs3; clear hbs3 hg3)
          | (at_builtin; refine wpList_push_int _ rfl (.tmp 98) (.tmp 102) _ rfl _ (gr + 1) (gr + 1) 3 .i64 8 Try.underlying22 info_int _ l (by rfl) hown _ _ _ (by rfl) (by rfl) (by omega) (by omega) (Below.refl _ _) (Nat.le_refl _) hbs.lt ?_; intro v4 w4 hown4 hbw4))
      all_goals
        have hbs4 := hbs.below hbw4 (by omega)
        have hTr4 := hTr.below hbw4 (by omega)
        have hgw4 := only_then_below hgw hbw4 (by omega)
        refine ⟨⟨_, _, by simp; omega, by simp, fun v hv => ?_, hown4, hTr4, hbs4, hgw4⟩, by simp [intOf]; omega⟩
        rw [List.mem_append, List.mem_singleton] at hv
        rcases hv with hv | rfl
        · exact hOK.out _ hv
        · exact HO.out _ (Int.emod_nonneg _ (by omega)) (Int.emod_lt_of_pos _ (by omega))
    · have hlN : l.length = N := by omega
      have hlN2 : ¬ (l.length : Int) < (N : Int) := by omega
      go_wp2
      go_ret
      exact ⟨A, c, l, by rw [hlN]; rfl, by rw [hHN.out]; exact hlN, hok, hown.base_ (by omega), hTr, hgw⟩
end Go.Proofs.Ytbbflddhbamjbaa
