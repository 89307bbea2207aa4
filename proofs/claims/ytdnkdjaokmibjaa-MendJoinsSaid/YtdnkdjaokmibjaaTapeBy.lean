/- Tape.Bytes. -/
import Derived.Test.YtdnkdjaokmibjaaTapeN
import Derived.Test.YtdnkdjaokmibjaaDat
import Derived.Test.YtdnkdjaokmibjaaOctInfo
set_option linter.unusedSimpArgs false
set_option linter.unusedVariables false
namespace Go.Proofs.Ytdnkdjaokmibjaa
open Go.RowKit

theorem and_31 (c : Int) : 0 ≤ bits .and .i64 c 2147483647 ∧ bits .and .i64 c 2147483647 ≤ 2147483647 := by
  have h1 : (BitVec.ofInt 64 c &&& BitVec.ofInt 64 2147483647).toNat ≤ 2147483647 := by
    rw [BitVec.toNat_and]
    exact Nat.and_le_right
  have h2 : bits .and .i64 c 2147483647 = IntKind.i64.wrap ((BitVec.ofInt 64 c &&& BitVec.ofInt 64 2147483647).toNat : Int) := rfl
  rw [h2, IntKind.wrap_i64]
  omega

set_option maxHeartbeats 1000000 in
theorem rownext_any {w : World} {g : Nat} {s : Int} (h : Blk w g 110 #[.int .i64 s]) (ni : Int) (n0 : 1 ≤ ni) (n1 : ni ≤ 1073741824) :
    Calls Try.prog 63 #[.pointer (some ⟨g, 0, none⟩), .int .i64 ni] w fun e w' => ∃ (r : Nat) (s' : Int), e = .returned (.int .i64 (r : Int)) ∧ (r : Int) < ni ∧ Blk w' g 110 #[.int .i64 s'] ∧ w.grownBy w' (some g) := by
  obtain ⟨n, rfl⟩ := Int.eq_ofNat_of_zero_le (show 0 ≤ ni by omega)
  have k0 := h.cell 0
  have f0 := h.frozen 0
  have hne : (n : Int) ≠ 0 := by omega
  have HB := fun c => Lib.hid (and_31 c)
  go_enter Try.func63, Try.ntmps63
  go_wp2
  have HB2 := (HB (wrap64 (wrap64 (s * 1103515245) + 12345))).out
  generalize bits BinOp.and IntKind.i64 (wrap64 (wrap64 (s * 1103515245) + 12345)) 2147483647 = b at *
  obtain ⟨bn, hbn⟩ := Int.eq_ofNat_of_zero_le (show 0 ≤ b / 256 by omega)
  go_ret
  rw [hbn]
  exact ⟨bn % n, b, rfl, by have := Nat.mod_lt bn (show 0 < n by omega); omega, h.set_ 0 _, only_setCell (only_refl _ _) (.inl rfl) _⟩

theorem grown_new {a b c : World} {row : Option Nat} {x : Nat} (h : a.grownBy b row) (k : b.grownBy c (some x)) (hx : a.heap.size ≤ x) : a.grownBy c row :=
  ⟨k.os.trans h.os, k.tape.trans h.tape, k.output.trans h.output, Nat.le_trans h.size k.size, fun i hi hne => (k.block i (Nat.lt_of_lt_of_le hi h.size) (by simp; omega)).trans (h.block i hi hne)⟩
theorem only_then_below {a b c : World} {row : Option Nat} {B : Nat} (h : a.grownBy b row) (k : Below B b c) (hB : a.heap.size ≤ B) : a.grownBy c row :=
  ⟨k.os.trans h.os, k.tape.trans h.tape, k.output.trans h.output, Nat.le_trans h.size k.size, fun i hi hne => (k.block i (by omega)).trans (h.block i hi hne)⟩

end Go.Proofs.Ytdnkdjaokmibjaa

namespace Go.Proofs.Ytdnkdjaokmibjaa
open Go.RowKit

theorem tapeB_put {w : World} {B g b o : Nat} {u : Value} (h : TapeB w B g) (hb : B ≤ b) (hne : g ≠ b) : TapeB (w.setCell ⟨b, o, none⟩ u) B g := h.far hb hne u
theorem only_put {a w : World} {g b o : Nat} {u : Value} (h : a.grownBy w (some g)) (hb : a.heap.size ≤ b) : a.grownBy (w.setCell ⟨b, o, none⟩ u) (some g) := only_setCell h (.inr hb) u

set_option maxHeartbeats 2000000 in
set_option maxRecDepth 100000 in
theorem tapebytes_any {w : World} {B g : Nat} (h : TapeB w B g) (m : Int) (m0 : 0 ≤ m) (m1 : m ≤ 100000) :
    Calls Try.prog 44 #[.pointer (some ⟨g, 0, none⟩), .int .i64 m] w fun e w' => ∃ v l, e = .returned v ∧ (l.length : Int) ≤ m ∧ (∀ x ∈ l, 0 ≤ x ∧ x ≤ 255) ∧
      OwnI w' w.heap.size 5 .u8 v l ∧ TapeB w' B g ∧ w.grownBy w' (some g) := by
  have HN1 := Lib.hid (fun W (hW : TapeB W B g) => next_any hW 1048576 (by omega) (by omega))
  have HN2 := Lib.hid (fun W (hW : TapeB W B g) => next_any hW (m + 1) (by omega) (by omega))
  have HT := Lib.hid h
  have hgl := h.lt
  have hBg := h.ge
  go_enter Try.func44, Try.ntmps44
  go_wp2_with (first
    | (go_at_call 17; (with_reducible refine (HN1.out _ HT.out).mono ?_); rintro e w1 ⟨r1, rfl, hr1, hT1, hg1⟩; have hT2 := hT1.alloc (.cells #[.int .i64 (r1 : Int)] 110))
    | (go_at_call 17; (with_reducible refine (HN2.out _ hT2).mono ?_); rintro e w2 ⟨r2, rfl, hr2, hT3, hg2⟩))
  have hsz : w.heap.size ≤ w1.heap.size := hg1.size
  have hbr := (Blk.new w1 110 #[.int .i64 (r1 : Int)]).grown hg2 (by simp; omega)
  have hga := only_trans (only_alloc hg1 (.cells #[.int .i64 (r1 : Int)] 110)) hg2
  generalize w1.heap.size = gr at *
  clear hT1 hT2 hg1 hg2
  obtain ⟨N, hN⟩ : ∃ N : Nat, N = r2 := ⟨_, rfl⟩
  rw [← hN]
  have hNm : (N : Int) ≤ m := by omega
  clear hN
  go_loopw [6, 7] (fun u i wr => ∃ (l : List Int) (s : Int), l.length ≤ N ∧ i = .int .i64 ((N : Int) - (l.length : Int)) ∧ (∀ v ∈ l, 0 ≤ v ∧ v ≤ 255) ∧ OwnI wr (gr + 1) 5 .u8 u l ∧ TapeB wr B g ∧ Blk wr gr 110 #[.int .i64 s] ∧ w.grownBy wr (some g)) (fun _ i _ => (intOf i).toNat)
  case atStart => exact ⟨[], _, Nat.zero_le _, by simp, by simp, OwnI.nil_ _ _ _ _, hT3, hbr, hga⟩
  case round =>
    obtain ⟨l, s, hl, rfl, hok, hown, hTr, hbs, hgw⟩ := hrel
    have hOK := Lib.hid hok
    clear hok
    obtain ⟨A, c, rfl, hc, hrd, hA⟩ := hown.form
    by_cases hlt : l.length < N
    · have hp : decide (0 < (N : Int) - (l.length : Int)) = true := by simp; omega
      go_wp2_with (first
        | (go_at_call 63; (with_reducible refine (rownext_any hbs 256 (by omega) (by omega)).mono ?_); rintro e w3 ⟨r3, s3, rfl, hr3, hbs3, hg3⟩; have hown3 := hown.only hg3 (by omega); have hTr3 := hTr.keep hg3 (by omega) (by omega); have hgw3 := grown_new hgw hg3 hsz)
        | (at_builtin; go_must (refine wpList_push_int _ rfl (.tmp 20) (.tmp 24) _ rfl _ (gr + 1) (gr + 1) 5 .u8 1 Try.underlying31 info_u8 _ l (by rfl) hown3 _ _ (r3 : Int) (by rfl) (by rfl) (by omega) (by omega) (Below.refl _ _) (Nat.le_refl _) hbs3.lt ?_); intro v4 w4 hown4 hbw4))
      have hbs4 := hbs3.below hbw4 (by omega)
      have hTr4 := hTr3.below hbw4 (by omega)
      have hgw4 := only_then_below hgw3 hbw4 (by omega)
      go_roundw
      case rel =>
        refine ⟨l ++ [(r3 : Int)], _, by simp; omega, by simp; omega, fun v hv => ?_, hown4, hTr4, hbs4, hgw4⟩
        rw [List.mem_append, List.mem_singleton] at hv
        rcases hv with hv | rfl
        · exact hOK.out _ hv
        · omega
      case measure => simp [intOf]; omega
    · have hp : decide (0 < (N : Int) - (l.length : Int)) = false := by simp; omega
      go_wp2
      go_ret
      exact ⟨_, l, rfl, by omega, hOK.out, hown.base_ (by omega), hTr, hgw⟩
end Go.Proofs.Ytdnkdjaokmibjaa
