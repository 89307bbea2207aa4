/- pic.Sum. -/
import Derived.Test.YtbmgnclfecejeaaSums
import Derived.Test.YtbmgnclfecejeaaPicCopy
import Derived.Test.YtbmgnclfecejeaaOctInfo
set_option linter.unusedSimpArgs false
set_option linter.unusedVariables false
namespace Go.Proofs.Ytbmgnclfecejeaa
open Go.RowKit

/-- The bytes of a plane, of a picture. -/
def pl2 (l : List Int) : List Int := l.flatMap fun v => [v / 256, v % 256]
def sumP (p : List (List Int)) : List Int := p.flatMap pl2
def sumL (q : Pc) : List Int := [q.w, q.h, q.d, (q.p.length : Int)] ++ sumP q.p
def sumV (q : Pc) : Int := if isB q = true then crc (sumL q) else 0

theorem pl2_length (l : List Int) : (pl2 l).length = 2 * l.length := by
  induction l with
  | nil => rfl
  | cons v l ih => simp only [pl2, List.flatMap_cons, List.length_append, List.length_cons, List.length_nil] at *; omega
theorem pl2_snoc (l : List Int) (v : Int) : pl2 (l ++ [v]) = pl2 l ++ [v / 256, v % 256] := by simp [pl2]
theorem sumP_snoc (p : List (List Int)) (l : List Int) : sumP (p ++ [l]) = sumP p ++ pl2 l := by simp [sumP]
theorem sumP_length {p : List (List Int)} (h : ∀ l ∈ p, l.length ≤ 4096) : (sumP p).length ≤ 8192 * p.length := by
  induction p with
  | nil => simp [sumP]
  | cons l p ih =>
    have h1 := h l (by simp)
    have h2 := ih (fun x hx => h x (by simp [hx]))
    have h3 := pl2_length l
    simp only [sumP, List.flatMap_cons, List.length_append, List.length_cons] at *
    omega
theorem pl2_byte {l : List Int} (h : ∀ v ∈ l, 0 ≤ v ∧ v < 65536) : ∀ x ∈ pl2 l, 0 ≤ x ∧ x ≤ 255 := by
  intro x hx
  simp only [pl2, List.mem_flatMap, List.mem_cons, List.not_mem_nil, or_false] at hx
  obtain ⟨v, hv, hx⟩ := hx
  have := h v hv
  omega
theorem sumP_byte {p : List (List Int)} (h : ∀ l ∈ p, ∀ v ∈ l, 0 ≤ v ∧ v < 65536) : ∀ x ∈ sumP p, 0 ≤ x ∧ x ≤ 255 := by
  intro x hx
  simp only [sumP, List.mem_flatMap] at hx
  obtain ⟨l, hl, hx⟩ := hx
  exact pl2_byte (h l hl) x hx
theorem isB_sum {q : Pc} (h : isB q = true) : (1 ≤ q.w ∧ q.w ≤ 64) ∧ (1 ≤ q.h ∧ q.h ≤ 64) ∧ (1 ≤ q.d ∧ q.d ≤ 16) ∧ (1 ≤ q.p.length ∧ q.p.length ≤ 4) ∧ (∀ l ∈ q.p, l.length ≤ 4096 ∧ (l.length : Int) = q.w * q.h ∧ ∀ v ∈ l, 0 ≤ v ∧ v < 65536) := by
  rw [isB, Bool.and_eq_true] at h
  obtain ⟨h1, h2⟩ := h
  simp only [possB, decide_eq_true_eq] at h1
  obtain ⟨b1, b2, b3, b4, b5, b6, b7, b8⟩ := h1
  have hm := mul_64 ⟨b1, b2⟩ ⟨b3, b4⟩
  refine ⟨by omega, by omega, by omega, by omega, fun l hl => ?_⟩
  rw [List.all_eq_true] at h2
  have h3 := h2 l hl
  rw [okPl, Bool.and_eq_true, decide_eq_true_eq, List.all_eq_true] at h3
  refine ⟨by omega, h3.1, fun v hv => ?_⟩
  have h4 := h3.2 v hv
  simp only [okV, decide_eq_true_eq] at h4
  have hp := (pow_16 (k := q.d.toNat) (by omega) (by omega)).2.1
  omega
theorem sumL_byte {q : Pc} (h : isB q = true) : ∀ x ∈ sumL q, 0 ≤ x ∧ x ≤ 255 := by
  obtain ⟨h1, h2, h3, h4, h5⟩ := isB_sum h
  intro x hx
  rcases List.mem_append.1 hx with hx | hx
  · simp only [List.mem_cons, List.not_mem_nil, or_false] at hx
    omega
  · exact sumP_byte (fun l hl => (h5 l hl).2.2) x hx
theorem OwnI.lit (w : World) (base : Nat) (e : TypeId) (k : IntKind) (l : List Int) (cs : Array Value) (h : cs.toList = ic k l) (hb : base ≤ w.heap.size) (hm : l.length ≤ maxLen) : OwnI (w.alloc (.cells cs e)) base e k (.slice (some ⟨w.heap.size, 0, none⟩) l.length l.length) l := by
  have hs : cs.size = l.length := by rw [← Array.length_toList, h, ic_length]
  exact ⟨by simp [ic_length], .inr ⟨w.heap.size, l.length, cs, rfl, hb, heap_alloc_new w _, Nat.le_refl _, hm, by omega, by rw [Nat.mul_one, ← hs, ← h, ← Array.length_toList, List.take_length]⟩⟩
theorem u8_mod (v : Int) : IntKind.u8.wrap v = v % 256 := IntKind.wrap_u8' v

set_option maxHeartbeats 8000000 in
theorem sum_any {w : World} {B : Nat} {q : Pc} {A : Option Addr} {c : Nat} (hr : RdLL w B .i64 A q.p) (hB : B ≤ w.heap.size) :
    Calls Try.prog 18 #[.agg #[.int .i64 q.w, .int .i64 q.h, .int .i64 q.d, .slice A q.p.length c]] w fun e w' => e = .returned (.int .u32 (sumV q)) ∧ Below w.heap.size w w' := by
  have HI := Lib.hid (fun W (hb : Below w.heap.size w W) => is_any (c := c) (hr.below hb hB) (Nat.le_trans hB hb.size))
  cases hq : isB q
  · rw [hq] at HI
    have HF := Lib.hid (show sumV q = 0 by simp [sumV, hq])
    clear hq
    go_enter Try.func18, Try.ntmps18
    go_wp2_with (first
      | (go_at_call 32; go_must (refine (HI.out _ (by repeat (first | exact Below.refl _ _ | assumption | refine Below.drew ?_ | refine below_drewN ?_ _ | refine below_alloc ?_ _))).mono ?_); rintro e w1 ⟨rfl, hb1⟩; have bb1 := below_then (below_alloc (Below.refl w.heap.size w) _) hb1))
    go_ret
    exact ⟨ret_int HF.out.symm, bb1⟩
  · rw [hq] at HI
    have HF := Lib.hid (show sumV q = crc (sumL q) by simp [sumV, hq])
    have HB := Lib.hid (sumL_byte hq)
    obtain ⟨⟨b1, b1'⟩, ⟨b2, b2'⟩, ⟨b3, b3'⟩, ⟨b4, b4'⟩, b5⟩ := isB_sum hq
    clear hq
    obtain ⟨qw, qh, qd, qp⟩ := q
    simp only at *
    have H5 := Lib.hid b5
    clear b5
    go_enter Try.func18, Try.ntmps18
    go_wp2_with (first
      | (go_at_call 32; go_must (refine (HI.out _ (by repeat (first | exact Below.refl _ _ | assumption | refine Below.drew ?_ | refine below_drewN ?_ _ | refine below_alloc ?_ _))).mono ?_); rintro e w1 ⟨rfl, hb1⟩; have k1 := (Blk.new w 28 #[.int .i64 qw, .int .i64 qh, .int .i64 qd, .slice A qp.length c]).below hb1 (by simp); obtain ⟨y0, y1, y2, y3, _⟩ := k1.four; have y3a := (k1.alloc (.cells #[.int .u8 qw, .int .u8 qh, .int .u8 qd, .int .u8 (qp.length : Int)] 5)).cell 3; have bb1 := below_then (below_alloc (Below.refl w.heap.size w) _) hb1))
    have ow := OwnI.lit w1 w1.heap.size 5 .u8 [qw, qh, qd, (qp.length : Int)] #[.int .u8 qw, .int .u8 qh, .int .u8 qd, .int .u8 (qp.length : Int)] rfl (Nat.le_refl _) (by simp [maxLen])
    have bw := below_alloc (Below.refl w1.heap.size w1) (.cells #[.int .u8 qw, .int .u8 qh, .int .u8 qd, .int .u8 (qp.length : Int)] 5)
    generalize w1.alloc (.cells #[.int .u8 qw, .int .u8 qh, .int .u8 qd, .int .u8 (qp.length : Int)] 5) = wa at *
    have hbs := bb1.size
    have hr1 := hr.below bb1 hB
    clear hr y0 y1 y2 y3 y3a k1
    go_loopw [3, 28] (fun v i wr => ∃ (j : Nat), j ≤ qp.length ∧ i = .int .i64 j ∧ Below w1.heap.size w1 wr ∧ OwnI wr w1.heap.size 5 .u8 v ([qw, qh, qd, (qp.length : Int)] ++ sumP (qp.take j))) (fun _ i _ => qp.length - (intOf i).toNat)
    case atStart => exact ⟨0, Nat.zero_le _, rfl, bw, ow⟩
    case round =>
      obtain ⟨j, hj, rfl, hbr, hor⟩ := hrel
      by_cases hlt : j < qp.length
      · obtain ⟨ad, Aj, cj, rfl, hadB, hcell1, hcj, hrj⟩ := hr1 j hlt
        have hcell := (hbr.cell (p := ad.add j) (by rw [add_block]; omega)).trans hcell1
        have HE : Hid (sumP (qp.take (j + 1)) = sumP (qp.take j) ++ pl2 (qp.getD j []) ∧ (qp.getD j []).length ≤ 4096 ∧ (∀ v ∈ qp.getD j [], 0 ≤ v ∧ v < 65536) ∧ (sumP (qp.take j)).length ≤ 32768) := by
          have e : qp.getD j [] = qp[j] := by simp [List.getD, List.getElem?_eq_getElem hlt]
          have h5 := H5.out _ (List.getElem_mem hlt)
          rw [Hid, e, List.take_succ_eq_append_getElem hlt, sumP_snoc]
          refine ⟨rfl, h5.1, h5.2.2, ?_⟩
          have := sumP_length (p := qp.take j) (fun l hl => (H5.out l (List.mem_of_mem_take hl)).1)
          rw [List.length_take] at this
          omega
        have hll := HE.out.2.1
        generalize qp.getD j [] = l at *
        generalize sumP (qp.take j) = sp at *
        clear hcell1
        go_wp2
        obtain ⟨wo, hwo⟩ : ∃ wo, wo = wr := ⟨_, rfl⟩
        subst hwo
        clear hcell
        go_loopw [3, 34] (fun v i wr => ∃ (k : Nat), k ≤ l.length ∧ i = .int .i64 k ∧ Below w1.heap.size w1 wr ∧ OwnI wr w1.heap.size 5 .u8 v (([qw, qh, qd, (qp.length : Int)] ++ sp) ++ pl2 (l.take k))) (fun _ i _ => l.length - (intOf i).toNat)
        case atStart => exact ⟨0, Nat.zero_le _, rfl, hbr, by simpa [pl2] using hor⟩
        case round =>
          obtain ⟨k, hk, rfl, hb2, ho2⟩ := hrel
          by_cases hkl : k < l.length
          · obtain ⟨ad2, rfl, _, hcell2⟩ := (hrj.below hb2 (by omega)).at_ hkl
            have HS : Hid (pl2 (l.take (k + 1)) = pl2 (l.take k) ++ [l.getD k 0 / 256, l.getD k 0 % 256] ∧ (pl2 (l.take k)).length ≤ 8192) := by
              rw [Hid, take_next hkl, pl2_snoc]
              exact ⟨rfl, by rw [pl2_length, List.length_take]; omega⟩
            obtain ⟨v0, v1⟩ := HE.out.2.2.1 (l.getD k 0) (by simp [List.getD, List.getElem?_eq_getElem hkl])
            have hbyte := u8_mod (l.getD k 0)
            generalize l.getD k 0 = v at *
            generalize pl2 (l.take k) = pk at *
            have hsz2 := hb2.size
            have hlit := RdI.lit wr .u8 [v / 256, v % 256] 5 #[.int .u8 (v / 256), .int .u8 (v % 256)] rfl
            have hmem := ho2.alloc (.cells #[.int .u8 (v / 256), .int .u8 (v % 256)] 5)
            have hb3 := hb2.alloc hb2.size (.cells #[.int .u8 (v / 256), .int .u8 (v % 256)] 5)
            go_wp2_with (first
              | (at_builtin; go_must (refine wpList_append_int _ rfl (.tmp 38) (.tmp 44) _ rfl w1 w1.heap.size w1.heap.size 5 .u8 1 Try.underlying57 info_u8 _ (([qw, qh, qd, (qp.length : Int)] ++ sp) ++ pk) rfl hmem _ _ 2 2 [v / 256, v % 256] rfl rfl hlit (by have := HE.out.2.2.2; have := HS.out.2; simp; omega) (by omega) hb3 (Nat.le_refl _) hb3.size ?_); intro v4 w4 hown4 hbw4))
            go_roundw
            case rel => exact ⟨k + 1, by omega, by go_num, hbw4, by rw [HS.out.1, ← List.append_assoc]; exact hown4⟩
            case measure => simp [intOf]; omega
          · obtain rfl : k = l.length := by omega
            rw [List.take_length] at ho2
            go_wp2
            go_roundw
            case rel => exact ⟨j + 1, by omega, by go_num, hb2, by rw [HE.out.1, ← List.append_assoc]; exact ho2⟩
            case measure => simp [intOf]; omega
      · obtain rfl : j = qp.length := by omega
        rw [List.take_length] at hor
        obtain ⟨A', c', rfl, hc', hr', _⟩ := hor.form
        have HC := Lib.hid (fun W (hb : Below wr.heap.size wr W) => thirtytwo_any (c := c') HB.out (hr'.below hb (Nat.le_refl _)) (by have := sumP_length (p := qp) (fun l hl => (H5.out l hl).1); simp only [sumL, List.length_append, List.length_cons, List.length_nil]; omega))
        go_wp2_with (first
          | (go_at_call 35; go_must (refine (HC.out _ (Below.refl _ _)).mono ?_); rintro e w3 ⟨rfl, rfl⟩))
        go_ret
        exact ⟨ret_int HF.out.symm, below_then bb1 hbr⟩
end Go.Proofs.Ytbmgnclfecejeaa
