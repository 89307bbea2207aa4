/- The reference's HueCost. -/
import Derived.Test.YticjiodnolngcaaHueR1
import Derived.Test.YticjiodnolngcaaPicRIs
set_option linter.unusedSimpArgs false
set_option linter.unusedVariables false
namespace Go.Proofs.Yticjiodnolngcaa
open Go.RowKit

set_option maxHeartbeats 4000000 in
theorem rcost_any {w : World} {B W H d : Nat} {p : List (List Int)} {A : Option Addr} {c : Nat} (hr : RdLL w B .i64 A p) (hB : B ≤ w.heap.size) (hI : isB ⟨(W : Int), (H : Int), (d : Int), p⟩ = true) :
    Calls Try.prog 26 #[.agg #[.int .i64 (W : Int), .int .i64 (H : Int), .int .i64 (d : Int), .slice A p.length c]] w fun e w' => e = .returned (.int .i64 (cstLL W d p p.length)) ∧ Below w.heap.size w w' := by
  have HI := Lib.hid (fun W' (hb : Below w.heap.size w W') => picis_any (q := ⟨(W : Int), (H : Int), (d : Int), p⟩) (c := c) (hr.to hB hb) (Nat.le_refl _) (small_63 (isB_small hI)))
  rw [hI] at HI
  obtain ⟨b1, b2, b3, b4, b5, b6, b7, b8, b9⟩ := isB_all hI
  have hd : 1 ≤ (d : Int) ∧ (d : Int) ≤ 16 := ⟨b5, b6⟩
  have hWHm : W * H ≤ 4096 := Nat.mul_le_mul (show W ≤ 64 by omega) (show H ≤ 64 by omega)
  have H9 := Lib.hid (show ∀ l ∈ p, l.length ≤ 4096 ∧ ∀ v ∈ l, 0 ≤ v ∧ v ≤ 65535 from fun l hl => ⟨by have := (b9 l hl).1; omega, fun v hv => by
    have h := (b9 l hl).2 v hv
    have hp := (pow_16 (k := d) (by omega) (by omega)).2.1
    simp only [okV, decide_eq_true_eq, Int.toNat_natCast] at h
    omega⟩)
  have HBd := Lib.hid (fun j hj => cstLL_bd (W := W) hd (fun l hl => (H9.out l hl).1) j hj)
  have HFR := Lib.hid (fun v => foldP_range hd v)
  have HFB := Lib.hid (fun v => farI_bd hd v)
  clear b9 hI hWHm
  go_enter Try.func26, Try.ntmps26
  go_wp2_with (first
    | (go_at_call 20; go_must (refine (HI.out _ (by repeat (first | exact Below.refl _ _ | assumption | refine Below.drew ?_ | refine below_drewN ?_ _ | refine below_alloc ?_ _))).mono ?_); rintro e w1 ⟨rfl, hb1⟩; have k1 := (Blk.new w 27 #[.int .i64 (W : Int), .int .i64 (H : Int), .int .i64 (d : Int), .slice A p.length c]).below hb1 (by simp); obtain ⟨y0, y1, y2, y3, _⟩ := k1.four; have bb1 := below_then (below_alloc (Below.refl w.heap.size w) _) hb1))
  have hr1 := hr.to hB bb1
  obtain ⟨wb, hwb⟩ : ∃ wb, wb = w1 := ⟨_, rfl⟩
  subst hwb
  clear hr HI hb1
  go_loopw [3, 4] (fun s i wr => ∃ j m : Nat, j ≤ p.length ∧ i = .int .i64 j ∧ s = .int .i64 (cstLL W d p j) ∧ wr = wb.drewN m) (fun _ i _ => p.length - (intOf i).toNat)
  case atStart => exact ⟨0, 0, Nat.zero_le _, rfl, rfl, rfl⟩
  case round =>
    obtain ⟨j, m, hj, rfl, rfl, rfl⟩ := hrel
    obtain ⟨s0, s1⟩ := HBd.out j hj
    by_cases hlt : j < p.length
    · obtain ⟨ad, Aj, cj, rfl, hadB, hcell, hcj, hrj⟩ := hr1 j hlt
      obtain ⟨hl1, hl2⟩ := H9.out _ (mem_getD hlt)
      have HS := Lib.hid (show cstLL W d p (j + 1) = cstLL W d p j + cstRow W d (p.getD j []) (p.getD j []).length from rfl)
      have s2 : cstLL W d p j ≤ 134217728 * 4 := by omega
      clear s1
      generalize cstLL W d p j = s at *
      generalize p.getD j [] = l at *
      have hl2 := Lib.hid hl2
      have HR := Lib.hid (fun k => cstRow_bd (W := W) hd l k)
      go_wp2
      go_loopw [3, 6, 5] (fun u i f wr => ∃ k m2 : Nat, k ≤ l.length ∧ i = .int .i64 k ∧ u = .int .i64 (s + cstRow W d l k) ∧ f = .int .i64 (if k = 0 then 0 else l.getD (k - 1) 0) ∧ wr = wb.drewN m2) (fun _ i _ _ => l.length - (intOf i).toNat)
      case atStart => exact ⟨0, m, Nat.zero_le _, rfl, by simp [cstRow], rfl, rfl⟩
      case round =>
        obtain ⟨k, m2, hk, rfl, rfl, rfl, rfl⟩ := hrel
        obtain ⟨t0, t1⟩ := HR.out k
        have t2 : cstRow W d l k ≤ 134217728 := by omega
        by_cases hkl : k < l.length
        · obtain ⟨ad2, rfl, _, hel⟩ := hrj.at_ hkl
          have HT := Lib.hid (show cstRow W d l (k + 1) = cstRow W d l k + farI (foldP (l.getD k 0 - leftI W l k) d) from rfl)
          obtain ⟨v0, v1⟩ := hl2.out (l.getD k 0) (by simp [List.getD, hkl])
          have hmod : (k : Int) % (W : Int) = ((k % W : Nat) : Int) := (Int.natCast_emod k W).symm
          have htm : (k : Int).tmod (W : Int) = ((k % W : Nat) : Int) := rfl
          have hW0 : (W : Int) ≠ 0 := by omega
          obtain ⟨f, hf⟩ : ∃ f : Int, f = if k = 0 then 0 else l.getD (k - 1) 0 := ⟨_, rfl⟩
          rw [← hf]
          have hfb : 0 ≤ f ∧ f ≤ 65535 := by
            rw [hf]
            split
            · omega
            · exact hl2.out _ (by simp [List.getD, show k - 1 < l.length by omega])
          obtain ⟨f0, f1⟩ := hfb
          have HNx := Lib.hid (show (if k + 1 = 0 then (0 : Int) else l.getD (k + 1 - 1) 0) = l.getD k 0 by rw [if_neg (by omega)]; rfl)
          obtain ⟨lf, hlf⟩ : ∃ lf, lf = leftI W l k := ⟨_, rfl⟩
          have hlfb : 0 ≤ lf ∧ lf ≤ 65535 ∧ (¬ k % W = 0 → lf = f) ∧ (k % W = 0 → lf = 0) := by
            rw [hlf, leftI]
            by_cases hz : k % W = 0
            · rw [if_pos hz]
              exact ⟨by omega, by omega, fun h => absurd hz h, fun _ => rfl⟩
            · rw [if_neg hz]
              have hk0 : ¬ k = 0 := by
                rintro rfl
                simp at hz
              rw [if_neg hk0] at hf
              rw [← hf]
              exact ⟨f0, f1, fun _ => rfl, fun h => absurd h hz⟩
          obtain ⟨q0, q1, q2, q3⟩ := hlfb
          rw [← hlf] at HT
          replace hlf := Lib.hid hlf
          replace hf := Lib.hid hf
          generalize l.getD k 0 = v at *
          obtain ⟨g0, g1⟩ := HFR.out (v - lf)
          obtain ⟨h0, h1⟩ := HFB.out (v - lf)
          have HFo := Lib.hid (fun n => quiet_add_left (a := m2) (foldref_any (v - lf) d (wb.drewN (m2 + n))))
          have HFa := Lib.hid (fun n => quiet_add_left (a := m2) (far_any (foldP (v - lf) d) (by omega) (by omega) (wb.drewN (m2 + n))))
          have zs := IntWalk.i64_in (v - lf) (by omega)
          generalize foldP (v - lf) d = fo at *
          generalize farI fo = fa at *
          generalize cstRow W d l k = u at *
          have zt := IntWalk.i64_in (s + u + fa) (by omega)
          have hkb : (k : Int) < (l.length : Int) := by omega
          have hjb : (j : Int) < (p.length : Int) := by omega
          clear t1
          by_cases hz : k % W = 0
          · obtain rfl := q3 hz
            clear q2 q3
            rw [hz] at hmod htm
            simp only [Int.sub_zero] at HFo zs
            go_wp2
            go_quiet (first
              | (go_at_call 42; with_reducible exact HFo.out _)
              | (go_at_call 41; with_reducible exact HFa.out _))
            go_wp2
            go_roundw
            case rel => exact ⟨k + 1, m2 + nq, by omega, by go_num, by rw [HT.out]; go_num, by rw [HNx.out], rfl⟩
            case measure => simp [intOf]; omega
          · obtain rfl := q2 hz
            clear q2 q3
            have hpos : ((((k % W : Nat) : Int)) == 0) = false := by rw [beq_eq_false_iff_ne]; omega
            generalize k % W = r at *
            go_wp2
            go_quiet (first
              | (go_at_call 42; with_reducible exact HFo.out _)
              | (go_at_call 41; with_reducible exact HFa.out _))
            go_wp2
            go_roundw
            case rel => exact ⟨k + 1, m2 + nq, by omega, by go_num, by rw [HT.out]; go_num, by rw [HNx.out], rfl⟩
            case measure => simp [intOf]; omega
        · obtain rfl : k = l.length := by omega
          go_wp2
          go_roundw
          case rel => exact ⟨j + 1, m2, by omega, by go_num, by rw [HS.out], rfl⟩
          case measure => simp [intOf]; omega
    · obtain rfl : j = p.length := by omega
      go_wp2
      go_ret
      exact ⟨rfl, below_drewN bb1 m⟩
end Go.Proofs.Yticjiodnolngcaa
