/- hue.Cost. -/
import Derived.Test.YticjiodnolngcaaHueMix
import Derived.Test.YticjiodnolngcaaPicSame
set_option linter.unusedSimpArgs false
set_option linter.unusedVariables false
namespace Go.Proofs.Yticjiodnolngcaa
open Go.RowKit

def farI (u : Int) : Int := if u < -u then -u else u
def leftI (W : Nat) (l : List Int) (k : Nat) : Int := if k % W = 0 then 0 else l.getD (k - 1) 0
def cstRow (W : Nat) (d : Int) (l : List Int) : Nat → Int
  | 0 => 0
  | k + 1 => cstRow W d l k + farI (foldP (l.getD k 0 - leftI W l k) d)
def cstLL (W : Nat) (d : Int) (p : List (List Int)) : Nat → Int
  | 0 => 0
  | j + 1 => cstLL W d p j + cstRow W d (p.getD j []) (p.getD j []).length
def costV (q : Pc) : Int := if isB q = true then cstLL q.w.toNat q.d q.p q.p.length else 0
theorem farI_bd {d : Int} (hd : 1 ≤ d ∧ d ≤ 16) (v : Int) : 0 ≤ farI (foldP v d) ∧ farI (foldP v d) ≤ 32768 := by
  have := foldP_range hd v
  unfold farI
  split <;> omega
theorem cstRow_bd {W : Nat} {d : Int} (hd : 1 ≤ d ∧ d ≤ 16) (l : List Int) : ∀ k, 0 ≤ cstRow W d l k ∧ cstRow W d l k ≤ 32768 * (k : Int)
  | 0 => by simp [cstRow]
  | k + 1 => by
    have h1 := cstRow_bd (W := W) hd l k
    have h2 := farI_bd hd (l.getD k 0 - leftI W l k)
    simp only [cstRow]
    omega
theorem cstLL_bd {W : Nat} {d : Int} (hd : 1 ≤ d ∧ d ≤ 16) {p : List (List Int)} (h : ∀ l ∈ p, l.length ≤ 4096) : ∀ j, j ≤ p.length → 0 ≤ cstLL W d p j ∧ cstLL W d p j ≤ 134217728 * (j : Int)
  | 0, _ => by simp [cstLL]
  | j + 1, hj => by
    have h1 := cstLL_bd (W := W) hd h j (by omega)
    have h2 := cstRow_bd (W := W) hd (p.getD j []) (p.getD j []).length
    have h3 := h _ (mem_getD (show j < p.length by omega))
    simp only [cstLL]
    omega

set_option maxHeartbeats 4000000 in
theorem cost_any {w : World} {B W H d : Nat} {p : List (List Int)} {A : Option Addr} {c : Nat} (hr : RdLL w B .i64 A p) (hB : B ≤ w.heap.size) (hI : isB ⟨(W : Int), (H : Int), (d : Int), p⟩ = true) :
    Calls Try.prog 15 #[.agg #[.int .i64 (W : Int), .int .i64 (H : Int), .int .i64 (d : Int), .slice A p.length c]] w fun e w' => e = .returned (.int .i64 (cstLL W d p p.length)) ∧ Below w.heap.size w w' := by
  have HI := Lib.hid (fun W' (hb : Below w.heap.size w W') => is_any (q := ⟨(W : Int), (H : Int), (d : Int), p⟩) (c := c) (hr.to hB hb) (Nat.le_refl _))
  rw [hI] at HI
  obtain ⟨b1, b2, b3, b4, b5, b6, b7, b8, b9⟩ := isB_all hI
  have hd : 1 ≤ (d : Int) ∧ (d : Int) ≤ 16 := ⟨b5, b6⟩
  have hWHm : W * H ≤ 4096 := Nat.mul_le_mul (show W ≤ 64 by omega) (show H ≤ 64 by omega)
  have H9 := Lib.hid (show ∀ l ∈ p, l.length ≤ 4096 ∧ ∀ v ∈ l, 0 ≤ v ∧ v ≤ 65535 from fun l hl => ⟨by have := (b9 l hl).1; omega, fun v hv => by
    have h := (b9 l hl).2 v hv
    have hp := (pow_16 (k := d) (by omega) (by omega)).2.1
    simp only [okV, decide_eq_true_eq, Int.toNat_natCast] at h
    omega⟩)
  have HF := Lib.hid (fun v W' => fold_hid v d hd W')
  have HBd := Lib.hid (fun j hj => cstLL_bd (W := W) hd (fun l hl => (H9.out l hl).1) j hj)
  clear b9 hI hWHm
  go_enter Try.func15, Try.ntmps15
  go_wp2_with (first
    | (go_at_call 30; go_must (refine (HI.out _ (by repeat (first | exact Below.refl _ _ | assumption | refine Below.drew ?_ | refine below_drewN ?_ _ | refine below_alloc ?_ _))).mono ?_); rintro e w1 ⟨rfl, hb1⟩; have k1 := (Blk.new w 27 #[.int .i64 (W : Int), .int .i64 (H : Int), .int .i64 (d : Int), .slice A p.length c]).below hb1 (by simp); obtain ⟨y0, y1, y2, y3, _⟩ := k1.four; have bb1 := below_then (below_alloc (Below.refl w.heap.size w) _) hb1))
  have hr1 := hr.to hB bb1
  obtain ⟨wb, hwb⟩ : ∃ wb, wb = w1 := ⟨_, rfl⟩
  subst hwb
  clear hr HI hb1
  go_loop [3, 16] (fun s i => ∃ j : Nat, j ≤ p.length ∧ i = .int .i64 j ∧ s = .int .i64 (cstLL W d p j)) (fun _ i => p.length - (intOf i).toNat)
  case atStart => exact ⟨0, Nat.zero_le _, rfl, rfl⟩
  case round =>
    obtain ⟨j, hj, rfl, rfl⟩ := hrel
    obtain ⟨s0, s1⟩ := HBd.out j hj
    by_cases hlt : j < p.length
    · obtain ⟨ad, Aj, cj, rfl, hadB, hcell, hcj, hrj⟩ := hr1 j hlt
      obtain ⟨hl1, hl2⟩ := H9.out _ (mem_getD hlt)
      have HS := Lib.hid (show cstLL W d p (j + 1) = cstLL W d p j + cstRow W d (p.getD j []) (p.getD j []).length from rfl)
      have s2 : cstLL W d p j ≤ 134217728 * 4 := by omega
      clear s1
      generalize cstLL W d p j = s at *
      generalize p.getD j [] = l at *
      have hl2 := Lib.hid hl2
      have HR := Lib.hid (fun k => cstRow_bd (W := W) hd l k)
      go_wp2
      go_loop [3, 22] (fun u i => ∃ k : Nat, k ≤ l.length ∧ i = .int .i64 k ∧ u = .int .i64 (s + cstRow W d l k)) (fun _ i => l.length - (intOf i).toNat)
      case atStart => exact ⟨0, Nat.zero_le _, rfl, by simp [cstRow]⟩
      case round =>
        obtain ⟨k, hk, rfl, rfl⟩ := hrel
        obtain ⟨t0, t1⟩ := HR.out k
        have t2 : cstRow W d l k ≤ 134217728 := by omega
        by_cases hkl : k < l.length
        · obtain ⟨ad2, rfl, _, hel⟩ := hrj.at_ hkl
          have HT := Lib.hid (show cstRow W d l (k + 1) = cstRow W d l k + farI (foldP (l.getD k 0 - leftI W l k) d) from rfl)
          obtain ⟨v0, v1⟩ := hl2.out (l.getD k 0) (by simp [List.getD, hkl])
          have hmod : (k : Int) % (W : Int) = ((k % W : Nat) : Int) := (Int.natCast_emod k W).symm
          have htm : (k : Int).tmod (W : Int) = ((k % W : Nat) : Int) := rfl
          have hW0 : (W : Int) ≠ 0 := by omega
          by_cases hz : k % W = 0
          · have HLf := Lib.hid (show leftI W l k = 0 by rw [leftI, if_pos hz])
            rw [hz] at hmod htm
            generalize l.getD k 0 = v at *
            generalize cstRow W d l k = u at *
            clear t1 hz
            go_wp2_with (first
              | (go_at_call 33; go_must (refine (HF.out _ _).mono ?_); rintro e w3 ⟨x, rfl, x0, x1, hx, rfl⟩))
            all_goals
              go_round
              case rel => exact ⟨k + 1, by omega, by go_num, by rw [HT.out, HLf.out, (show ∀ a b c : Int, a + (b + c) = a + b + c from fun a b c => by omega)]; (try rw [Int.sub_zero]); rw [← hx.out, farI]⟩
              case measure => simp [intOf]; omega
          · have HLf := Lib.hid (show leftI W l k = l.getD (k - 1) 0 by rw [leftI, if_neg hz])
            have hk0 : 0 < k := by
              rcases Nat.eq_zero_or_pos k with h0 | h0
              · subst h0
                simp at hz
              · exact h0
            obtain ⟨ad3, ha3, _, hel2⟩ := hrj.at_ (j := k - 1) (by omega)
            simp only [Option.some.injEq] at ha3
            subst ha3
            obtain ⟨z0, z1⟩ := hl2.out (l.getD (k - 1) 0) (by simp [List.getD, show k - 1 < l.length by omega])
            have hk1 : (k : Int) - 1 = ((k - 1 : Nat) : Int) := by omega
            have hpos : (0 : Int) < ((k % W : Nat) : Int) := by omega
            generalize k % W = r at *
            generalize l.getD k 0 = v at *
            generalize l.getD (k - 1) 0 = z at *
            generalize cstRow W d l k = u at *
            clear t1 hz
            go_wp2_with (first
              | (go_at_call 33; go_must (refine (HF.out _ _).mono ?_); rintro e w3 ⟨x, rfl, x0, x1, hx, rfl⟩))
            all_goals
              go_round
              case rel => exact ⟨k + 1, by omega, by go_num, by rw [HT.out, HLf.out, (show ∀ a b c : Int, a + (b + c) = a + b + c from fun a b c => by omega)]; (try rw [Int.sub_zero]); rw [← hx.out, farI]⟩
              case measure => simp [intOf]; omega
        · obtain rfl : k = l.length := by omega
          go_wp2
          go_round
          case rel => exact ⟨j + 1, by omega, by go_num, by rw [HS.out]⟩
          case measure => simp [intOf]; omega
    · obtain rfl : j = p.length := by omega
      go_wp2
      go_ret
      exact ⟨rfl, bb1⟩
end Go.Proofs.Yticjiodnolngcaa
