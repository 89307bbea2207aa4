/- The walk of OctetOne. -/
import Derived.Test.YtpohinbhmlcfkaaOctKnown
import Derived.Test.YtpohinbhmlcfkaaOctLaws
namespace Go.Proofs.Ytpohinbhmlcfkaa.octetOne
open Go.RowKit

theorem num_short (l : List Int) (h : vint 0 0 l = (0, 0, 3)) : Rs.num ⟨l, 0, 0⟩ 18446744073709551615 = (0, ⟨l, 0, 3⟩) := by
  simp [Rs.num, h]
theorem num_form (l : List Int) (h : vint 0 0 l = (0, 0, 2)) : Rs.num ⟨l, 0, 0⟩ 18446744073709551615 = (0, ⟨l, 0, 2⟩) := by
  simp [Rs.num, h]
theorem or_128 (x : Int) (h0 : 0 ≤ x) (h1 : x < 128) : bits .or .u8 x 128 = x + 128 := by
  have h := u8_or_nat x.toNat 128 (by omega) (by omega)
  rw [Int.toNat_of_nonneg h0] at h
  have h2 := or_high x.toNat 1 7 (by omega)
  simp at h2
  rw [h2] at h
  simp at h
  omega
theorem last_lt (f : Nat) : ∀ n : Int, 0 ≤ n → n < 2 * 128 ^ f → (dig f n).getD ((dig f n).length - 1) 0 < 128 ∧ 0 ≤ (dig f n).getD ((dig f n).length - 1) 0 := by
  induction f with
  | zero => intro n h0 h1; simp [dig] at h1 ⊢; omega
  | succ f ih =>
    intro n h0 h1
    by_cases hlt : n < 128
    · rw [show dig (f + 1) n = [n] by simp [dig, hlt]]; simp; omega
    · rw [show dig (f + 1) n = (n % 128 + 128) :: dig f (n / 128) by simp [dig, hlt]]
      obtain ⟨k, hk⟩ : ∃ k, (dig f (n / 128)).length = k + 1 := ⟨(dig f (n / 128)).length - 1, by have := (dig_length f (n / 128)).1; omega⟩
      have := ih (n / 128) (by omega) (by rw [Int.pow_succ] at h1; omega)
      simpa [hk] using this

theorem HLO5 {w : World} {base : Nat} {e : TypeId} {k : IntKind} {v : Value} {l l' : List Int} (h : l = l') (hr : OwnI w base e k v l) : OwnI w base e k v l' := h ▸ hr

set_option maxHeartbeats 1000000 in
theorem walk (w : World) (n : Int) (n0 : 0 ≤ n) (n1 : n ≤ 18446744073709551615) (cut : Int) (c0 : -9223372036854775808 ≤ cut) (c1 : cut ≤ 9223372036854775807) :
    Calls Try.prog 3 #[.int .u64 n, .int .i64 cut] w fun e w' => e = .returned (.bool true) ∧ Below w.heap.size w w' := by
  have C1 := Lib.hid (fun W : World => put1_any W n n0 n1)
  have HS : ∀ k, k < (putOne n).length → vint 0 0 ((putOne n).take k) = (0, 0, 3) := fun k hk => vint_short 9 0 0 n k rfl n0 hk
  have HG := Lib.hid (vint_longer 9 0 0 n rfl n0 (by omega))
  have HB := Lib.hid (putOne_bytes n n0 n1)
  have HL := Lib.hid (last_lt 9 n n0 (by omega))
  have HC := Lib.hid (dig_cnt 9 n n0)
  have hlen := putOne_length n
  have HSh := Lib.hid HS
  clear HS
  rw [show dig 9 n = putOne n from rfl] at HL HC HG
  obtain ⟨a0, a1⟩ := and_15 cut
  generalize putOne n = b at *
  go_enter Try.func3, Try.ntmps3
  go_wp2_with (first
    | (go_at_call 10; refine (known_any _).mono ?_; rintro e w1 ⟨rfl, hbel⟩)
    | (go_at_call 11; (with_reducible refine (C1.out w1).mono ?_); rintro e w2 ⟨v2, rfl, hown2, hbel2⟩; obtain ⟨A2, c2, rfl, hc2, hr2, _⟩ := hown2.form))
  go_loop [6, 7] (fun s x => ∃ (f : Nat) (z : Nat) (y : Int), s = .int .i64 z ∧ x = .int .u64 y ∧ 0 ≤ y ∧ y ≤ 18446744073709551615 ∧ y * 64 < 128 ^ f ∧ b.length = z + cnt f y ∧ z ≤ 10) (fun _ x => (intOf x).toNat)
  case atStart => exact ⟨9, 1, n / 128, rfl, rfl, by omega, by omega, by omega, HC.out, by omega⟩
  case round =>
    obtain ⟨f, z, y, rfl, rfl, hy0, hy1, hyf, hcnt, hz⟩ := hrel
    by_cases hy : 0 < y
    · obtain ⟨g, rfl⟩ : ∃ g, f = g + 1 := by
        cases f with
        | zero => simp at hyf; omega
        | succ g => exact ⟨g, rfl⟩
      have hq : cnt (g + 1) y = 1 + cnt g (y / 128) := by rw [cnt, if_pos hy]
      have HM := Lib.hid (show y / 128 * 64 < 128 ^ g by rw [Int.pow_succ] at hyf; omega)
      have HE := Lib.hid (show b.length = z + 1 + cnt g (y / 128) by omega)
      have hz2 : z + 1 ≤ 10 := by omega
      clear hyf hcnt hq
      go_wp2
      go_round
      case rel => exact ⟨g, z + 1, y / 128, by go_num, rfl, by omega, by omega, HM.out, HE.out, hz2⟩
      case measure => simp [intOf]; omega
    · have hy2 : y = 0 := by omega
      have hc0 : cnt f y = 0 := by
        subst hy2
        cases f <;> simp [cnt]
      have hzb : b.length = z := by omega
      clear hyf hcnt hc0
      subst hzb hy2
      obtain ⟨q, hq⟩ : ∃ q : Nat, bits .and .i64 cut 15 % (b.length : Int) = (q : Int) := ⟨(bits .and .i64 cut 15 % (b.length : Int)).toNat, by have := Int.emod_nonneg (bits .and .i64 cut 15) (show (b.length : Int) ≠ 0 by omega); omega⟩
      have hqb : q < b.length := by have := Int.emod_lt_of_pos (bits .and .i64 cut 15) (show (0 : Int) < b.length by omega); omega
      have H3 := Lib.hid (HSh.out q hqb)
      have hrt := Lib.hid (hr2.take (n := q) (by omega))
      have htb : ∀ x ∈ b.take q, 0 ≤ x ∧ x ≤ 255 := fun x hx => HB.out x (List.mem_of_mem_take hx)
      have HT := Lib.hid htb
      have HTL := Lib.hid (show (b.take q).length = q by rw [List.length_take]; omega)
      clear htb
      generalize b.take q = bq at *
      have HQ := Lib.hid (num_short bq H3.out)
      have HO := Lib.hid (or_128 (b.getD (b.length - 1) 0) HL.out.2 HL.out.1)
      have HX := Lib.hid (num_form (longer b ++ [0]) HG.out)
      have HLB : Hid (∀ x ∈ longer b ++ [0], 0 ≤ x ∧ x ≤ 255) := by
        intro x hx
        rcases List.mem_append.1 hx with h | h
        · unfold longer at h
          rcases List.mem_or_eq_of_mem_set h with h' | h'
          · exact HB.out x h'
          · have := HL.out; omega
        · simp at h; omega
      have hll : (longer b).length = b.length := by simp [longer]
      have HLO := Lib.hid (show b.set (b.length - 1) (b.getD (b.length - 1) 0 + 128) = longer b from rfl)
      generalize longer b = lb at *
      have hone : (1 : Int) ≤ b.length := by omega
      generalize hlast : b.getD (b.length - 1) 0 = last at *
      have HLast := Lib.hid hlast
      clear hlast
      go_wp2_with (first
        | (go_at_call 12; (with_reducible refine (new_n A2 c2 q bq HTL.out HT.out (by omega) w2 _ hrt.out).mono ?_); rintro e w3 ⟨g, rfl, hgl, h3, hbel3⟩; have hr3 := hr2.below hbel3 (Nat.le_refl _); have hs3 := hbel3.size)
        | (at_builtin; (with_reducible refine wpList_append_int _ rfl (.tmp 39) (.tmp 40) _ rfl w3 w3.heap.size w3.heap.size 5 .u8 1 Try.underlying24 info_u8 _ [] rfl (OwnI.empty _ _ _ _ (Nat.le_refl _)) _ A2 b.length c2 b rfl rfl (hr3.alloc hs3 _) (by simp; omega) (by omega) (by repeat (first | exact Below.refl _ _ | assumption | refine Below.drew ?_ | refine below_drewN ?_ _ | refine below_alloc ?_ _)) (Nat.le_refl _) (by simp) ?_); intro v4 w4 hown4 hbel4; rw [List.nil_append] at hown4; obtain ⟨gl, cl, rfl, hgl1, hgl2, hcl, hcell4, hfr4, hset4⟩ := OwnI.row hown4 (by omega); have cL := hcell4 (b.length - 1) (by omega); have fL := hfr4 (b.length - 1); rw [HLast.out] at cL; have hown5 : OwnI (w4.setCell ⟨gl, b.length - 1, none⟩ (.int .u8 (bits .or .u8 last 128))) w3.heap.size 5 .u8 _ lb := HLO5 (by rw [HO.out]; exact HLO.out) (hset4 (b.length - 1) (bits .or .u8 last 128)); have hbel5 : Below w3.heap.size w3 (w4.setCell ⟨gl, b.length - 1, none⟩ (.int .u8 (bits .or .u8 last 128))) := hbel4.setCell hgl1 _; clear hset4 hcell4 hfr4)
        | (at_builtin; (with_reducible refine wpList_push_int _ rfl (.tmp 49) (.tmp 50) _ rfl w3 w3.heap.size w3.heap.size 5 .u8 1 Try.underlying24 info_u8 _ lb rfl hown5 _ 1 0 rfl (by simp [World.setCell]) (by omega) (by omega) hbel5 (Nat.le_refl _) hbel5.size ?_); intro v6 w6 hown6 hbel6; obtain ⟨A6, c6, rfl, hc6, hr6, _⟩ := hown6.form)
        | (go_at_call 12; (with_reducible refine (new_n A6 c6 (b.length + 1) (lb ++ [0]) (by simp [hll]) HLB.out (by omega) w6 _ hr6).mono ?_); rintro e w7 ⟨g7, rfl, hgl7, h7, hbel7⟩; have h3' := h3.below (below_then hbel6 hbel7))
        | (go_at_call 13; have HN := num_any h3' 18446744073709551615; rw [HQ.out] at HN; (with_reducible refine HN.mono ?_); rintro e w8 ⟨rfl, h8, hg8⟩; clear HN; have h7' := h7.keep hg8 (by have := h3.lt; have := hbel6.size; omega) (.inl (by have := h3.lt; have := hbel6.size; omega)))
        | (go_at_call 13; have HN := num_any h7' 18446744073709551615; rw [HX.out] at HN; (with_reducible refine HN.mono ?_); rintro e w9 ⟨rfl, h9, hg9⟩; clear HN; have h8' := h8.keep hg9 (by have := h3.lt; have := hbel6.size; omega) (.inr (by have := h3.lt; have := hbel6.size; omega)))
        | (go_at_call 14; (with_reducible refine (err_any h8').mono ?_); rintro e w10 ⟨rfl, rfl⟩)
        | (go_at_call 14; (with_reducible refine (err_any h9).mono ?_); rintro e w10 ⟨rfl, rfl⟩)
        | (go_at_call 15; (with_reducible refine (at_any h9).mono ?_); rintro e w10 ⟨rfl, rfl⟩))
      go_ret
      have k1 := below_then (below_then (below_then hbel hbel2) hbel3) (below_then hbel6 hbel7)
      have k2 := below_one k1 hg8 (by have := hbel.size; have := hbel2.size; omega)
      exact ⟨rfl, below_one k2 hg9 (by have := hbel.size; have := hbel2.size; have := hbel3.size; have := hbel6.size; omega)⟩
end Go.Proofs.Ytpohinbhmlcfkaa.octetOne
