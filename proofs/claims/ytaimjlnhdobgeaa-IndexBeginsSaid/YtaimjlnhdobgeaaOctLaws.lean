/- Plain laws of the functions in OctPlain. Nothing of the program is named here. -/
import Derived.Test.YtaimjlnhdobgeaaOctPlain
set_option linter.unusedSimpArgs false
set_option linter.unusedVariables false
namespace Go.Proofs.Ytaimjlnhdobgeaa

theorem vint_dig (f : Nat) : ∀ (i : Nat) (m n : Int) (r : List Int), i + f = 9 → 0 ≤ n → n < 2 * 128 ^ f → (0 < i → 0 < n) → vint i m (dig f n ++ r) = (m + n * 128 ^ i, i + (dig f n).length, 0) := by
  induction f with
  | zero =>
    intro i m n r hi h0 h1 hp
    have h9 : i = 9 := by omega
    subst h9
    have hn : n = 1 := by have := hp (by omega); simp at h1; omega
    subst hn
    rw [show dig 0 1 ++ r = 1 :: r from rfl, vint_last (by omega) (by omega)]
    rfl
  | succ f ih =>
    intro i m n r hi h0 h1 hp
    by_cases hlt : n < 128
    · rw [show dig (f + 1) n = [n] by simp [dig, hlt], List.singleton_append, vint_last (by omega) hlt]
      rw [Int.emod_eq_of_lt h0 hlt]
      rfl
    · rw [show dig (f + 1) n = (n % 128 + 128) :: dig f (n / 128) by simp [dig, hlt], List.cons_append, vint_more (by omega) (by omega),
        ih (i + 1) _ (n / 128) r (by omega) (by omega) (by rw [Int.pow_succ] at h1; omega) (fun _ => by omega)]
      have e1 : (n % 128 + 128) % 128 = n % 128 := by omega
      have e2 : n % 128 * 128 ^ i + n / 128 * 128 ^ (i + 1) = n * 128 ^ i := by
        rw [Int.pow_succ, Int.mul_comm (128 ^ i) 128, ← Int.mul_assoc, ← Int.add_mul]
        congr 1
        omega
      rw [e1, Int.add_assoc, e2, List.length_cons]
      simp only [Prod.mk.injEq, true_and, and_true]
      omega
theorem vint_put (n : Int) (r : List Int) (h0 : 0 ≤ n) (h1 : n ≤ 18446744073709551615) : vint 0 0 (putOne n ++ r) = (n, (putOne n).length, 0) := by
  have := vint_dig 9 0 0 n r rfl h0 (by omega) (by omega)
  simpa [putOne] using this

theorem vint_short (f : Nat) : ∀ (i : Nat) (m n : Int) (k : Nat), i + f = 9 → 0 ≤ n → k < (dig f n).length → vint i m ((dig f n).take k) = (0, 0, 3) := by
  induction f with
  | zero =>
    intro i m n k _ _ hk
    have : k = 0 := by simp [dig] at hk; omega
    subst this
    rfl
  | succ f ih =>
    intro i m n k hi h0 hk
    cases k with
    | zero => rfl
    | succ k =>
      by_cases hlt : n < 128
      · simp [dig, hlt] at hk
      · rw [show dig (f + 1) n = (n % 128 + 128) :: dig f (n / 128) by simp [dig, hlt]] at hk ⊢
        rw [List.take_succ_cons, vint_more (by omega) (by omega), ih (i + 1) _ (n / 128) k (by omega) (by omega) (by simpa using hk)]

/-- the digits, the last one marked as if another followed -/
def longer (l : List Int) : List Int := l.set (l.length - 1) (l.getD (l.length - 1) 0 + 128)
theorem longer_cons (x : Int) (l : List Int) (h : 0 < l.length) : longer (x :: l) = x :: longer l := by
  unfold longer
  obtain ⟨k, hk⟩ : ∃ k, l.length = k + 1 := ⟨l.length - 1, by omega⟩
  simp [hk]
theorem vint_longer (f : Nat) : ∀ (i : Nat) (m n : Int), i + f = 9 → 0 ≤ n → n < 2 * 128 ^ f → vint i m (longer (dig f n) ++ [0]) = (0, 0, 2) := by
  induction f with
  | zero =>
    intro i m n hi h0 h1
    have h9 : i = 9 := by omega
    subst h9
    rw [show longer (dig 0 n) ++ [0] = (n + 128) :: [0] from rfl, vint_bad (.inl ⟨rfl, by omega⟩)]
  | succ f ih =>
    intro i m n hi h0 h1
    by_cases hlt : n < 128
    · rw [show dig (f + 1) n = [n] by simp [dig, hlt], show longer [n] ++ [0] = (n + 128) :: [0] from rfl, vint_more (by omega) (by omega), vint_bad (.inr ⟨by omega, rfl⟩)]
    · rw [show dig (f + 1) n = (n % 128 + 128) :: dig f (n / 128) by simp [dig, hlt], longer_cons _ _ (dig_length f _).1, List.cons_append, vint_more (by omega) (by omega),
        ih (i + 1) _ (n / 128) (by omega) (by omega) (by rw [Int.pow_succ] at h1; omega)]

theorem dig_mono (f : Nat) : ∀ (a b : Int), a ≤ b → (dig f a).length ≤ (dig f b).length := by
  induction f with
  | zero => intro a b _; simp [dig]
  | succ f ih =>
    intro a b h
    by_cases ha : a < 128
    · have := (dig_length (f + 1) b).1
      rw [show dig (f + 1) a = [a] by simp [dig, ha]]
      simpa using this
    · have hb : ¬ b < 128 := by omega
      rw [show dig (f + 1) a = (a % 128 + 128) :: dig f (a / 128) by simp [dig, ha], show dig (f + 1) b = (b % 128 + 128) :: dig f (b / 128) by simp [dig, hb]]
      have := ih (a / 128) (b / 128) (by omega)
      simpa using this

/-- how often a number can be divided by 128 -/
def cnt : Nat → Int → Nat
  | 0, _ => 0
  | f + 1, x => if 0 < x then 1 + cnt f (x / 128) else 0
theorem dig_cnt (f : Nat) : ∀ n : Int, 0 ≤ n → (dig f n).length = 1 + cnt f (n / 128) := by
  induction f with
  | zero => intro n _; rfl
  | succ f ih =>
    intro n h0
    by_cases hlt : n < 128
    · rw [show dig (f + 1) n = [n] by simp [dig, hlt], cnt, if_neg (by omega)]
      rfl
    · rw [show dig (f + 1) n = (n % 128 + 128) :: dig f (n / 128) by simp [dig, hlt], cnt, if_pos (by omega), List.length_cons, ih (n / 128) (by omega)]
      omega

theorem dig_bytes (f : Nat) : ∀ n : Int, 0 ≤ n → n < 2 * 128 ^ f → ∀ x ∈ dig f n, 0 ≤ x ∧ x ≤ 255 := by
  induction f with
  | zero => intro n h0 h1 x hx; simp [dig] at hx; simp at h1; omega
  | succ f ih =>
    intro n h0 h1 x hx
    by_cases hlt : n < 128
    · rw [show dig (f + 1) n = [n] by simp [dig, hlt]] at hx; simp at hx; omega
    · rw [show dig (f + 1) n = (n % 128 + 128) :: dig f (n / 128) by simp [dig, hlt]] at hx
      rcases List.mem_cons.1 hx with h | h
      · omega
      · exact ih (n / 128) (by omega) (by rw [Int.pow_succ] at h1; omega) x h
theorem putOne_bytes (n : Int) (h0 : 0 ≤ n) (h1 : n ≤ 18446744073709551615) : ∀ x ∈ putOne n, 0 ≤ x ∧ x ≤ 255 := dig_bytes 9 n h0 (by omega)

theorem emod_256 (n d : Int) (hd : 0 < d) : n % (256 * d) = n % 256 + 256 * (n / 256 % d) := by
  have h1 := Int.emod_add_mul_ediv (n / 256) d
  have h2 : n = (n % 256 + 256 * (n / 256 % d)) + (256 * d) * (n / 256 / d) := by
    rw [Int.mul_assoc]
    generalize d * (n / 256 / d) = t at *
    omega
  have h3 := Int.emod_lt_of_pos (n / 256) hd
  have h4 := Int.emod_nonneg (n / 256) (show d ≠ 0 by omega)
  conv => lhs; rw [h2]
  rw [Int.add_mul_emod_self_left, Int.emod_eq_of_lt (by omega) (by omega)]
theorem small_sm (k : Nat) : ∀ n : Int, small (sm n k) = n % 256 ^ k := by
  induction k with
  | zero => intro n; simp [sm, small]
  | succ k ih =>
    intro n
    rw [sm, small, ih, Int.pow_succ, Int.mul_comm (256 ^ k) 256, emod_256 n _ (Int.pow_pos (by omega))]
theorem sm_bytes (k : Nat) : ∀ n : Int, ∀ x ∈ sm n k, 0 ≤ x ∧ x ≤ 255 := by
  induction k with
  | zero => intro n x hx; simp [sm] at hx
  | succ k ih =>
    intro n x hx
    rw [sm] at hx
    rcases List.mem_cons.1 hx with h | h
    · omega
    · exact ih _ x h
theorem big_rev (l : List Int) : big l.reverse = small l := by
  induction l with
  | nil => rfl
  | cons x l ih => rw [List.reverse_cons, big_snoc, ih, small]; omega
end Go.Proofs.Ytaimjlnhdobgeaa
