/- Plain functions: what octet computes, on lists of integers. Nothing of the program is named here. -/
import Derived.Below
import Derived.Laws.BitsAllLaws
set_option linter.unusedSimpArgs false
set_option linter.unusedVariables false
namespace Go.Proofs.Ytdnkdjaokmibjaa

/-- the digits to the base 128, f at most beyond the first, the lowest first -/
def dig : Nat → Int → List Int
  | 0, m => [m]
  | f + 1, m => if m < 128 then [m] else (m % 128 + 128) :: dig f (m / 128)
def putOne (m : Int) : List Int := dig 9 m
def put (l : List Int) : List Int := l.flatMap putOne

theorem dig_length (f : Nat) : ∀ m, 1 ≤ (dig f m).length ∧ (dig f m).length ≤ f + 1 := by
  induction f with
  | zero => intro m; simp [dig]
  | succ f ih =>
    intro m
    unfold dig
    split
    · simp
    · have := ih (m / 128); simp only [List.length_cons]; omega
theorem putOne_length (m : Int) : 1 ≤ (putOne m).length ∧ (putOne m).length ≤ 10 := dig_length 9 m
theorem put_nil : put [] = [] := rfl
theorem put_append (a b : List Int) : put (a ++ b) = put a ++ put b := by simp [put]
theorem put_one (m : Int) : put [m] = putOne m := by simp [put]
theorem put_length (l : List Int) : (put l).length ≤ 10 * l.length := by
  induction l with
  | nil => simp [put]
  | cons a l ih =>
    have h1 : put (a :: l) = putOne a ++ put l := by simp [put]
    rw [h1, List.length_append, List.length_cons]
    have := (putOne_length a).2
    omega
theorem put_take {l : List Int} {k : Nat} (h : k < l.length) : put (l.take (k + 1)) = put (l.take k) ++ putOne (l.getD k 0) := by
  have h1 : l.take (k + 1) = l.take k ++ [l.getD k 0] := by
    rw [List.take_succ_eq_append_getElem h]
    simp [List.getD, List.getElem?_eq_getElem h]
  rw [h1, put_append, put_one]
def zig (a : Int) : Int := if 0 ≤ a then 2 * a else 2 * (-(a + 1)) + 1
def zag (u : Int) : Int := if u % 2 = 0 then u / 2 else -(u / 2) - 1

/-- varint: at digit i, the number so far n: (number, bytes, error) -/
def vint : Nat → Int → List Int → Int × Nat × Int
  | _, _, [] => (0, 0, 3)
  | i, n, c :: r =>
    if (i = 9 ∧ 1 < c) ∨ (0 < i ∧ c = 0) then (0, 0, 2)
    else if c < 128 then (n + c % 128 * 128 ^ i, i + 1, 0) else vint (i + 1) (n + c % 128 * 128 ^ i) r

/-- a reader's state -/
structure Rs where
  data : List Int
  at_ : Nat
  err : Int

def Rs.num (s : Rs) (most : Int) : Int × Rs :=
  if s.err ≠ 0 then (0, s) else
  let r := vint 0 0 (s.data.drop s.at_)
  if r.2.2 ≠ 0 then (0, { s with err := r.2.2 })
  else if most < r.1 then (0, { s with err := 4 })
  else (r.1, { s with at_ := s.at_ + r.2.1 })
def Rs.take (s : Rs) (n : Nat) : List Int × Rs :=
  if s.err ≠ 0 then ([], s)
  else if s.data.length - s.at_ < n then ([], { s with err := 3 })
  else ((s.data.drop s.at_).take n, { s with at_ := s.at_ + n })

theorem vint_bad {k : Nat} {m x : Int} {r : List Int} (h : (k = 9 ∧ 1 < x) ∨ (0 < k ∧ x = 0)) : vint k m (x :: r) = (0, 0, 2) := by
  rw [vint, if_pos h]
theorem vint_last {k : Nat} {m x : Int} {r : List Int} (h : ¬ ((k = 9 ∧ 1 < x) ∨ (0 < k ∧ x = 0))) (hx : x < 128) : vint k m (x :: r) = (m + x % 128 * 128 ^ k, k + 1, 0) := by
  rw [vint, if_neg h, if_pos hx]
theorem vint_more {k : Nat} {m x : Int} {r : List Int} (h : ¬ ((k = 9 ∧ 1 < x) ∨ (0 < k ∧ x = 0))) (hx : 128 ≤ x) : vint k m (x :: r) = vint (k + 1) (m + x % 128 * 128 ^ k) r := by
  rw [vint, if_neg h, if_neg (by omega)]
theorem vint_nil {k : Nat} {m : Int} : vint k m [] = (0, 0, 3) := by rw [vint]
theorem drop_cons {l : List Int} {k : Nat} (h : k < l.length) : l.drop k = l.getD k 0 :: l.drop (k + 1) := by
  rw [List.drop_eq_getElem_cons h, List.getD_eq_getElem?_getD, List.getElem?_eq_getElem h]
  rfl
theorem or_high (a b : Nat) (i : Nat) (h : a < 2 ^ i) : a ||| (b * 2 ^ i) = a + b * 2 ^ i := by
  rw [Nat.or_comm, Nat.mul_comm b, ← Nat.two_pow_add_eq_or_of_lt h, Nat.add_comm]
theorem or_dig (m x : Int) (i : Nat) (s : Int) (hs : s = 2 ^ i) (hm0 : 0 ≤ m) (hm1 : m < s) (hx0 : 0 ≤ x) (hmx : m + x * s < 18446744073709551616) :
    bits .or .u64 m (IntKind.u64.wrap (x * s)) = m + x * s := by
  have hs0 : 0 ≤ s := by omega
  have hmul : 0 ≤ x * s := Int.mul_nonneg hx0 hs0
  have hw : IntKind.u64.wrap (x * s) = x * s := by rw [IntKind.wrap_u64]; omega
  rw [hw, u64_or m (x * s) hm0 (by omega) hmul (by omega)]
  have e1 : (x * s).toNat = x.toNat * 2 ^ i := by
    rw [Int.toNat_mul hx0 hs0, hs]
    congr 1
  rw [e1, or_high _ _ _ (by
    have : ((2 ^ i : Nat) : Int) = 2 ^ i := by simp
    omega)]
  rw [← e1]
  omega
theorem or_low (m x : Int) (hm0 : 0 ≤ m) (hm1 : m < 72057594037927936) (hx0 : 0 ≤ x) (hx1 : x ≤ 255) : bits .or .u64 (m * 256) x = m * 256 + x := by
  rw [u64_or (m * 256) x (by omega) (by omega) hx0 (by omega)]
  have e1 : (m * 256).toNat = m.toNat * 2 ^ 8 := by omega
  rw [e1, Nat.or_comm, or_high _ _ 8 (by omega)]
  omega
theorem pow_128 (k : Nat) : (128 : Int) ^ k = 2 ^ (7 * k) := by rw [Int.pow_mul]; rfl

def Rs.lump (s : Rs) (most : Int) : List Int × Rs :=
  let r := s.num most
  let o := r.2.take r.1.toNat
  if o.2.err ≠ 0 then ([], { o.2 with at_ := s.at_ }) else o
def big (l : List Int) : Int := l.foldl (fun n c => n * 256 + c) 0
def small : List Int → Int
  | [] => 0
  | c :: r => c + 256 * small r
def lump (b : List Int) : List Int := putOne b.length ++ b
def sm (n : Int) : Nat → List Int
  | 0 => []
  | k + 1 => (n % 256) :: sm (n / 256) k

theorem big_snoc (l : List Int) (x : Int) : big (l ++ [x]) = big l * 256 + x := by simp [big]
theorem big_from (l : List Int) (h : ∀ x ∈ l, 0 ≤ x ∧ x ≤ 255) : ∀ (n : Int) (k : Nat), 0 ≤ n → n < 256 ^ k → 0 ≤ l.foldl (fun n c => n * 256 + c) n ∧ l.foldl (fun n c => n * 256 + c) n < 256 ^ (k + l.length) := by
  induction l with
  | nil => intro n k h0 h1; simpa using ⟨h0, h1⟩
  | cons x l ih =>
    intro n k h0 h1
    have h2 := h x (by simp)
    have := ih (fun y hy => h y (by simp [hy])) (n * 256 + x) (k + 1) (by omega) (by rw [Int.pow_succ]; omega)
    rw [List.foldl_cons, List.length_cons, show k + (l.length + 1) = k + 1 + l.length by omega]
    exact this
theorem big_bound (l : List Int) (h : ∀ x ∈ l, 0 ≤ x ∧ x ≤ 255) : 0 ≤ big l ∧ big l < 256 ^ l.length := by
  have := big_from l h 0 0 (by omega) (by omega)
  simpa [big] using this
theorem small_bound (l : List Int) (h : ∀ x ∈ l, 0 ≤ x ∧ x ≤ 255) : 0 ≤ small l ∧ small l < 256 ^ l.length := by
  induction l with
  | nil => simp [small]
  | cons x l ih =>
    have h1 := ih (fun y hy => h y (by simp [hy]))
    have h2 := h x (by simp)
    rw [small, List.length_cons, Int.pow_succ]
    omega
theorem small_snoc (l : List Int) (x : Int) : small (l ++ [x]) = small l + x * 256 ^ l.length := by
  induction l with
  | nil => simp [small]
  | cons y l ih =>
    simp only [List.cons_append, small, ih, List.length_cons, Int.pow_succ, Int.mul_add]
    rw [Int.mul_comm 256 (x * 256 ^ l.length), Int.mul_assoc]
    omega
theorem pow_256 (k : Nat) : (256 : Int) ^ k = 2 ^ (8 * k) := by rw [Int.pow_mul]; rfl
theorem take_snoc {l : List Int} {k : Nat} (h : k < l.length) : l.take (k + 1) = l.take k ++ [l.getD k 0] := by
  rw [List.take_succ_eq_append_getElem h]
  simp [List.getD, List.getElem?_eq_getElem h]
theorem sm_length (n : Int) (k : Nat) : (sm n k).length = k := by
  induction k generalizing n with
  | zero => rfl
  | succ k ih => simp [sm, ih]
theorem Rs.num_data (s : Rs) (m : Int) : (s.num m).2.data = s.data := by
  unfold Rs.num
  split
  · rfl
  · simp only
    split
    · rfl
    · split <;> rfl
theorem Rs.num_err (s : Rs) (m : Int) : (s.num m).2.err ≠ 0 → (s.num m).2.at_ = s.at_ := by
  unfold Rs.num
  split
  · intro _; rfl
  · rename_i h0
    simp only
    split
    · intro _; rfl
    · split
      · intro _; rfl
      · intro h
        simp only [ne_eq, Decidable.not_not] at h0
        exact absurd h0 h
theorem Rs.take_data (s : Rs) (m : Nat) : (s.take m).2.data = s.data := by
  unfold Rs.take
  split
  · rfl
  · split <;> rfl
theorem Rs.take_len (s : Rs) (n : Nat) : (s.take n).1.length ≤ n := by
  unfold Rs.take
  split
  · simp
  · split
    · simp
    · simp only [List.length_take]; omega
theorem Rs.take_mem (s : Rs) (n : Nat) : ∀ x ∈ (s.take n).1, x ∈ s.data := by
  unfold Rs.take
  split
  · simp
  · split
    · simp
    · intro x hx; exact List.mem_of_mem_drop (List.mem_of_mem_take hx)

theorem vint_bounds (i : Nat) (n : Int) (l : List Int) (hi : i ≤ 9) (hn0 : 0 ≤ n) (hn : n < 128 ^ i) (hl : ∀ x ∈ l, 0 ≤ x ∧ x ≤ 255) :
    0 ≤ (vint i n l).1 ∧ (vint i n l).1 ≤ 18446744073709551615 ∧ (vint i n l).2.1 ≤ i + l.length ∧ 0 ≤ (vint i n l).2.2 ∧ (vint i n l).2.2 ≤ 3 := by
  induction l generalizing i n with
  | nil => simp [vint]
  | cons c r ih =>
    have hc := hl c (by simp)
    have hp : (128 : Int) ^ i ≤ 128 ^ 9 := by
      rcases (show i = 0 ∨ i = 1 ∨ i = 2 ∨ i = 3 ∨ i = 4 ∨ i = 5 ∨ i = 6 ∨ i = 7 ∨ i = 8 ∨ i = 9 by omega) with rfl | rfl | rfl | rfl | rfl | rfl | rfl | rfl | rfl | rfl <;> omega
    have hp0 : (0 : Int) < 128 ^ i := Int.pow_pos (by omega)
    have hm0 : 0 ≤ c % 128 * 128 ^ i := Int.mul_nonneg (by omega) (by omega)
    unfold vint
    split
    · simp
    · rename_i hne
      split
      · rename_i hlt
        refine ⟨by simp only; omega, ?_, by simp only [List.length_cons]; omega, by simp, by simp⟩
        simp only
        by_cases h9 : i = 9
        · subst h9
          have : c ≤ 1 := by
            rcases Int.lt_or_le 1 c with h | h
            · exact absurd (Or.inl ⟨rfl, h⟩) hne
            · exact h
          have : c % 128 ≤ 1 := by omega
          have : c % 128 * 128 ^ 9 ≤ 1 * 128 ^ 9 := Int.mul_le_mul_of_nonneg_right this (by omega)
          omega
        · have h8 : (128 : Int) ^ i ≤ 128 ^ 8 := by
            rcases (show i = 0 ∨ i = 1 ∨ i = 2 ∨ i = 3 ∨ i = 4 ∨ i = 5 ∨ i = 6 ∨ i = 7 ∨ i = 8 by omega) with rfl | rfl | rfl | rfl | rfl | rfl | rfl | rfl | rfl <;> omega
          have : c % 128 * 128 ^ i ≤ 127 * 128 ^ i := Int.mul_le_mul_of_nonneg_right (by omega) (by omega)
          omega
      · rename_i hge
        have h9 : i ≤ 8 := by
          rcases Nat.lt_or_ge i 9 with h | h
          · omega
          · exact absurd (Or.inl ⟨by omega, by omega⟩) hne
        have hmul : c % 128 * 128 ^ i ≤ 127 * 128 ^ i := Int.mul_le_mul_of_nonneg_right (by omega) (by omega)
        have := ih (i + 1) (n + c % 128 * 128 ^ i) (by omega) (by omega) (by rw [Int.pow_succ]; omega) (fun x hx => hl x (by simp [hx]))
        refine ⟨this.1, this.2.1, ?_, this.2.2.2⟩
        have h3 := this.2.2.1
        simp only [List.length_cons]
        omega

theorem Rs.num_bounds (s : Rs) (most : Int) (h0 : 0 ≤ most) (h : ∀ x ∈ s.data, 0 ≤ x ∧ x ≤ 255) : 0 ≤ (s.num most).1 ∧ (s.num most).1 ≤ most := by
  have hb := vint_bounds 0 0 (s.data.drop s.at_) (by omega) (by omega) (by omega) (fun x hx => h x (List.mem_of_mem_drop hx))
  unfold Rs.num
  split
  · exact ⟨by simp, by simpa using h0⟩
  · simp only
    split
    · exact ⟨by simp, by simpa using h0⟩
    · split
      · exact ⟨by simp, by simpa using h0⟩
      · exact ⟨hb.1, by simp only; omega⟩
theorem Rs.num_at (s : Rs) (most : Int) (ha : s.at_ ≤ s.data.length) (h : ∀ x ∈ s.data, 0 ≤ x ∧ x ≤ 255) : (s.num most).2.at_ ≤ s.data.length := by
  have hb := vint_bounds 0 0 (s.data.drop s.at_) (by omega) (by omega) (by omega) (fun x hx => h x (List.mem_of_mem_drop hx))
  have hv := hb.2.2.1
  rw [List.length_drop] at hv
  unfold Rs.num
  split
  · exact ha
  · simp only
    split
    · exact ha
    · split
      · exact ha
      · simp only
        omega
end Go.Proofs.Ytdnkdjaokmibjaa
