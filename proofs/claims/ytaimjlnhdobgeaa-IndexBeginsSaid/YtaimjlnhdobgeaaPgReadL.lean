/- What page.Read answers (plain). -/
import Derived.Test.YtaimjlnhdobgeaaPgBytesL
import Derived.Test.YtaimjlnhdobgeaaPkOpenL
set_option linter.unusedSimpArgs false
set_option linter.unusedVariables false
namespace Go.Proofs.Ytaimjlnhdobgeaa
open Go.RowKit

def Pg.zero : Pg := ⟨0, false, false, false, []⟩
def rdOk (x : List Int) : Bool := decide (x.getD 2 0 ≤ 7 ∧ big ((x.drop 3).take 4) ≤ 2147483647 ∧ 1 ≤ x.getD 7 0 ∧ x.getD 7 0 ≤ mostB (x.getD 2 0 / 4 % 2 != 0))
def rdE (x : List Int) : Int :=
  if x.length < 2 then 3 else if ¬ (x.getD 0 0 = 75 ∧ x.getD 1 0 = 80) then 2 else if x.length < 8 then 3 else if rdOk x = false then 2
  else if (x.length : Int) < x.getD 7 0 + 12 then 3 else if big ((x.drop ((x.getD 7 0).toNat + 8)).take 4) ≠ crc (x.take ((x.getD 7 0).toNat + 8)) then 5 else 0
def rdP (x : List Int) : Pg := if rdE x = 0 then ⟨big ((x.drop 3).take 4), x.getD 2 0 % 2 != 0, x.getD 2 0 / 2 % 2 != 0, x.getD 2 0 / 4 % 2 != 0, (x.drop 8).take (x.getD 7 0).toNat⟩ else Pg.zero
def rdL (x : List Int) : Int := if rdE x = 0 then x.getD 7 0 + 12 else 0

theorem rdE_eq (x : List Int) : rdE x = if x.length < 2 then 3 else if ¬ (x.getD 0 0 = 75 ∧ x.getD 1 0 = 80) then 2 else if x.length < 8 then 3 else if rdOk x = false then 2
  else if (x.length : Int) < x.getD 7 0 + 12 then 3 else if big ((x.drop ((x.getD 7 0).toNat + 8)).take 4) ≠ crc (x.take ((x.getD 7 0).toNat + 8)) then 5 else 0 := rfl
theorem rdP_eq (x : List Int) : rdP x = if rdE x = 0 then ⟨big ((x.drop 3).take 4), x.getD 2 0 % 2 != 0, x.getD 2 0 / 2 % 2 != 0, x.getD 2 0 / 4 % 2 != 0, (x.drop 8).take (x.getD 7 0).toNat⟩ else Pg.zero := rfl
theorem rdL_eq (x : List Int) : rdL x = if rdE x = 0 then x.getD 7 0 + 12 else 0 := rfl
theorem big4_bd {b : List Int} (h : byteB b) (p : Nat) : 0 ≤ big ((b.drop p).take 4) ∧ big ((b.drop p).take 4) ≤ 4294967295 := by
  have h1 := big_bound _ (h.part p 4)
  have h2 : ((b.drop p).take 4).length ≤ 4 := by simp; omega
  have h3 : (256 : Int) ^ ((b.drop p).take 4).length ≤ 256 ^ 4 := by
    generalize ((b.drop p).take 4).length = n at *
    rcases (show n = 0 ∨ n = 1 ∨ n = 2 ∨ n = 3 ∨ n = 4 by omega) with rfl | rfl | rfl | rfl | rfl <;> omega
  omega
theorem and_fl (f : Int) (h0 : 0 ≤ f) (h1 : f ≤ 255) : (bits .and .u64 f 4 != 0) = (f / 4 % 2 != 0) := by
  obtain ⟨n, rfl⟩ := Int.eq_ofNat_of_zero_le h0
  have hn : n < 256 := by omega
  have key : ∀ k : Fin 256, (bits .and .u64 (k.val : Int) 4 != 0) = ((k.val : Int) / 4 % 2 != 0) := by decide +kernel
  exact key ⟨n, hn⟩
theorem and7_1 (f : Int) (h0 : 0 ≤ f) (h1 : f ≤ 255) : (bits .and .u64 f 1 != 0) = (f % 2 != 0) := by
  obtain ⟨n, rfl⟩ := Int.eq_ofNat_of_zero_le h0
  have hn : n < 256 := by omega
  have key : ∀ k : Fin 256, (bits .and .u64 (k.val : Int) 1 != 0) = ((k.val : Int) % 2 != 0) := by decide +kernel
  exact key ⟨n, hn⟩
theorem and7_2 (f : Int) (h0 : 0 ≤ f) (h1 : f ≤ 255) : (bits .and .u64 f 2 != 0) = (f / 2 % 2 != 0) := by
  obtain ⟨n, rfl⟩ := Int.eq_ofNat_of_zero_le h0
  have hn : n < 256 := by omega
  have key : ∀ k : Fin 256, (bits .and .u64 (k.val : Int) 2 != 0) = ((k.val : Int) / 2 % 2 != 0) := by decide +kernel
  exact key ⟨n, hn⟩
theorem getD_part {x : List Int} {p k i : Nat} (h : p + k ≤ x.length) (hi : i < k) : ((x.drop p).take k).getD i 0 = x.getD (p + i) 0 := by
  simp [List.getD, List.getElem?_take, List.getElem?_drop, hi]
theorem part_part {x : List Int} {p k q m : Nat} (h : q + m ≤ k) : (((x.drop p).take k).drop q).take m = (x.drop (p + q)).take m := by
  rw [List.drop_take, List.drop_drop, List.take_take, Nat.min_eq_left (by omega)]
end Go.Proofs.Ytaimjlnhdobgeaa
