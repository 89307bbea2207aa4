/- What Open answers (plain). -/
import Derived.Test.YtdnkdjaokmibjaaPkLayL
set_option linter.unusedSimpArgs false
set_option linter.unusedVariables false
namespace Go.Proofs.Ytdnkdjaokmibjaa
open Go.RowKit

def Pk.zero : Pk := ⟨0, 0, 0, false, false, []⟩
def openOk (b : List Int) : Bool := decide (b.getD 0 0 < 4 ∧ b.getD 1 0 ≤ 3 ∧ big ((b.drop 2).take 8) ≤ 1125899906842624 ∧ big ((b.drop 10).take 8) ≤ 1125899906842624)
def openE (b : List Int) : Int := if b.length < 18 then 3 else if 65554 < b.length then 4 else if openOk b = true then 0 else 2
def openP (b : List Int) : Pk := if openE b = 0 then ⟨b.getD 0 0, big ((b.drop 2).take 8), big ((b.drop 10).take 8), b.getD 1 0 % 2 != 0, b.getD 1 0 / 2 % 2 != 0, b.drop 18⟩ else Pk.zero

theorem take_ok {b : List Int} {p k : Nat} (h : p + k ≤ b.length) : Rs.take ⟨b, p, 0⟩ k = ((b.drop p).take k, ⟨b, p + k, 0⟩) := by
  simp [Rs.take]; omega
theorem big_one {b : List Int} {p : Nat} (h : p < b.length) : big ((b.drop p).take 1) = b.getD p 0 := by
  rw [List.drop_eq_getElem_cons h, List.getD_eq_getElem?_getD, List.getElem?_eq_getElem h, List.take_succ_cons, List.take_zero]
  simp [big]
theorem byteB.getD {b : List Int} (h : byteB b) (p : Nat) : 0 ≤ b.getD p 0 ∧ b.getD p 0 ≤ 255 := by
  by_cases hp : p < b.length
  · rw [List.getD_eq_getElem?_getD, List.getElem?_eq_getElem hp]
    exact h _ (List.getElem_mem hp)
  · rw [List.getD_eq_getElem?_getD, List.getElem?_eq_none (by omega)]
    simp
theorem byteB.part {b : List Int} (h : byteB b) (p k : Nat) : byteB ((b.drop p).take k) := fun x hx => h x (List.mem_of_mem_drop (List.mem_of_mem_take hx))
theorem big8_bd {b : List Int} (h : byteB b) (p : Nat) : 0 ≤ big ((b.drop p).take 8) ∧ big ((b.drop p).take 8) ≤ 18446744073709551615 := by
  have h1 := big_bound _ (h.part p 8)
  have h2 : ((b.drop p).take 8).length ≤ 8 := by simp; omega
  have h3 : (256 : Int) ^ ((b.drop p).take 8).length ≤ 256 ^ 8 := by
    generalize ((b.drop p).take 8).length = n at *
    rcases (show n = 0 ∨ n = 1 ∨ n = 2 ∨ n = 3 ∨ n = 4 ∨ n = 5 ∨ n = 6 ∨ n = 7 ∨ n = 8 by omega) with rfl | rfl | rfl | rfl | rfl | rfl | rfl | rfl | rfl <;> omega
  omega
theorem and2_64 (f : Int) (h0 : 0 ≤ f) (h1 : f ≤ 3) : (bits .and .u64 f 2 != 0) = (f / 2 % 2 != 0) := by
  rcases (show f = 0 ∨ f = 1 ∨ f = 2 ∨ f = 3 by omega) with rfl | rfl | rfl | rfl <;> decide
theorem and1_64 (f : Int) (h0 : 0 ≤ f) (h1 : f ≤ 3) : (bits .and .u64 f 1 != 0) = (f % 2 != 0) := by
  rcases (show f = 0 ∨ f = 1 ∨ f = 2 ∨ f = 3 by omega) with rfl | rfl | rfl | rfl <;> decide
theorem Pk.zero_wf : Pk.zero.wf := ⟨by simp [Pk.zero, i64B], by simp [Pk.zero, i64B], by simp [Pk.zero, i64B], by simp [Pk.zero], fun x hx => by simp [Pk.zero] at hx⟩
theorem openP_wf {b : List Int} (hb : byteB b) (hl : b.length ≤ 140737488355328) : (openP b).wf := by
  unfold openP
  split
  · rename_i h
    have hok : openOk b = true := by
      cases hk : openOk b with
      | true => rfl
      | false =>
        exfalso
        unfold openE at h
        rw [hk] at h
        simp only [Bool.false_eq_true, if_false] at h
        split at h
        · omega
        · split at h <;> omega
    simp only [openOk, decide_eq_true_eq] at hok
    have h1 := hb.getD 0
    have h2 := big8_bd hb 2
    have h3 := big8_bd hb 10
    refine ⟨?_, ?_, ?_, by simp only [List.length_drop]; omega, fun x hx => hb x (List.mem_of_mem_drop hx)⟩ <;> simp only [i64B] <;> omega
  · exact Pk.zero_wf
theorem openE_bd (b : List Int) : 0 ≤ openE b ∧ openE b ≤ 100 := by unfold openE; split <;> (try split) <;> (try split) <;> omega
end Go.Proofs.Ytdnkdjaokmibjaa
