/- Streams of a tape weave. -/
import Derived.Test.YtnflhogjonlnmaaWvSdL
import Derived.Test.YtnflhogjonlnmaaTapeSt
import Derived.Test.YtnflhogjonlnmaaPicLast
set_option linter.unusedSimpArgs false
set_option linter.unusedVariables false
namespace Go.Proofs.Ytnflhogjonlnmaa
open Go.RowKit
theorem tape_lay {st : Int} {l : List Pk} (h0 : 0 ≤ st ∧ st < 4) (h : TapePks st l) : ∀ p ∈ l, layE p = 0 := fun p hp => by
  have h1 := h.st p hp
  have h2 := h.time p hp
  have h3 := h.data p hp
  rw [layE, if_pos (by simp [Pk.head]; omega), if_neg (by omega)]
theorem tape_weave {m : Int} {ls : List (List Pk)} (h : TapeSts m ls) (h1 : 1 ≤ ls.length) (h4 : ls.length ≤ 4) : weaveE ls = 0 := by
  rw [weaveE, if_neg, if_neg]
  · intro hn
    refine hn (fun i hi j hj => ?_)
    have hp := ((h.each i hi).1).order
    rw [pk_get (by omega), pk_get (by omega)]
    exact List.pairwise_iff_getElem.1 hp j (j + 1) (by omega) (by omega) (by omega)
  · rintro (h9 | h9 | h9)
    · omega
    · omega
    · refine h9 (fun i hi j hj => ?_)
      have hp := (h.each i hi).1
      rw [pk_get hj]
      exact ⟨tape_lay (by omega) hp _ (List.getElem_mem hj), hp.st _ (List.getElem_mem hj)⟩
theorem total_le_ {B : Nat} : ∀ (ls : List (List Pk)), (∀ x ∈ ls, x.length ≤ B) → total ls ≤ ls.length * B
  | [], _ => by simp [total]
  | x :: ls, h => by
    have h1 := total_le_ ls (fun y hy => h y (List.mem_cons_of_mem _ hy))
    have h2 := h x (List.mem_cons_self ..)
    simp only [total, List.map_cons, List.sum_cons, List.length_cons, Nat.succ_mul] at h1 ⊢
    omega
theorem total_small {m : Nat} {ls : List (List Pk)} (h : TapeSts (m : Int) ls) (h4 : ls.length ≤ 4) : total ls ≤ 4 * m := by
  have h1 := total_le_ (B := m) ls (fun x hx => by
    obtain ⟨j, hj, rfl⟩ := List.mem_iff_getElem.1 hx
    have := (h.each j hj).2
    rw [getD_rs hj] at this
    omega)
  have h2 : ls.length * m ≤ 4 * m := Nat.mul_le_mul_right _ h4
  omega
theorem ic_setA (l : List Int) (j : Nat) (x : Int) : (ic .i64 l).toArray.setIfInBounds j (.int .i64 x) = (ic .i64 (l.set j x)).toArray := by
  simp [ic_set]
theorem info_int : (Try.prog.info? 3).map (fun i => (i.zero, i.size, i.bytes)) = some (some (.int .i64 0), 1, 8) := by kernel_rfl
/-- numbers ks integers -/
def nc (ks : List Nat) : List Int := ks.map fun (n : Nat) => (n : Int)
theorem nc_len (ks : List Nat) : (nc ks).length = ks.length := by simp [nc]
theorem nc_at (ks : List Nat) (j : Nat) : (nc ks).getD j 0 = ((ks.getD j 0 : Nat) : Int) := by
  simp only [nc, List.getD_eq_getElem?_getD, List.getElem?_map]
  cases ks[j]? <;> rfl
theorem nc_set (ks : List Nat) (j k : Nat) : (nc ks).set j (k : Int) = nc (ks.set j k) := by simp [nc, List.map_set]
theorem nc_rep (n : Nat) : Array.replicate n (Value.int .i64 0) = (ic .i64 (nc (List.replicate n 0))).toArray := by simp [ic, nc]
theorem nc_blk {w : World} {g : Nat} {t : TypeId} {ks : List Nat} (h : Blk w g t (ic .i64 (nc ks)).toArray) {j : Nat} (hj : j < ks.length) : w.cell? ⟨g, j, none⟩ = some (.int .i64 ((ks.getD j 0 : Nat) : Int)) := by
  rw [← nc_at]; exact Blk.lit_at h (by rw [nc_len]; exact hj)
/-- a number in a cell -/
def cellN (w : World) (a : Addr) : Nat := match w.cell? a with | some (.int _ n) => n.toNat | _ => 0
theorem cellN_is {w : World} {a : Addr} {n : Nat} (h : w.cell? a = some (.int .i64 (n : Int))) : cellN w a = n := by rw [cellN, h]; rfl
def sliceLen : Value → Nat
  | .slice _ n _ => n
  | _ => 0
end Go.Proofs.Ytnflhogjonlnmaa
