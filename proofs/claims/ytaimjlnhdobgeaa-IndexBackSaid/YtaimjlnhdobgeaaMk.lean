/- Marks in memory. -/
import Derived.Test.YtaimjlnhdobgeaaPk
import Derived.KernelRfl
set_option linter.unusedSimpArgs false
set_option linter.unusedVariables false
namespace Go.Proofs.Ytaimjlnhdobgeaa
open Go.RowKit

structure Mk where
  st : Int
  at_ : Int
  pg : Int
deriving DecidableEq
structure Mk.wf (m : Mk) : Prop where
  st : i64B m.st
  at_ : i64B m.at_
  pg : i64B m.pg
def Mk.cells (m : Mk) : List Value := [.int .i64 m.st, .int .i64 m.at_, .int .i64 m.pg]
abbrev Mk.val (m : Mk) : Value := .agg #[.int .i64 m.st, .int .i64 m.at_, .int .i64 m.pg]
def MkR : Rel Mk := fun _ _ cs p => cs = p.cells ∧ p.wf
theorem MkR.good : Rel.Good MkR 3 where
  pos := by omega
  len := by rintro w S cs x ⟨rfl, _⟩; rfl
  one := by
    rintro w S cs x ⟨rfl, _⟩ u hu
    simp only [Mk.cells, List.mem_cons, List.not_mem_nil, or_false] at hu
    rcases hu with rfl | rfl | rfl <;> rfl
  keep := by
    rintro w w' M S cs x ⟨h1, h4⟩ hm hs
    exact ⟨h1, h4⟩
  weak := by
    rintro w S S' cs x ⟨h1, h4⟩ hs
    exact ⟨h1, h4⟩
abbrev RdMk := RdG MkR 3
section
variable {w : World} {S : Nat → Prop} {A : Option Addr}
theorem RdMk.at_ {xs : List Mk} (h : RdMk w S A xs) {j : Nat} (hj : j < xs.length) : ∃ ad p, A = some ad ∧ S p.block ∧ ad.add (j * 3) = p ∧ w.cell? p = some (.int .i64 xs[j].st) ∧ w.cell? ⟨p.block, p.off + 1, none⟩ = some (.int .i64 xs[j].at_) ∧ w.cell? ⟨p.block, p.off + 2, none⟩ = some (.int .i64 xs[j].pg) ∧ xs[j].wf := by
  obtain ⟨ad, cs, e, hb, ⟨rfl, h1⟩, hc⟩ := h j hj
  exact ⟨ad, _, e, by rw [add_block]; exact hb, rfl, hc 0 _ rfl, (add_next ad _ 1 (by omega)) ▸ hc 1 _ rfl, (add_next ad _ 2 (by omega)) ▸ hc 2 _ rfl, h1⟩
end
theorem info_mk : (Try.prog.info? 49).map (fun i => (i.zero, i.size, i.bytes)) = some (some (.agg #[.int .i64 0, .int .i64 0, .int .i64 0]), 3, 24) := by kernel_rfl

/-- The mark that is found. -/
def better (s at_ : Int) (b : Option Mk) (m : Mk) : Option Mk :=
  if m.st = s ∧ m.at_ ≤ at_ then (match b with | none => some m | some x => if x.at_ ≤ m.at_ then some m else some x) else b
def findM (l : List Mk) (s at_ : Int) : Option Mk := l.foldl (better s at_) none
def Mk.zero : Mk := ⟨0, 0, 0⟩
end Go.Proofs.Ytaimjlnhdobgeaa
