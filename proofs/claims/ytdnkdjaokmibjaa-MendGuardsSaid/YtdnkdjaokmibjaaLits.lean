/- Slices that a call lays out itself. -/
import Derived.Test.YtdnkdjaokmibjaaDat
set_option linter.unusedSimpArgs false
set_option linter.unusedVariables false
namespace Go.Proofs.Ytdnkdjaokmibjaa
open Go.RowKit

theorem RdI.litG (w : World) (k : IntKind) (l : List Int) (cs : Array Value) (e : TypeId) (fr : Nat × Nat) (h : cs.toList = ic k l) : RdI (w.alloc (.cells cs e fr)) (w.heap.size + 1) k (some ⟨w.heap.size, 0, none⟩) l := by
  refine ⟨by rw [ic_length]; omega, fun _ => ⟨_, rfl, by simp, fun j u hu => ?_⟩⟩
  rw [add_mk, cell_of_row _ w.heap.size (0 + j) cs e fr (heap_alloc_new w _), Nat.zero_add, ← hu, ← h]
  simp

/-- A slice that a call lays out itself. -/
theorem RdG.lits {α : Type} {R : Rel α} {size : Nat} (g : R.Good size) (w : World) {S : Nat → Prop} {cells : List Value} {xs : List α} (h : Cells R size w S cells xs) (e : TypeId) :
    RdG R size (w.alloc (.cells cells.toArray e)) (fun b => (S b ∧ b < w.heap.size) ∨ b = w.heap.size) (some ⟨w.heap.size, 0, none⟩) xs := fun j hj => by
  refine ⟨_, _, rfl, .inr rfl, g.keep (g.weak (S' := fun b => (S b ∧ b < w.heap.size) ∨ b = w.heap.size) (h.2 j hj) fun b hb hl => .inl ⟨hb, hl⟩) (M := fun _ => False) ((Mod.refl _ _).alloc _) (fun _ _ _ h => h), fun i u hu => ?_⟩
  rw [add_mk, cell_of_row _ w.heap.size (0 + (j * size + i)) cells.toArray e (0, 0) (heap_alloc_new w _)]
  rw [List.getElem?_take] at hu
  split at hu
  · rw [List.getElem?_drop] at hu
    simpa using hu
  · cases hu

end Go.Proofs.Ytdnkdjaokmibjaa
