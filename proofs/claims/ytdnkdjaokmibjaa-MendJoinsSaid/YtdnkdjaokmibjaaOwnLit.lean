/- A slice of integers that a call lays out itself. -/
import Derived.Test.YtdnkdjaokmibjaaLib
set_option linter.unusedSimpArgs false
set_option linter.unusedVariables false
namespace Go.Proofs.Ytdnkdjaokmibjaa
open Go.RowKit
theorem OwnI.lit (w : World) (base : Nat) (e : TypeId) (k : IntKind) (l : List Int) (cs : Array Value) (h : cs.toList = ic k l) (hb : base ≤ w.heap.size) (hm : l.length ≤ maxLen) : OwnI (w.alloc (.cells cs e)) base e k (.slice (some ⟨w.heap.size, 0, none⟩) l.length l.length) l := by
  have hs : cs.size = l.length := by rw [← Array.length_toList, h, ic_length]
  exact ⟨by simp [ic_length], .inr ⟨w.heap.size, l.length, cs, rfl, hb, heap_alloc_new w _, Nat.le_refl _, hm, by omega, by rw [Nat.mul_one, ← hs, ← h, ← Array.length_toList, List.take_length]⟩⟩
end Go.Proofs.Ytdnkdjaokmibjaa
