/- A page that may be (plain). -/
import Derived.Test.YtdnkdjaokmibjaaPgSplitL
set_option linter.unusedSimpArgs false
set_option linter.unusedVariables false
namespace Go.Proofs.Ytdnkdjaokmibjaa
open Go.RowKit

structure PgGood (p : Pg) (k : Nat) : Prop where
  ok : pgOk p = true
  g : p.guard = false
  seq : p.seq = (k : Int)
  wf : p.wf
theorem pgGood_of {k : Nat} {f1 f2 : Bool} {pb : List Int} (hk : k ≤ 1000000) (h1 : 1 ≤ pb.length) (h2 : pb.length ≤ 252) (hb : byteB pb) : PgGood ⟨(k : Int), f1, f2, false, pb⟩ k := by
  have h3 : mostB false = 252 := rfl
  refine ⟨decide_eq_true ⟨?_, ?_, h1, ?_⟩, rfl, rfl, ⟨⟨?_, ?_⟩, ?_, hb⟩⟩
  · show (0 : Int) ≤ (k : Int); omega
  · show (k : Int) ≤ 2147483647; omega
  · show (pb.length : Int) ≤ mostB false; rw [h3]; omega
  · show (-9223372036854775808 : Int) ≤ (k : Int); omega
  · show (k : Int) ≤ 9223372036854775807; omega
  · show pb.length ≤ 140737488355328; omega
theorem PgGood.short {p : Pg} {k : Nat} (h : PgGood p k) : 1 ≤ p.body.length ∧ p.body.length ≤ 252 := by
  have h1 := of_decide_eq_true h.ok
  have h2 : mostB p.guard = 252 := by rw [h.g]; rfl
  omega
end Go.Proofs.Ytdnkdjaokmibjaa
