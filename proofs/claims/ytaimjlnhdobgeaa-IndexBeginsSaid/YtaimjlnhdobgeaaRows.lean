/-
  No cell of these rows narrows 'for every input' (looked for: loops, veiled, ifaces, maps, wideKeys, modest, calm, conditions, laid).
  DERIVED. THE GIVEN ROWS OF THIS SEAT. 3 by the template 'for every input the law returns true; each argument reads behind the call as it read before'; 0 by the template 'total and deterministic' (their statements: YtaimjlnhdobgeaaTotals.lean).
  GIVEN WITH THE SEED: the statements are not yours to turn. If you find one false, say at which input.
  Laid BY PROGRAM, IN A SANDBOX (cutbox-rows.mjs): the forced cells as the released guide's own fill.sh prints them over the translation 342b3059eb86d6e3… (all of the seat's roots in one cut). By AI agents, Wed Nov 11 2026. No macro, syntax, notation, axiom, sorry.
-/
import Derived.Test.YtaimjlnhdobgeaaChecked
import GoSem.Claim
import GoSem.ClaimJoined
import GoSem.ClaimMapViews
import Derived.JoinedTies
import Derived.KernelRfl
namespace Go.Proofs.Ytaimjlnhdobgeaa
/- THE CELL 'sum', in the pinned program and in every row, IS THE sha256 OF THE DUMP (.gsa) THAT YtaimjlnhdobgeaaProg.lean LOADS. Nothing in Lean hashes anything: it is a label: what it is worth is what the hold of that sum in a sandbox is worth. -/
noncomputable def Try.pinned : Pinned := { name := "ytaimjlnhdobgeaa", sum := "342b3059eb86d6e3628ec680c8fd9621f1b7040d817a05095a0027b26d1ba435", checked := Try.checked }
namespace Rows
def none {H : Type} : Left H := { results := [], args := [] }

/-- 'kinoralaw34.IndexBack': WHATEVER THE INPUT: true; the input reads as it did. -/
def indexBackSpec : ChangeSpec := { name := "indexBack", fn := fun _ => fun
  | [d1, d2, d3] => { results := [.lit (.bool true)], args := [d1, d2, d3] }
  | _ => none }
def indexBackRow : OpenClaim := { program := "ytaimjlnhdobgeaa", sum := "342b3059eb86d6e3628ec680c8fd9621f1b7040d817a05095a0027b26d1ba435", func := "kinora/kinoralaw34.IndexBack", spec := "indexBack", apart := false }
def IndexBackSaid : Prop := indexBackRow.holds Try.pinned (OpenSpec.ofChange indexBackSpec)

/-- ITS FALSE NEIGHBOUR: 'it returns false'. Refute it at one input. -/
def indexBackWrong : ChangeSpec := { name := "indexBack", fn := fun _ => fun
  | [d1, d2, d3] => { results := [.lit (.bool false)], args := [d1, d2, d3] }
  | _ => none }
def IndexBackWrongFalsely : Prop := indexBackRow.holds Try.pinned (OpenSpec.ofChange indexBackWrong)

/-- 'kinoralaw34.IndexBegins': WHATEVER THE INPUT: true; the input reads as it did. -/
def indexBeginsSpec : ChangeSpec := { name := "indexBegins", fn := fun _ => fun
  | [d1, d2] => { results := [.lit (.bool true)], args := [d1, d2] }
  | _ => none }
def indexBeginsRow : OpenClaim := { program := "ytaimjlnhdobgeaa", sum := "342b3059eb86d6e3628ec680c8fd9621f1b7040d817a05095a0027b26d1ba435", func := "kinora/kinoralaw34.IndexBegins", spec := "indexBegins", apart := false }
def IndexBeginsSaid : Prop := indexBeginsRow.holds Try.pinned (OpenSpec.ofChange indexBeginsSpec)

/-- ITS FALSE NEIGHBOUR: 'it returns false'. Refute it at one input. -/
def indexBeginsWrong : ChangeSpec := { name := "indexBegins", fn := fun _ => fun
  | [d1, d2] => { results := [.lit (.bool false)], args := [d1, d2] }
  | _ => none }
def IndexBeginsWrongFalsely : Prop := indexBeginsRow.holds Try.pinned (OpenSpec.ofChange indexBeginsWrong)

/-- 'kinoralaw34.IndexLast': WHATEVER THE INPUT: true; the input reads as it did. -/
def indexLastSpec : ChangeSpec := { name := "indexLast", fn := fun _ => fun
  | [d1, d2, d3] => { results := [.lit (.bool true)], args := [d1, d2, d3] }
  | _ => none }
def indexLastRow : OpenClaim := { program := "ytaimjlnhdobgeaa", sum := "342b3059eb86d6e3628ec680c8fd9621f1b7040d817a05095a0027b26d1ba435", func := "kinora/kinoralaw34.IndexLast", spec := "indexLast", apart := false }
def IndexLastSaid : Prop := indexLastRow.holds Try.pinned (OpenSpec.ofChange indexLastSpec)

/-- ITS FALSE NEIGHBOUR: 'it returns false'. Refute it at one input. -/
def indexLastWrong : ChangeSpec := { name := "indexLast", fn := fun _ => fun
  | [d1, d2, d3] => { results := [.lit (.bool false)], args := [d1, d2, d3] }
  | _ => none }
def IndexLastWrongFalsely : Prop := indexLastRow.holds Try.pinned (OpenSpec.ofChange indexLastWrong)

/- THE SECOND FORM. 'bulk': how many values and letters a reading holds, each counted each time it is reached (what is shared counts as often as it is met; a slice's spare places count too). A statement '..UptoSaid' is the law's where the arguments, and the package variables that the reading takes, are together of bulk at most 1048576: NARROWER than '..Said'. Prove '..Said' where nothing that the law and all that it calls make is longer than what came in: it says more and counts as full. Else prove '..UptoSaid'. A law counts once. -/
mutual
def uptoBulk {H : Type} : DataW H → Nat
  | .lit (.string bytes) => bytes.length + 1
  | .lit _ => 1
  | .nil => 1
  | .ptr d => uptoBulk d + 1
  | .slice elems spare => uptoBulkAll elems + uptoBulkAll spare + 1
  | .agg parts => uptoBulkAll parts + 1
  | .iface _ d => uptoBulk d + 1
  | .map entries => uptoBulkEntries entries + 1
  | .held _ => 1
def uptoBulkAll {H : Type} : List (DataW H) → Nat
  | [] => 0
  | d :: r => uptoBulk d + uptoBulkAll r
def uptoBulkEntries {H : Type} : List (Lit × DataW H) → Nat
  | [] => 0
  | x :: r => uptoBulkEntry x + uptoBulkEntries r
def uptoBulkEntry {H : Type} : Lit × DataW H → Nat
  | (.string bytes, d) => bytes.length + uptoBulk d + 1
  | (_, d) => uptoBulk d + 1
 end
def uptoSmall : (H : Type) → List (DataW H) → Bool := fun _ ds => decide (uptoBulkAll ds ≤ 1048576)
def OpenSpec.upto (s : _root_.Go.ChangeSpec) : _root_.Go.OpenSpec := { _root_.Go.OpenSpec.ofChange s with cond := some uptoSmall }

/-- 'kinoralaw34.IndexBack', WHERE WHAT IT READS IS OF BULK AT MOST 1048576: true; the input reads as it did. -/
def indexBackUptoRow : OpenClaim := { program := "ytaimjlnhdobgeaa", sum := "342b3059eb86d6e3628ec680c8fd9621f1b7040d817a05095a0027b26d1ba435", func := "kinora/kinoralaw34.IndexBack", spec := "indexBack", apart := false, narrowed := true }
def IndexBackUptoSaid : Prop := indexBackUptoRow.holds Try.pinned (OpenSpec.upto indexBackSpec)

/-- 'kinoralaw34.IndexBegins', WHERE WHAT IT READS IS OF BULK AT MOST 1048576: true; the input reads as it did. -/
def indexBeginsUptoRow : OpenClaim := { program := "ytaimjlnhdobgeaa", sum := "342b3059eb86d6e3628ec680c8fd9621f1b7040d817a05095a0027b26d1ba435", func := "kinora/kinoralaw34.IndexBegins", spec := "indexBegins", apart := false, narrowed := true }
def IndexBeginsUptoSaid : Prop := indexBeginsUptoRow.holds Try.pinned (OpenSpec.upto indexBeginsSpec)

/-- 'kinoralaw34.IndexLast', WHERE WHAT IT READS IS OF BULK AT MOST 1048576: true; the input reads as it did. -/
def indexLastUptoRow : OpenClaim := { program := "ytaimjlnhdobgeaa", sum := "342b3059eb86d6e3628ec680c8fd9621f1b7040d817a05095a0027b26d1ba435", func := "kinora/kinoralaw34.IndexLast", spec := "indexLast", apart := false, narrowed := true }
def IndexLastUptoSaid : Prop := indexLastUptoRow.holds Try.pinned (OpenSpec.upto indexLastSpec)

end Rows
end Go.Proofs.Ytaimjlnhdobgeaa
