/-
  No cell of these rows narrows 'for every input' (looked for: loops, veiled, ifaces, maps, wideKeys, modest, calm, conditions, laid).
  DERIVED. THE GIVEN ROWS OF THIS SEAT. 5 by the template 'for every input the law returns true; each argument reads behind the call as it read before'; 0 by the template 'total and deterministic' (their statements: YticjiodnolngcaaTotals.lean).
  GIVEN WITH THE SEED: the statements are not yours to turn. If you find one false, say at which input.
  Laid BY PROGRAM, IN A SANDBOX (cutbox-rows.mjs): the forced cells as the released guide's own fill.sh prints them over the translation 61f2df984a3f795d… (all of the seat's roots in one cut). By AI agents, Wed Nov 11 2026. No macro, syntax, notation, axiom, sorry.
-/
import Derived.Test.YticjiodnolngcaaChecked
import GoSem.Claim
import GoSem.ClaimJoined
import GoSem.ClaimMapViews
import Derived.JoinedTies
import Derived.KernelRfl
namespace Go.Proofs.Yticjiodnolngcaa
/- THE CELL 'sum', in the pinned program and in every row, IS THE sha256 OF THE DUMP (.gsa) THAT YticjiodnolngcaaProg.lean LOADS. Nothing in Lean hashes anything: it is a label: what it is worth is what the hold of that sum in a sandbox is worth. -/
noncomputable def Try.pinned : Pinned := { name := "yticjiodnolngcaa", sum := "61f2df984a3f795d646f8b55f900e176c3c5f0130af5dcacf0b535adf4cd24f5", checked := Try.checked }
namespace Rows
def none {H : Type} : Left H := { results := [], args := [] }

/-- 'kinoralaw21.HueGrey': WHATEVER THE INPUT: true; the input reads as it did. -/
def hueGreySpec : ChangeSpec := { name := "hueGrey", fn := fun _ => fun
  | [d1, d2] => { results := [.lit (.bool true)], args := [d1, d2] }
  | _ => none }
def hueGreyRow : OpenClaim := { program := "yticjiodnolngcaa", sum := "61f2df984a3f795d646f8b55f900e176c3c5f0130af5dcacf0b535adf4cd24f5", func := "kinora/kinoralaw21.HueGrey", spec := "hueGrey", apart := false }
def HueGreySaid : Prop := hueGreyRow.holds Try.pinned (OpenSpec.ofChange hueGreySpec)

/-- ITS FALSE NEIGHBOUR: 'it returns false'. Refute it at one input. -/
def hueGreyWrong : ChangeSpec := { name := "hueGrey", fn := fun _ => fun
  | [d1, d2] => { results := [.lit (.bool false)], args := [d1, d2] }
  | _ => none }
def HueGreyWrongFalsely : Prop := hueGreyRow.holds Try.pinned (OpenSpec.ofChange hueGreyWrong)

/-- 'kinoralaw21.HueLeast': WHATEVER THE INPUT: true; the input reads as it did. -/
def hueLeastSpec : ChangeSpec := { name := "hueLeast", fn := fun _ => fun
  | [d] => { results := [.lit (.bool true)], args := [d] }
  | _ => none }
def hueLeastRow : OpenClaim := { program := "yticjiodnolngcaa", sum := "61f2df984a3f795d646f8b55f900e176c3c5f0130af5dcacf0b535adf4cd24f5", func := "kinora/kinoralaw21.HueLeast", spec := "hueLeast", apart := false }
def HueLeastSaid : Prop := hueLeastRow.holds Try.pinned (OpenSpec.ofChange hueLeastSpec)

/-- ITS FALSE NEIGHBOUR: 'it returns false'. Refute it at one input. -/
def hueLeastWrong : ChangeSpec := { name := "hueLeast", fn := fun _ => fun
  | [d] => { results := [.lit (.bool false)], args := [d] }
  | _ => none }
def HueLeastWrongFalsely : Prop := hueLeastRow.holds Try.pinned (OpenSpec.ofChange hueLeastWrong)

/-- 'kinoralaw21.HueBack': WHATEVER THE INPUT: true; the input reads as it did. -/
def hueBackSpec : ChangeSpec := { name := "hueBack", fn := fun _ => fun
  | [d1, d2] => { results := [.lit (.bool true)], args := [d1, d2] }
  | _ => none }
def hueBackRow : OpenClaim := { program := "yticjiodnolngcaa", sum := "61f2df984a3f795d646f8b55f900e176c3c5f0130af5dcacf0b535adf4cd24f5", func := "kinora/kinoralaw21.HueBack", spec := "hueBack", apart := false }
def HueBackSaid : Prop := hueBackRow.holds Try.pinned (OpenSpec.ofChange hueBackSpec)

/-- ITS FALSE NEIGHBOUR: 'it returns false'. Refute it at one input. -/
def hueBackWrong : ChangeSpec := { name := "hueBack", fn := fun _ => fun
  | [d1, d2] => { results := [.lit (.bool false)], args := [d1, d2] }
  | _ => none }
def HueBackWrongFalsely : Prop := hueBackRow.holds Try.pinned (OpenSpec.ofChange hueBackWrong)

/-- 'kinoralaw21.HueColours': WHATEVER THE INPUT: true; the input reads as it did. -/
def hueColoursSpec : ChangeSpec := { name := "hueColours", fn := fun _ => fun
  | [d1, d2, d3, d4, d5] => { results := [.lit (.bool true)], args := [d1, d2, d3, d4, d5] }
  | _ => none }
def hueColoursRow : OpenClaim := { program := "yticjiodnolngcaa", sum := "61f2df984a3f795d646f8b55f900e176c3c5f0130af5dcacf0b535adf4cd24f5", func := "kinora/kinoralaw21.HueColours", spec := "hueColours", apart := false }
def HueColoursSaid : Prop := hueColoursRow.holds Try.pinned (OpenSpec.ofChange hueColoursSpec)

/-- ITS FALSE NEIGHBOUR: 'it returns false'. Refute it at one input. -/
def hueColoursWrong : ChangeSpec := { name := "hueColours", fn := fun _ => fun
  | [d1, d2, d3, d4, d5] => { results := [.lit (.bool false)], args := [d1, d2, d3, d4, d5] }
  | _ => none }
def HueColoursWrongFalsely : Prop := hueColoursRow.holds Try.pinned (OpenSpec.ofChange hueColoursWrong)

/-- 'kinoralaw21.HueTells': WHATEVER THE INPUT: true; the input reads as it did. -/
def hueTellsSpec : ChangeSpec := { name := "hueTells", fn := fun _ => fun
  | [d1, d2, d3, d4] => { results := [.lit (.bool true)], args := [d1, d2, d3, d4] }
  | _ => none }
def hueTellsRow : OpenClaim := { program := "yticjiodnolngcaa", sum := "61f2df984a3f795d646f8b55f900e176c3c5f0130af5dcacf0b535adf4cd24f5", func := "kinora/kinoralaw21.HueTells", spec := "hueTells", apart := false }
def HueTellsSaid : Prop := hueTellsRow.holds Try.pinned (OpenSpec.ofChange hueTellsSpec)

/-- ITS FALSE NEIGHBOUR: 'it returns false'. Refute it at one input. -/
def hueTellsWrong : ChangeSpec := { name := "hueTells", fn := fun _ => fun
  | [d1, d2, d3, d4] => { results := [.lit (.bool false)], args := [d1, d2, d3, d4] }
  | _ => none }
def HueTellsWrongFalsely : Prop := hueTellsRow.holds Try.pinned (OpenSpec.ofChange hueTellsWrong)

/- THE SECOND FORM. 'bulk': how many values and letters a reading holds, each counted each time it is reached (what is shared counts as often as it is met; a slice's spare places count too). A statement '..UptoSaid' is the law's where the arguments, and the package variables that the reading takes, are together of bulk at most 1048576: NARROWER than '..Said'. Prove '..Said' where nothing that the law and all that it calls make is longer than what came in: it says more and counts as full. Else prove '..UptoSaid'. A law counts once. -/
mutual
def uptoBulk {H : Type} : DataW H → Nat
  | .lit (.string bytes) => bytes.length + 1
  | .lit _ => 1
  | .nil => 1
  | .ptr d => uptoBulk d + 1
  | .slice elems spare => uptoBulkAll elems + uptoBulkAll spare + 1
  | .agg parts => uptoBulkAll parts + 1
  | .iface _ d => uptoBulk d + 1
  | .map entries => uptoBulkEntries entries + 1
  | .held _ => 1
def uptoBulkAll {H : Type} : List (DataW H) → Nat
  | [] => 0
  | d :: r => uptoBulk d + uptoBulkAll r
def uptoBulkEntries {H : Type} : List (Lit × DataW H) → Nat
  | [] => 0
  | x :: r => uptoBulkEntry x + uptoBulkEntries r
def uptoBulkEntry {H : Type} : Lit × DataW H → Nat
  | (.string bytes, d) => bytes.length + uptoBulk d + 1
  | (_, d) => uptoBulk d + 1
 end
def uptoSmall : (H : Type) → List (DataW H) → Bool := fun _ ds => decide (uptoBulkAll ds ≤ 1048576)
def OpenSpec.upto (s : _root_.Go.ChangeSpec) : _root_.Go.OpenSpec := { _root_.Go.OpenSpec.ofChange s with cond := some uptoSmall }

/-- 'kinoralaw21.HueGrey', WHERE WHAT IT READS IS OF BULK AT MOST 1048576: true; the input reads as it did. -/
def hueGreyUptoRow : OpenClaim := { program := "yticjiodnolngcaa", sum := "61f2df984a3f795d646f8b55f900e176c3c5f0130af5dcacf0b535adf4cd24f5", func := "kinora/kinoralaw21.HueGrey", spec := "hueGrey", apart := false, narrowed := true }
def HueGreyUptoSaid : Prop := hueGreyUptoRow.holds Try.pinned (OpenSpec.upto hueGreySpec)

/-- 'kinoralaw21.HueLeast', WHERE WHAT IT READS IS OF BULK AT MOST 1048576: true; the input reads as it did. -/
def hueLeastUptoRow : OpenClaim := { program := "yticjiodnolngcaa", sum := "61f2df984a3f795d646f8b55f900e176c3c5f0130af5dcacf0b535adf4cd24f5", func := "kinora/kinoralaw21.HueLeast", spec := "hueLeast", apart := false, narrowed := true }
def HueLeastUptoSaid : Prop := hueLeastUptoRow.holds Try.pinned (OpenSpec.upto hueLeastSpec)

/-- 'kinoralaw21.HueBack', WHERE WHAT IT READS IS OF BULK AT MOST 1048576: true; the input reads as it did. -/
def hueBackUptoRow : OpenClaim := { program := "yticjiodnolngcaa", sum := "61f2df984a3f795d646f8b55f900e176c3c5f0130af5dcacf0b535adf4cd24f5", func := "kinora/kinoralaw21.HueBack", spec := "hueBack", apart := false, narrowed := true }
def HueBackUptoSaid : Prop := hueBackUptoRow.holds Try.pinned (OpenSpec.upto hueBackSpec)

/-- 'kinoralaw21.HueColours', WHERE WHAT IT READS IS OF BULK AT MOST 1048576: true; the input reads as it did. -/
def hueColoursUptoRow : OpenClaim := { program := "yticjiodnolngcaa", sum := "61f2df984a3f795d646f8b55f900e176c3c5f0130af5dcacf0b535adf4cd24f5", func := "kinora/kinoralaw21.HueColours", spec := "hueColours", apart := false, narrowed := true }
def HueColoursUptoSaid : Prop := hueColoursUptoRow.holds Try.pinned (OpenSpec.upto hueColoursSpec)

/-- 'kinoralaw21.HueTells', WHERE WHAT IT READS IS OF BULK AT MOST 1048576: true; the input reads as it did. -/
def hueTellsUptoRow : OpenClaim := { program := "yticjiodnolngcaa", sum := "61f2df984a3f795d646f8b55f900e176c3c5f0130af5dcacf0b535adf4cd24f5", func := "kinora/kinoralaw21.HueTells", spec := "hueTells", apart := false, narrowed := true }
def HueTellsUptoSaid : Prop := hueTellsUptoRow.holds Try.pinned (OpenSpec.upto hueTellsSpec)

end Rows
end Go.Proofs.Yticjiodnolngcaa
