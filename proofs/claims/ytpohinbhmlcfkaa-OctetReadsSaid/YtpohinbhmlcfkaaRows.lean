/-
  No cell of these rows narrows 'for every input' (looked for: loops, veiled, ifaces, maps, wideKeys, modest, calm, conditions, laid).
  DERIVED. THE GIVEN ROWS OF THIS SEAT. 7 by the template 'for every input the law returns true; each argument reads behind the call as it read before'; 0 by the template 'total and deterministic' (their statements: YtpohinbhmlcfkaaTotals.lean).
  GIVEN WITH THE SEED: the statements are not yours to turn. If you find one false, say at which input.
  Laid BY PROGRAM, IN A SANDBOX (cutbox-rows.mjs): the forced cells as the released guide's own fill.sh prints them over the translation 133eb1f600c2fe8a… (all of the seat's roots in one cut). By AI agents, Wed Nov 11 2026. No macro, syntax, notation, axiom, sorry.
-/
import Derived.Test.YtpohinbhmlcfkaaChecked
import GoSem.Claim
import GoSem.ClaimJoined
import GoSem.ClaimMapViews
import Derived.JoinedTies
import Derived.KernelRfl
namespace Go.Proofs.Ytpohinbhmlcfkaa
/- THE CELL 'sum', in the pinned program and in every row, IS THE sha256 OF THE DUMP (.gsa) THAT YtpohinbhmlcfkaaProg.lean LOADS. Nothing in Lean hashes anything: it is a label: what it is worth is what the hold of that sum in a sandbox is worth. -/
noncomputable def Try.pinned : Pinned := { name := "ytpohinbhmlcfkaa", sum := "133eb1f600c2fe8a886812d3be40144dd12d5b06d887ef3eee5c4d32f7b0942b", checked := Try.checked }
namespace Rows
def none {H : Type} : Left H := { results := [], args := [] }

/-- 'kinoralaw1.OctetOne': WHATEVER THE INPUT: true; the input reads as it did. -/
def octetOneSpec : ChangeSpec := { name := "octetOne", fn := fun _ => fun
  | [d1, d2] => { results := [.lit (.bool true)], args := [d1, d2] }
  | _ => none }
def octetOneRow : OpenClaim := { program := "ytpohinbhmlcfkaa", sum := "133eb1f600c2fe8a886812d3be40144dd12d5b06d887ef3eee5c4d32f7b0942b", func := "kinora/kinoralaw1.OctetOne", spec := "octetOne", apart := false }
def OctetOneSaid : Prop := octetOneRow.holds Try.pinned (OpenSpec.ofChange octetOneSpec)

/-- ITS FALSE NEIGHBOUR: 'it returns false'. Refute it at one input. -/
def octetOneWrong : ChangeSpec := { name := "octetOne", fn := fun _ => fun
  | [d1, d2] => { results := [.lit (.bool false)], args := [d1, d2] }
  | _ => none }
def OctetOneWrongFalsely : Prop := octetOneRow.holds Try.pinned (OpenSpec.ofChange octetOneWrong)

/-- 'kinoralaw1.OctetZigs': WHATEVER THE INPUT: true; the input reads as it did. -/
def octetZigsSpec : ChangeSpec := { name := "octetZigs", fn := fun _ => fun
  | [d1, d2] => { results := [.lit (.bool true)], args := [d1, d2] }
  | _ => none }
def octetZigsRow : OpenClaim := { program := "ytpohinbhmlcfkaa", sum := "133eb1f600c2fe8a886812d3be40144dd12d5b06d887ef3eee5c4d32f7b0942b", func := "kinora/kinoralaw1.OctetZigs", spec := "octetZigs", apart := false }
def OctetZigsSaid : Prop := octetZigsRow.holds Try.pinned (OpenSpec.ofChange octetZigsSpec)

/-- ITS FALSE NEIGHBOUR: 'it returns false'. Refute it at one input. -/
def octetZigsWrong : ChangeSpec := { name := "octetZigs", fn := fun _ => fun
  | [d1, d2] => { results := [.lit (.bool false)], args := [d1, d2] }
  | _ => none }
def OctetZigsWrongFalsely : Prop := octetZigsRow.holds Try.pinned (OpenSpec.ofChange octetZigsWrong)

/-- 'kinoralaw1.OctetLonger': WHATEVER THE INPUT: true; the input reads as it did. -/
def octetLongerSpec : ChangeSpec := { name := "octetLonger", fn := fun _ => fun
  | [d1, d2] => { results := [.lit (.bool true)], args := [d1, d2] }
  | _ => none }
def octetLongerRow : OpenClaim := { program := "ytpohinbhmlcfkaa", sum := "133eb1f600c2fe8a886812d3be40144dd12d5b06d887ef3eee5c4d32f7b0942b", func := "kinora/kinoralaw1.OctetLonger", spec := "octetLonger", apart := false }
def OctetLongerSaid : Prop := octetLongerRow.holds Try.pinned (OpenSpec.ofChange octetLongerSpec)

/-- ITS FALSE NEIGHBOUR: 'it returns false'. Refute it at one input. -/
def octetLongerWrong : ChangeSpec := { name := "octetLonger", fn := fun _ => fun
  | [d1, d2] => { results := [.lit (.bool false)], args := [d1, d2] }
  | _ => none }
def OctetLongerWrongFalsely : Prop := octetLongerRow.holds Try.pinned (OpenSpec.ofChange octetLongerWrong)

/-- 'kinoralaw1.OctetMost': WHATEVER THE INPUT: true; the input reads as it did. -/
def octetMostSpec : ChangeSpec := { name := "octetMost", fn := fun _ => fun
  | [d1, d2, d3] => { results := [.lit (.bool true)], args := [d1, d2, d3] }
  | _ => none }
def octetMostRow : OpenClaim := { program := "ytpohinbhmlcfkaa", sum := "133eb1f600c2fe8a886812d3be40144dd12d5b06d887ef3eee5c4d32f7b0942b", func := "kinora/kinoralaw1.OctetMost", spec := "octetMost", apart := false }
def OctetMostSaid : Prop := octetMostRow.holds Try.pinned (OpenSpec.ofChange octetMostSpec)

/-- ITS FALSE NEIGHBOUR: 'it returns false'. Refute it at one input. -/
def octetMostWrong : ChangeSpec := { name := "octetMost", fn := fun _ => fun
  | [d1, d2, d3] => { results := [.lit (.bool false)], args := [d1, d2, d3] }
  | _ => none }
def OctetMostWrongFalsely : Prop := octetMostRow.holds Try.pinned (OpenSpec.ofChange octetMostWrong)

/-- 'kinoralaw1.OctetBack': WHATEVER THE INPUT: true; the input reads as it did. -/
def octetBackSpec : ChangeSpec := { name := "octetBack", fn := fun _ => fun
  | [d1, d2] => { results := [.lit (.bool true)], args := [d1, d2] }
  | _ => none }
def octetBackRow : OpenClaim := { program := "ytpohinbhmlcfkaa", sum := "133eb1f600c2fe8a886812d3be40144dd12d5b06d887ef3eee5c4d32f7b0942b", func := "kinora/kinoralaw1.OctetBack", spec := "octetBack", apart := false }
def OctetBackSaid : Prop := octetBackRow.holds Try.pinned (OpenSpec.ofChange octetBackSpec)

/-- ITS FALSE NEIGHBOUR: 'it returns false'. Refute it at one input. -/
def octetBackWrong : ChangeSpec := { name := "octetBack", fn := fun _ => fun
  | [d1, d2] => { results := [.lit (.bool false)], args := [d1, d2] }
  | _ => none }
def OctetBackWrongFalsely : Prop := octetBackRow.holds Try.pinned (OpenSpec.ofChange octetBackWrong)

/-- 'kinoralaw1.OctetReads': WHATEVER THE INPUT: true; the input reads as it did. -/
def octetReadsSpec : ChangeSpec := { name := "octetReads", fn := fun _ => fun
  | [d1, d2] => { results := [.lit (.bool true)], args := [d1, d2] }
  | _ => none }
def octetReadsRow : OpenClaim := { program := "ytpohinbhmlcfkaa", sum := "133eb1f600c2fe8a886812d3be40144dd12d5b06d887ef3eee5c4d32f7b0942b", func := "kinora/kinoralaw1.OctetReads", spec := "octetReads", apart := false }
def OctetReadsSaid : Prop := octetReadsRow.holds Try.pinned (OpenSpec.ofChange octetReadsSpec)

/-- ITS FALSE NEIGHBOUR: 'it returns false'. Refute it at one input. -/
def octetReadsWrong : ChangeSpec := { name := "octetReads", fn := fun _ => fun
  | [d1, d2] => { results := [.lit (.bool false)], args := [d1, d2] }
  | _ => none }
def OctetReadsWrongFalsely : Prop := octetReadsRow.holds Try.pinned (OpenSpec.ofChange octetReadsWrong)

/-- 'kinoralaw1.OctetTurned': WHATEVER THE INPUT: true; the input reads as it did. -/
def octetTurnedSpec : ChangeSpec := { name := "octetTurned", fn := fun _ => fun
  | [d1, d2] => { results := [.lit (.bool true)], args := [d1, d2] }
  | _ => none }
def octetTurnedRow : OpenClaim := { program := "ytpohinbhmlcfkaa", sum := "133eb1f600c2fe8a886812d3be40144dd12d5b06d887ef3eee5c4d32f7b0942b", func := "kinora/kinoralaw1.OctetTurned", spec := "octetTurned", apart := false }
def OctetTurnedSaid : Prop := octetTurnedRow.holds Try.pinned (OpenSpec.ofChange octetTurnedSpec)

/-- ITS FALSE NEIGHBOUR: 'it returns false'. Refute it at one input. -/
def octetTurnedWrong : ChangeSpec := { name := "octetTurned", fn := fun _ => fun
  | [d1, d2] => { results := [.lit (.bool false)], args := [d1, d2] }
  | _ => none }
def OctetTurnedWrongFalsely : Prop := octetTurnedRow.holds Try.pinned (OpenSpec.ofChange octetTurnedWrong)

/- THE SECOND FORM. 'bulk': how many values and letters a reading holds, each counted each time it is reached (what is shared counts as often as it is met; a slice's spare places count too). A statement '..UptoSaid' is the law's where the arguments, and the package variables that the reading takes, are together of bulk at most 1048576: NARROWER than '..Said'. Prove '..Said' where nothing that the law and all that it calls make is longer than what came in: it says more and counts as full. Else prove '..UptoSaid'. A law counts once. -/
mutual
def uptoBulk {H : Type} : DataW H → Nat
  | .lit (.string bytes) => bytes.length + 1
  | .lit _ => 1
  | .nil => 1
  | .ptr d => uptoBulk d + 1
  | .slice elems spare => uptoBulkAll elems + uptoBulkAll spare + 1
  | .agg parts => uptoBulkAll parts + 1
  | .iface _ d => uptoBulk d + 1
  | .map entries => uptoBulkEntries entries + 1
  | .held _ => 1
def uptoBulkAll {H : Type} : List (DataW H) → Nat
  | [] => 0
  | d :: r => uptoBulk d + uptoBulkAll r
def uptoBulkEntries {H : Type} : List (Lit × DataW H) → Nat
  | [] => 0
  | x :: r => uptoBulkEntry x + uptoBulkEntries r
def uptoBulkEntry {H : Type} : Lit × DataW H → Nat
  | (.string bytes, d) => bytes.length + uptoBulk d + 1
  | (_, d) => uptoBulk d + 1
 end
def uptoSmall : (H : Type) → List (DataW H) → Bool := fun _ ds => decide (uptoBulkAll ds ≤ 1048576)
def OpenSpec.upto (s : _root_.Go.ChangeSpec) : _root_.Go.OpenSpec := { _root_.Go.OpenSpec.ofChange s with cond := some uptoSmall }

/-- 'kinoralaw1.OctetOne', WHERE WHAT IT READS IS OF BULK AT MOST 1048576: true; the input reads as it did. -/
def octetOneUptoRow : OpenClaim := { program := "ytpohinbhmlcfkaa", sum := "133eb1f600c2fe8a886812d3be40144dd12d5b06d887ef3eee5c4d32f7b0942b", func := "kinora/kinoralaw1.OctetOne", spec := "octetOne", apart := false, narrowed := true }
def OctetOneUptoSaid : Prop := octetOneUptoRow.holds Try.pinned (OpenSpec.upto octetOneSpec)

/-- 'kinoralaw1.OctetZigs', WHERE WHAT IT READS IS OF BULK AT MOST 1048576: true; the input reads as it did. -/
def octetZigsUptoRow : OpenClaim := { program := "ytpohinbhmlcfkaa", sum := "133eb1f600c2fe8a886812d3be40144dd12d5b06d887ef3eee5c4d32f7b0942b", func := "kinora/kinoralaw1.OctetZigs", spec := "octetZigs", apart := false, narrowed := true }
def OctetZigsUptoSaid : Prop := octetZigsUptoRow.holds Try.pinned (OpenSpec.upto octetZigsSpec)

/-- 'kinoralaw1.OctetLonger', WHERE WHAT IT READS IS OF BULK AT MOST 1048576: true; the input reads as it did. -/
def octetLongerUptoRow : OpenClaim := { program := "ytpohinbhmlcfkaa", sum := "133eb1f600c2fe8a886812d3be40144dd12d5b06d887ef3eee5c4d32f7b0942b", func := "kinora/kinoralaw1.OctetLonger", spec := "octetLonger", apart := false, narrowed := true }
def OctetLongerUptoSaid : Prop := octetLongerUptoRow.holds Try.pinned (OpenSpec.upto octetLongerSpec)

/-- 'kinoralaw1.OctetMost', WHERE WHAT IT READS IS OF BULK AT MOST 1048576: true; the input reads as it did. -/
def octetMostUptoRow : OpenClaim := { program := "ytpohinbhmlcfkaa", sum := "133eb1f600c2fe8a886812d3be40144dd12d5b06d887ef3eee5c4d32f7b0942b", func := "kinora/kinoralaw1.OctetMost", spec := "octetMost", apart := false, narrowed := true }
def OctetMostUptoSaid : Prop := octetMostUptoRow.holds Try.pinned (OpenSpec.upto octetMostSpec)

/-- 'kinoralaw1.OctetBack', WHERE WHAT IT READS IS OF BULK AT MOST 1048576: true; the input reads as it did. -/
def octetBackUptoRow : OpenClaim := { program := "ytpohinbhmlcfkaa", sum := "133eb1f600c2fe8a886812d3be40144dd12d5b06d887ef3eee5c4d32f7b0942b", func := "kinora/kinoralaw1.OctetBack", spec := "octetBack", apart := false, narrowed := true }
def OctetBackUptoSaid : Prop := octetBackUptoRow.holds Try.pinned (OpenSpec.upto octetBackSpec)

/-- 'kinoralaw1.OctetReads', WHERE WHAT IT READS IS OF BULK AT MOST 1048576: true; the input reads as it did. -/
def octetReadsUptoRow : OpenClaim := { program := "ytpohinbhmlcfkaa", sum := "133eb1f600c2fe8a886812d3be40144dd12d5b06d887ef3eee5c4d32f7b0942b", func := "kinora/kinoralaw1.OctetReads", spec := "octetReads", apart := false, narrowed := true }
def OctetReadsUptoSaid : Prop := octetReadsUptoRow.holds Try.pinned (OpenSpec.upto octetReadsSpec)

/-- 'kinoralaw1.OctetTurned', WHERE WHAT IT READS IS OF BULK AT MOST 1048576: true; the input reads as it did. -/
def octetTurnedUptoRow : OpenClaim := { program := "ytpohinbhmlcfkaa", sum := "133eb1f600c2fe8a886812d3be40144dd12d5b06d887ef3eee5c4d32f7b0942b", func := "kinora/kinoralaw1.OctetTurned", spec := "octetTurned", apart := false, narrowed := true }
def OctetTurnedUptoSaid : Prop := octetTurnedUptoRow.holds Try.pinned (OpenSpec.upto octetTurnedSpec)

end Rows
end Go.Proofs.Ytpohinbhmlcfkaa
