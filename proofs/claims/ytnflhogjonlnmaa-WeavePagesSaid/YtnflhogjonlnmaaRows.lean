/-
  No cell of these rows narrows 'for every input' (looked for: loops, veiled, ifaces, maps, wideKeys, modest, calm, conditions, laid).
  DERIVED. THE GIVEN ROWS OF THIS SEAT. 7 by the template 'for every input the law returns true; each argument reads behind the call as it read before'; 0 by the template 'total and deterministic' (their statements: YtnflhogjonlnmaaTotals.lean).
  GIVEN WITH THE SEED: the statements are not yours to turn. If you find one false, say at which input.
  Laid BY PROGRAM, IN A SANDBOX (cutbox-rows.mjs): the forced cells as the released guide's own fill.sh prints them over the translation 1ead72c6b0a7c594… (all of the seat's roots in one cut). By AI agents, Wed Nov 11 2026. No macro, syntax, notation, axiom, sorry.
-/
import Derived.Test.YtnflhogjonlnmaaChecked
import GoSem.Claim
import GoSem.ClaimJoined
import GoSem.ClaimMapViews
import Derived.JoinedTies
import Derived.KernelRfl
namespace Go.Proofs.Ytnflhogjonlnmaa
/- THE CELL 'sum', in the pinned program and in every row, IS THE sha256 OF THE DUMP (.gsa) THAT YtnflhogjonlnmaaProg.lean LOADS. Nothing in Lean hashes anything: it is a label: what it is worth is what the hold of that sum in a sandbox is worth. -/
noncomputable def Try.pinned : Pinned := { name := "ytnflhogjonlnmaa", sum := "1ead72c6b0a7c59401d4a9d59dabd9a20a6c25ab5b62825ba6bb1ac2899e9e4f", checked := Try.checked }
namespace Rows
def none {H : Type} : Left H := { results := [], args := [] }

/-- 'kinoralaw33.WeavePlays': WHATEVER THE INPUT: true; the input reads as it did. -/
def weavePlaysSpec : ChangeSpec := { name := "weavePlays", fn := fun _ => fun
  | [d1, d2, d3, d4] => { results := [.lit (.bool true)], args := [d1, d2, d3, d4] }
  | _ => none }
def weavePlaysRow : OpenClaim := { program := "ytnflhogjonlnmaa", sum := "1ead72c6b0a7c59401d4a9d59dabd9a20a6c25ab5b62825ba6bb1ac2899e9e4f", func := "kinora/kinoralaw33.WeavePlays", spec := "weavePlays", apart := false }
def WeavePlaysSaid : Prop := weavePlaysRow.holds Try.pinned (OpenSpec.ofChange weavePlaysSpec)

/-- ITS FALSE NEIGHBOUR: 'it returns false'. Refute it at one input. -/
def weavePlaysWrong : ChangeSpec := { name := "weavePlays", fn := fun _ => fun
  | [d1, d2, d3, d4] => { results := [.lit (.bool false)], args := [d1, d2, d3, d4] }
  | _ => none }
def WeavePlaysWrongFalsely : Prop := weavePlaysRow.holds Try.pinned (OpenSpec.ofChange weavePlaysWrong)

/-- 'kinoralaw33.WeaveFull': WHATEVER THE INPUT: true; the input reads as it did. -/
def weaveFullSpec : ChangeSpec := { name := "weaveFull", fn := fun _ => fun
  | [d1, d2] => { results := [.lit (.bool true)], args := [d1, d2] }
  | _ => none }
def weaveFullRow : OpenClaim := { program := "ytnflhogjonlnmaa", sum := "1ead72c6b0a7c59401d4a9d59dabd9a20a6c25ab5b62825ba6bb1ac2899e9e4f", func := "kinora/kinoralaw33.WeaveFull", spec := "weaveFull", apart := false }
def WeaveFullSaid : Prop := weaveFullRow.holds Try.pinned (OpenSpec.ofChange weaveFullSpec)

/-- ITS FALSE NEIGHBOUR: 'it returns false'. Refute it at one input. -/
def weaveFullWrong : ChangeSpec := { name := "weaveFull", fn := fun _ => fun
  | [d1, d2] => { results := [.lit (.bool false)], args := [d1, d2] }
  | _ => none }
def WeaveFullWrongFalsely : Prop := weaveFullRow.holds Try.pinned (OpenSpec.ofChange weaveFullWrong)

/-- 'kinoralaw33.WeaveBound': WHATEVER THE INPUT: true; the input reads as it did. -/
def weaveBoundSpec : ChangeSpec := { name := "weaveBound", fn := fun _ => fun
  | [d1, d2] => { results := [.lit (.bool true)], args := [d1, d2] }
  | _ => none }
def weaveBoundRow : OpenClaim := { program := "ytnflhogjonlnmaa", sum := "1ead72c6b0a7c59401d4a9d59dabd9a20a6c25ab5b62825ba6bb1ac2899e9e4f", func := "kinora/kinoralaw33.WeaveBound", spec := "weaveBound", apart := false }
def WeaveBoundSaid : Prop := weaveBoundRow.holds Try.pinned (OpenSpec.ofChange weaveBoundSpec)

/-- ITS FALSE NEIGHBOUR: 'it returns false'. Refute it at one input. -/
def weaveBoundWrong : ChangeSpec := { name := "weaveBound", fn := fun _ => fun
  | [d1, d2] => { results := [.lit (.bool false)], args := [d1, d2] }
  | _ => none }
def WeaveBoundWrongFalsely : Prop := weaveBoundRow.holds Try.pinned (OpenSpec.ofChange weaveBoundWrong)

/-- 'kinoralaw33.WeaveAll': WHATEVER THE INPUT: true; the input reads as it did. -/
def weaveAllSpec : ChangeSpec := { name := "weaveAll", fn := fun _ => fun
  | [d1, d2, d3, d4] => { results := [.lit (.bool true)], args := [d1, d2, d3, d4] }
  | _ => none }
def weaveAllRow : OpenClaim := { program := "ytnflhogjonlnmaa", sum := "1ead72c6b0a7c59401d4a9d59dabd9a20a6c25ab5b62825ba6bb1ac2899e9e4f", func := "kinora/kinoralaw33.WeaveAll", spec := "weaveAll", unfollowed := true, recurses := true, apart := false }
def WeaveAllSaid : Prop := weaveAllRow.holds Try.pinned (OpenSpec.ofChange weaveAllSpec)

/-- ITS FALSE NEIGHBOUR: 'it returns false'. Refute it at one input. -/
def weaveAllWrong : ChangeSpec := { name := "weaveAll", fn := fun _ => fun
  | [d1, d2, d3, d4] => { results := [.lit (.bool false)], args := [d1, d2, d3, d4] }
  | _ => none }
def WeaveAllWrongFalsely : Prop := weaveAllRow.holds Try.pinned (OpenSpec.ofChange weaveAllWrong)

/-- 'kinoralaw33.WeaveSorted': WHATEVER THE INPUT: true; the input reads as it did. -/
def weaveSortedSpec : ChangeSpec := { name := "weaveSorted", fn := fun _ => fun
  | [d] => { results := [.lit (.bool true)], args := [d] }
  | _ => none }
def weaveSortedRow : OpenClaim := { program := "ytnflhogjonlnmaa", sum := "1ead72c6b0a7c59401d4a9d59dabd9a20a6c25ab5b62825ba6bb1ac2899e9e4f", func := "kinora/kinoralaw33.WeaveSorted", spec := "weaveSorted", unfollowed := true, recurses := true, apart := false }
def WeaveSortedSaid : Prop := weaveSortedRow.holds Try.pinned (OpenSpec.ofChange weaveSortedSpec)

/-- ITS FALSE NEIGHBOUR: 'it returns false'. Refute it at one input. -/
def weaveSortedWrong : ChangeSpec := { name := "weaveSorted", fn := fun _ => fun
  | [d] => { results := [.lit (.bool false)], args := [d] }
  | _ => none }
def WeaveSortedWrongFalsely : Prop := weaveSortedRow.holds Try.pinned (OpenSpec.ofChange weaveSortedWrong)

/-- 'kinoralaw33.WeaveLive': WHATEVER THE INPUT: true; the input reads as it did. -/
def weaveLiveSpec : ChangeSpec := { name := "weaveLive", fn := fun _ => fun
  | [d1, d2] => { results := [.lit (.bool true)], args := [d1, d2] }
  | _ => none }
def weaveLiveRow : OpenClaim := { program := "ytnflhogjonlnmaa", sum := "1ead72c6b0a7c59401d4a9d59dabd9a20a6c25ab5b62825ba6bb1ac2899e9e4f", func := "kinora/kinoralaw33.WeaveLive", spec := "weaveLive", unfollowed := true, recurses := true, apart := false }
def WeaveLiveSaid : Prop := weaveLiveRow.holds Try.pinned (OpenSpec.ofChange weaveLiveSpec)

/-- ITS FALSE NEIGHBOUR: 'it returns false'. Refute it at one input. -/
def weaveLiveWrong : ChangeSpec := { name := "weaveLive", fn := fun _ => fun
  | [d1, d2] => { results := [.lit (.bool false)], args := [d1, d2] }
  | _ => none }
def WeaveLiveWrongFalsely : Prop := weaveLiveRow.holds Try.pinned (OpenSpec.ofChange weaveLiveWrong)

/-- 'kinoralaw33.WeavePages': WHATEVER THE INPUT: true; the input reads as it did. -/
def weavePagesSpec : ChangeSpec := { name := "weavePages", fn := fun _ => fun
  | [d1, d2] => { results := [.lit (.bool true)], args := [d1, d2] }
  | _ => none }
def weavePagesRow : OpenClaim := { program := "ytnflhogjonlnmaa", sum := "1ead72c6b0a7c59401d4a9d59dabd9a20a6c25ab5b62825ba6bb1ac2899e9e4f", func := "kinora/kinoralaw33.WeavePages", spec := "weavePages", unfollowed := true, recurses := true, apart := false }
def WeavePagesSaid : Prop := weavePagesRow.holds Try.pinned (OpenSpec.ofChange weavePagesSpec)

/-- ITS FALSE NEIGHBOUR: 'it returns false'. Refute it at one input. -/
def weavePagesWrong : ChangeSpec := { name := "weavePages", fn := fun _ => fun
  | [d1, d2] => { results := [.lit (.bool false)], args := [d1, d2] }
  | _ => none }
def WeavePagesWrongFalsely : Prop := weavePagesRow.holds Try.pinned (OpenSpec.ofChange weavePagesWrong)

/- THE SECOND FORM. 'bulk': how many values and letters a reading holds, each counted each time it is reached (what is shared counts as often as it is met; a slice's spare places count too). A statement '..UptoSaid' is the law's where the arguments, and the package variables that the reading takes, are together of bulk at most 1048576: NARROWER than '..Said'. Prove '..Said' where nothing that the law and all that it calls make is longer than what came in: it says more and counts as full. Else prove '..UptoSaid'. A law counts once. -/
mutual
def uptoBulk {H : Type} : DataW H → Nat
  | .lit (.string bytes) => bytes.length + 1
  | .lit _ => 1
  | .nil => 1
  | .ptr d => uptoBulk d + 1
  | .slice elems spare => uptoBulkAll elems + uptoBulkAll spare + 1
  | .agg parts => uptoBulkAll parts + 1
  | .iface _ d => uptoBulk d + 1
  | .map entries => uptoBulkEntries entries + 1
  | .held _ => 1
def uptoBulkAll {H : Type} : List (DataW H) → Nat
  | [] => 0
  | d :: r => uptoBulk d + uptoBulkAll r
def uptoBulkEntries {H : Type} : List (Lit × DataW H) → Nat
  | [] => 0
  | x :: r => uptoBulkEntry x + uptoBulkEntries r
def uptoBulkEntry {H : Type} : Lit × DataW H → Nat
  | (.string bytes, d) => bytes.length + uptoBulk d + 1
  | (_, d) => uptoBulk d + 1
 end
def uptoSmall : (H : Type) → List (DataW H) → Bool := fun _ ds => decide (uptoBulkAll ds ≤ 1048576)
def OpenSpec.upto (s : _root_.Go.ChangeSpec) : _root_.Go.OpenSpec := { _root_.Go.OpenSpec.ofChange s with cond := some uptoSmall }

/-- 'kinoralaw33.WeavePlays', WHERE WHAT IT READS IS OF BULK AT MOST 1048576: true; the input reads as it did. -/
def weavePlaysUptoRow : OpenClaim := { program := "ytnflhogjonlnmaa", sum := "1ead72c6b0a7c59401d4a9d59dabd9a20a6c25ab5b62825ba6bb1ac2899e9e4f", func := "kinora/kinoralaw33.WeavePlays", spec := "weavePlays", apart := false, narrowed := true }
def WeavePlaysUptoSaid : Prop := weavePlaysUptoRow.holds Try.pinned (OpenSpec.upto weavePlaysSpec)

/-- 'kinoralaw33.WeaveFull', WHERE WHAT IT READS IS OF BULK AT MOST 1048576: true; the input reads as it did. -/
def weaveFullUptoRow : OpenClaim := { program := "ytnflhogjonlnmaa", sum := "1ead72c6b0a7c59401d4a9d59dabd9a20a6c25ab5b62825ba6bb1ac2899e9e4f", func := "kinora/kinoralaw33.WeaveFull", spec := "weaveFull", apart := false, narrowed := true }
def WeaveFullUptoSaid : Prop := weaveFullUptoRow.holds Try.pinned (OpenSpec.upto weaveFullSpec)

/-- 'kinoralaw33.WeaveBound', WHERE WHAT IT READS IS OF BULK AT MOST 1048576: true; the input reads as it did. -/
def weaveBoundUptoRow : OpenClaim := { program := "ytnflhogjonlnmaa", sum := "1ead72c6b0a7c59401d4a9d59dabd9a20a6c25ab5b62825ba6bb1ac2899e9e4f", func := "kinora/kinoralaw33.WeaveBound", spec := "weaveBound", apart := false, narrowed := true }
def WeaveBoundUptoSaid : Prop := weaveBoundUptoRow.holds Try.pinned (OpenSpec.upto weaveBoundSpec)

/-- 'kinoralaw33.WeaveAll', WHERE WHAT IT READS IS OF BULK AT MOST 1048576: true; the input reads as it did. -/
def weaveAllUptoRow : OpenClaim := { program := "ytnflhogjonlnmaa", sum := "1ead72c6b0a7c59401d4a9d59dabd9a20a6c25ab5b62825ba6bb1ac2899e9e4f", func := "kinora/kinoralaw33.WeaveAll", spec := "weaveAll", unfollowed := true, recurses := true, apart := false, narrowed := true }
def WeaveAllUptoSaid : Prop := weaveAllUptoRow.holds Try.pinned (OpenSpec.upto weaveAllSpec)

/-- 'kinoralaw33.WeaveSorted', WHERE WHAT IT READS IS OF BULK AT MOST 1048576: true; the input reads as it did. -/
def weaveSortedUptoRow : OpenClaim := { program := "ytnflhogjonlnmaa", sum := "1ead72c6b0a7c59401d4a9d59dabd9a20a6c25ab5b62825ba6bb1ac2899e9e4f", func := "kinora/kinoralaw33.WeaveSorted", spec := "weaveSorted", unfollowed := true, recurses := true, apart := false, narrowed := true }
def WeaveSortedUptoSaid : Prop := weaveSortedUptoRow.holds Try.pinned (OpenSpec.upto weaveSortedSpec)

/-- 'kinoralaw33.WeaveLive', WHERE WHAT IT READS IS OF BULK AT MOST 1048576: true; the input reads as it did. -/
def weaveLiveUptoRow : OpenClaim := { program := "ytnflhogjonlnmaa", sum := "1ead72c6b0a7c59401d4a9d59dabd9a20a6c25ab5b62825ba6bb1ac2899e9e4f", func := "kinora/kinoralaw33.WeaveLive", spec := "weaveLive", unfollowed := true, recurses := true, apart := false, narrowed := true }
def WeaveLiveUptoSaid : Prop := weaveLiveUptoRow.holds Try.pinned (OpenSpec.upto weaveLiveSpec)

/-- 'kinoralaw33.WeavePages', WHERE WHAT IT READS IS OF BULK AT MOST 1048576: true; the input reads as it did. -/
def weavePagesUptoRow : OpenClaim := { program := "ytnflhogjonlnmaa", sum := "1ead72c6b0a7c59401d4a9d59dabd9a20a6c25ab5b62825ba6bb1ac2899e9e4f", func := "kinora/kinoralaw33.WeavePages", spec := "weavePages", unfollowed := true, recurses := true, apart := false, narrowed := true }
def WeavePagesUptoSaid : Prop := weavePagesUptoRow.holds Try.pinned (OpenSpec.upto weavePagesSpec)

end Rows
end Go.Proofs.Ytnflhogjonlnmaa
