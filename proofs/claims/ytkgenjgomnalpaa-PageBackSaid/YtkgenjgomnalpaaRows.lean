/-
  No cell of these rows narrows 'for every input' (looked for: loops, veiled, ifaces, maps, wideKeys, modest, calm, conditions, laid).
  DERIVED. THE GIVEN ROWS OF THIS SEAT. 5 by the template 'for every input the law returns true; each argument reads behind the call as it read before'; 0 by the template 'total and deterministic' (their statements: YtkgenjgomnalpaaTotals.lean).
  GIVEN WITH THE SEED: the statements are not yours to turn. If you find one false, say at which input.
  Laid BY PROGRAM, IN A SANDBOX (cutbox-rows.mjs): the forced cells as the released guide's own fill.sh prints them over the translation 3c330727a7eeea9d… (all of the seat's roots in one cut). By AI agents, Wed Nov 11 2026. No macro, syntax, notation, axiom, sorry.
-/
import Derived.Test.YtkgenjgomnalpaaChecked
import GoSem.Claim
import GoSem.ClaimJoined
import GoSem.ClaimMapViews
import Derived.JoinedTies
import Derived.KernelRfl
namespace Go.Proofs.Ytkgenjgomnalpaa
/- THE CELL 'sum', in the pinned program and in every row, IS THE sha256 OF THE DUMP (.gsa) THAT YtkgenjgomnalpaaProg.lean LOADS. Nothing in Lean hashes anything: it is a label: what it is worth is what the hold of that sum in a sandbox is worth. -/
noncomputable def Try.pinned : Pinned := { name := "ytkgenjgomnalpaa", sum := "3c330727a7eeea9db85eef1824e5d87869dd052d78f55d9738c4936b3dd026f7", checked := Try.checked }
namespace Rows
def none {H : Type} : Left H := { results := [], args := [] }

/-- 'kinoralaw32.PageLays': WHATEVER THE INPUT: true; the input reads as it did. -/
def pageLaysSpec : ChangeSpec := { name := "pageLays", fn := fun _ => fun
  | [d1, d2, d3] => { results := [.lit (.bool true)], args := [d1, d2, d3] }
  | _ => none }
def pageLaysRow : OpenClaim := { program := "ytkgenjgomnalpaa", sum := "3c330727a7eeea9db85eef1824e5d87869dd052d78f55d9738c4936b3dd026f7", func := "kinora/kinoralaw32.PageLays", spec := "pageLays", apart := false }
def PageLaysSaid : Prop := pageLaysRow.holds Try.pinned (OpenSpec.ofChange pageLaysSpec)

/-- ITS FALSE NEIGHBOUR: 'it returns false'. Refute it at one input. -/
def pageLaysWrong : ChangeSpec := { name := "pageLays", fn := fun _ => fun
  | [d1, d2, d3] => { results := [.lit (.bool false)], args := [d1, d2, d3] }
  | _ => none }
def PageLaysWrongFalsely : Prop := pageLaysRow.holds Try.pinned (OpenSpec.ofChange pageLaysWrong)

/-- 'kinoralaw32.PageTurned': WHATEVER THE INPUT: true; the input reads as it did. -/
def pageTurnedSpec : ChangeSpec := { name := "pageTurned", fn := fun _ => fun
  | [d1, d2, d3] => { results := [.lit (.bool true)], args := [d1, d2, d3] }
  | _ => none }
def pageTurnedRow : OpenClaim := { program := "ytkgenjgomnalpaa", sum := "3c330727a7eeea9db85eef1824e5d87869dd052d78f55d9738c4936b3dd026f7", func := "kinora/kinoralaw32.PageTurned", spec := "pageTurned", apart := false }
def PageTurnedSaid : Prop := pageTurnedRow.holds Try.pinned (OpenSpec.ofChange pageTurnedSpec)

/-- ITS FALSE NEIGHBOUR: 'it returns false'. Refute it at one input. -/
def pageTurnedWrong : ChangeSpec := { name := "pageTurned", fn := fun _ => fun
  | [d1, d2, d3] => { results := [.lit (.bool false)], args := [d1, d2, d3] }
  | _ => none }
def PageTurnedWrongFalsely : Prop := pageTurnedRow.holds Try.pinned (OpenSpec.ofChange pageTurnedWrong)

/-- 'kinoralaw32.PageSplits': WHATEVER THE INPUT: true; the input reads as it did. -/
def pageSplitsSpec : ChangeSpec := { name := "pageSplits", fn := fun _ => fun
  | [d1, d2, d3] => { results := [.lit (.bool true)], args := [d1, d2, d3] }
  | _ => none }
def pageSplitsRow : OpenClaim := { program := "ytkgenjgomnalpaa", sum := "3c330727a7eeea9db85eef1824e5d87869dd052d78f55d9738c4936b3dd026f7", func := "kinora/kinoralaw32.PageSplits", spec := "pageSplits", apart := false }
def PageSplitsSaid : Prop := pageSplitsRow.holds Try.pinned (OpenSpec.ofChange pageSplitsSpec)

/-- ITS FALSE NEIGHBOUR: 'it returns false'. Refute it at one input. -/
def pageSplitsWrong : ChangeSpec := { name := "pageSplits", fn := fun _ => fun
  | [d1, d2, d3] => { results := [.lit (.bool false)], args := [d1, d2, d3] }
  | _ => none }
def PageSplitsWrongFalsely : Prop := pageSplitsRow.holds Try.pinned (OpenSpec.ofChange pageSplitsWrong)

/-- 'kinoralaw32.PageBack': WHATEVER THE INPUT: true; the input reads as it did. -/
def pageBackSpec : ChangeSpec := { name := "pageBack", fn := fun _ => fun
  | [d1, d2] => { results := [.lit (.bool true)], args := [d1, d2] }
  | _ => none }
def pageBackRow : OpenClaim := { program := "ytkgenjgomnalpaa", sum := "3c330727a7eeea9db85eef1824e5d87869dd052d78f55d9738c4936b3dd026f7", func := "kinora/kinoralaw32.PageBack", spec := "pageBack", apart := false }
def PageBackSaid : Prop := pageBackRow.holds Try.pinned (OpenSpec.ofChange pageBackSpec)

/-- ITS FALSE NEIGHBOUR: 'it returns false'. Refute it at one input. -/
def pageBackWrong : ChangeSpec := { name := "pageBack", fn := fun _ => fun
  | [d1, d2] => { results := [.lit (.bool false)], args := [d1, d2] }
  | _ => none }
def PageBackWrongFalsely : Prop := pageBackRow.holds Try.pinned (OpenSpec.ofChange pageBackWrong)

/-- 'kinoralaw32.PageSizes': WHATEVER THE INPUT: true; the input reads as it did. -/
def pageSizesSpec : ChangeSpec := { name := "pageSizes", fn := fun _ => fun
  | [d] => { results := [.lit (.bool true)], args := [d] }
  | _ => none }
def pageSizesRow : OpenClaim := { program := "ytkgenjgomnalpaa", sum := "3c330727a7eeea9db85eef1824e5d87869dd052d78f55d9738c4936b3dd026f7", func := "kinora/kinoralaw32.PageSizes", spec := "pageSizes", apart := false }
def PageSizesSaid : Prop := pageSizesRow.holds Try.pinned (OpenSpec.ofChange pageSizesSpec)

/-- ITS FALSE NEIGHBOUR: 'it returns false'. Refute it at one input. -/
def pageSizesWrong : ChangeSpec := { name := "pageSizes", fn := fun _ => fun
  | [d] => { results := [.lit (.bool false)], args := [d] }
  | _ => none }
def PageSizesWrongFalsely : Prop := pageSizesRow.holds Try.pinned (OpenSpec.ofChange pageSizesWrong)

/- THE SECOND FORM. 'bulk': how many values and letters a reading holds, each counted each time it is reached (what is shared counts as often as it is met; a slice's spare places count too). A statement '..UptoSaid' is the law's where the arguments, and the package variables that the reading takes, are together of bulk at most 1048576: NARROWER than '..Said'. Prove '..Said' where nothing that the law and all that it calls make is longer than what came in: it says more and counts as full. Else prove '..UptoSaid'. A law counts once. -/
mutual
def uptoBulk {H : Type} : DataW H → Nat
  | .lit (.string bytes) => bytes.length + 1
  | .lit _ => 1
  | .nil => 1
  | .ptr d => uptoBulk d + 1
  | .slice elems spare => uptoBulkAll elems + uptoBulkAll spare + 1
  | .agg parts => uptoBulkAll parts + 1
  | .iface _ d => uptoBulk d + 1
  | .map entries => uptoBulkEntries entries + 1
  | .held _ => 1
def uptoBulkAll {H : Type} : List (DataW H) → Nat
  | [] => 0
  | d :: r => uptoBulk d + uptoBulkAll r
def uptoBulkEntries {H : Type} : List (Lit × DataW H) → Nat
  | [] => 0
  | x :: r => uptoBulkEntry x + uptoBulkEntries r
def uptoBulkEntry {H : Type} : Lit × DataW H → Nat
  | (.string bytes, d) => bytes.length + uptoBulk d + 1
  | (_, d) => uptoBulk d + 1
 end
def uptoSmall : (H : Type) → List (DataW H) → Bool := fun _ ds => decide (uptoBulkAll ds ≤ 1048576)
def OpenSpec.upto (s : _root_.Go.ChangeSpec) : _root_.Go.OpenSpec := { _root_.Go.OpenSpec.ofChange s with cond := some uptoSmall }

/-- 'kinoralaw32.PageLays', WHERE WHAT IT READS IS OF BULK AT MOST 1048576: true; the input reads as it did. -/
def pageLaysUptoRow : OpenClaim := { program := "ytkgenjgomnalpaa", sum := "3c330727a7eeea9db85eef1824e5d87869dd052d78f55d9738c4936b3dd026f7", func := "kinora/kinoralaw32.PageLays", spec := "pageLays", apart := false, narrowed := true }
def PageLaysUptoSaid : Prop := pageLaysUptoRow.holds Try.pinned (OpenSpec.upto pageLaysSpec)

/-- 'kinoralaw32.PageTurned', WHERE WHAT IT READS IS OF BULK AT MOST 1048576: true; the input reads as it did. -/
def pageTurnedUptoRow : OpenClaim := { program := "ytkgenjgomnalpaa", sum := "3c330727a7eeea9db85eef1824e5d87869dd052d78f55d9738c4936b3dd026f7", func := "kinora/kinoralaw32.PageTurned", spec := "pageTurned", apart := false, narrowed := true }
def PageTurnedUptoSaid : Prop := pageTurnedUptoRow.holds Try.pinned (OpenSpec.upto pageTurnedSpec)

/-- 'kinoralaw32.PageSplits', WHERE WHAT IT READS IS OF BULK AT MOST 1048576: true; the input reads as it did. -/
def pageSplitsUptoRow : OpenClaim := { program := "ytkgenjgomnalpaa", sum := "3c330727a7eeea9db85eef1824e5d87869dd052d78f55d9738c4936b3dd026f7", func := "kinora/kinoralaw32.PageSplits", spec := "pageSplits", apart := false, narrowed := true }
def PageSplitsUptoSaid : Prop := pageSplitsUptoRow.holds Try.pinned (OpenSpec.upto pageSplitsSpec)

/-- 'kinoralaw32.PageBack', WHERE WHAT IT READS IS OF BULK AT MOST 1048576: true; the input reads as it did. -/
def pageBackUptoRow : OpenClaim := { program := "ytkgenjgomnalpaa", sum := "3c330727a7eeea9db85eef1824e5d87869dd052d78f55d9738c4936b3dd026f7", func := "kinora/kinoralaw32.PageBack", spec := "pageBack", apart := false, narrowed := true }
def PageBackUptoSaid : Prop := pageBackUptoRow.holds Try.pinned (OpenSpec.upto pageBackSpec)

/-- 'kinoralaw32.PageSizes', WHERE WHAT IT READS IS OF BULK AT MOST 1048576: true; the input reads as it did. -/
def pageSizesUptoRow : OpenClaim := { program := "ytkgenjgomnalpaa", sum := "3c330727a7eeea9db85eef1824e5d87869dd052d78f55d9738c4936b3dd026f7", func := "kinora/kinoralaw32.PageSizes", spec := "pageSizes", apart := false, narrowed := true }
def PageSizesUptoSaid : Prop := pageSizesUptoRow.holds Try.pinned (OpenSpec.upto pageSizesSpec)

end Rows
end Go.Proofs.Ytkgenjgomnalpaa
