/-
  No cell of these rows narrows 'for every input' (looked for: loops, veiled, ifaces, maps, wideKeys, modest, calm, conditions, laid).
  DERIVED. THE GIVEN ROWS OF THIS SEAT. 5 by the template 'for every input the law returns true; each argument reads behind the call as it read before'; 0 by the template 'total and deterministic' (their statements: YtdnkdjaokmibjaaTotals.lean).
  GIVEN WITH THE SEED: the statements are not yours to turn. If you find one false, say at which input.
  Laid BY PROGRAM, IN A SANDBOX (cutbox-rows.mjs): the forced cells as the released guide's own fill.sh prints them over the translation 870dfd7eaddacf25… (all of the seat's roots in one cut). By AI agents, Wed Nov 11 2026. No macro, syntax, notation, axiom, sorry.
-/
import Derived.Test.YtdnkdjaokmibjaaChecked
import GoSem.Claim
import GoSem.ClaimJoined
import GoSem.ClaimMapViews
import Derived.JoinedTies
import Derived.KernelRfl
namespace Go.Proofs.Ytdnkdjaokmibjaa
/- THE CELL 'sum', in the pinned program and in every row, IS THE sha256 OF THE DUMP (.gsa) THAT YtdnkdjaokmibjaaProg.lean LOADS. Nothing in Lean hashes anything: it is a label: what it is worth is what the hold of that sum in a sandbox is worth. -/
noncomputable def Try.pinned : Pinned := { name := "ytdnkdjaokmibjaa", sum := "870dfd7eaddacf25ea806fd2a18a247ad3213fac54b58537256066f54af6f20c", checked := Try.checked }
namespace Rows
def none {H : Type} : Left H := { results := [], args := [] }

/-- 'kinoralaw35.MendBack': WHATEVER THE INPUT: true; the input reads as it did. -/
def mendBackSpec : ChangeSpec := { name := "mendBack", fn := fun _ => fun
  | [d1, d2, d3] => { results := [.lit (.bool true)], args := [d1, d2, d3] }
  | _ => none }
def mendBackRow : OpenClaim := { program := "ytdnkdjaokmibjaa", sum := "870dfd7eaddacf25ea806fd2a18a247ad3213fac54b58537256066f54af6f20c", func := "kinora/kinoralaw35.MendBack", spec := "mendBack", unfollowed := true, recurses := true, apart := false }
def MendBackSaid : Prop := mendBackRow.holds Try.pinned (OpenSpec.ofChange mendBackSpec)

/-- ITS FALSE NEIGHBOUR: 'it returns false'. Refute it at one input. -/
def mendBackWrong : ChangeSpec := { name := "mendBack", fn := fun _ => fun
  | [d1, d2, d3] => { results := [.lit (.bool false)], args := [d1, d2, d3] }
  | _ => none }
def MendBackWrongFalsely : Prop := mendBackRow.holds Try.pinned (OpenSpec.ofChange mendBackWrong)

/-- 'kinoralaw35.MendLost': WHATEVER THE INPUT: true; the input reads as it did. -/
def mendLostSpec : ChangeSpec := { name := "mendLost", fn := fun _ => fun
  | [d1, d2, d3, d4] => { results := [.lit (.bool true)], args := [d1, d2, d3, d4] }
  | _ => none }
def mendLostRow : OpenClaim := { program := "ytdnkdjaokmibjaa", sum := "870dfd7eaddacf25ea806fd2a18a247ad3213fac54b58537256066f54af6f20c", func := "kinora/kinoralaw35.MendLost", spec := "mendLost", unfollowed := true, recurses := true, apart := false }
def MendLostSaid : Prop := mendLostRow.holds Try.pinned (OpenSpec.ofChange mendLostSpec)

/-- ITS FALSE NEIGHBOUR: 'it returns false'. Refute it at one input. -/
def mendLostWrong : ChangeSpec := { name := "mendLost", fn := fun _ => fun
  | [d1, d2, d3, d4] => { results := [.lit (.bool false)], args := [d1, d2, d3, d4] }
  | _ => none }
def MendLostWrongFalsely : Prop := mendLostRow.holds Try.pinned (OpenSpec.ofChange mendLostWrong)

/-- 'kinoralaw35.MendGuards': WHATEVER THE INPUT: true; the input reads as it did. -/
def mendGuardsSpec : ChangeSpec := { name := "mendGuards", fn := fun _ => fun
  | [d1, d2, d3] => { results := [.lit (.bool true)], args := [d1, d2, d3] }
  | _ => none }
def mendGuardsRow : OpenClaim := { program := "ytdnkdjaokmibjaa", sum := "870dfd7eaddacf25ea806fd2a18a247ad3213fac54b58537256066f54af6f20c", func := "kinora/kinoralaw35.MendGuards", spec := "mendGuards", unfollowed := true, recurses := true, apart := false }
def MendGuardsSaid : Prop := mendGuardsRow.holds Try.pinned (OpenSpec.ofChange mendGuardsSpec)

/-- ITS FALSE NEIGHBOUR: 'it returns false'. Refute it at one input. -/
def mendGuardsWrong : ChangeSpec := { name := "mendGuards", fn := fun _ => fun
  | [d1, d2, d3] => { results := [.lit (.bool false)], args := [d1, d2, d3] }
  | _ => none }
def MendGuardsWrongFalsely : Prop := mendGuardsRow.holds Try.pinned (OpenSpec.ofChange mendGuardsWrong)

/-- 'kinoralaw35.MendThrough': WHATEVER THE INPUT: true; the input reads as it did. -/
def mendThroughSpec : ChangeSpec := { name := "mendThrough", fn := fun _ => fun
  | [d1, d2, d3] => { results := [.lit (.bool true)], args := [d1, d2, d3] }
  | _ => none }
def mendThroughRow : OpenClaim := { program := "ytdnkdjaokmibjaa", sum := "870dfd7eaddacf25ea806fd2a18a247ad3213fac54b58537256066f54af6f20c", func := "kinora/kinoralaw35.MendThrough", spec := "mendThrough", unfollowed := true, recurses := true, apart := false }
def MendThroughSaid : Prop := mendThroughRow.holds Try.pinned (OpenSpec.ofChange mendThroughSpec)

/-- ITS FALSE NEIGHBOUR: 'it returns false'. Refute it at one input. -/
def mendThroughWrong : ChangeSpec := { name := "mendThrough", fn := fun _ => fun
  | [d1, d2, d3] => { results := [.lit (.bool false)], args := [d1, d2, d3] }
  | _ => none }
def MendThroughWrongFalsely : Prop := mendThroughRow.holds Try.pinned (OpenSpec.ofChange mendThroughWrong)

/-- 'kinoralaw35.MendJoins': WHATEVER THE INPUT: true; the input reads as it did. -/
def mendJoinsSpec : ChangeSpec := { name := "mendJoins", fn := fun _ => fun
  | [d1, d2, d3] => { results := [.lit (.bool true)], args := [d1, d2, d3] }
  | _ => none }
def mendJoinsRow : OpenClaim := { program := "ytdnkdjaokmibjaa", sum := "870dfd7eaddacf25ea806fd2a18a247ad3213fac54b58537256066f54af6f20c", func := "kinora/kinoralaw35.MendJoins", spec := "mendJoins", unfollowed := true, recurses := true, apart := false }
def MendJoinsSaid : Prop := mendJoinsRow.holds Try.pinned (OpenSpec.ofChange mendJoinsSpec)

/-- ITS FALSE NEIGHBOUR: 'it returns false'. Refute it at one input. -/
def mendJoinsWrong : ChangeSpec := { name := "mendJoins", fn := fun _ => fun
  | [d1, d2, d3] => { results := [.lit (.bool false)], args := [d1, d2, d3] }
  | _ => none }
def MendJoinsWrongFalsely : Prop := mendJoinsRow.holds Try.pinned (OpenSpec.ofChange mendJoinsWrong)

/- THE SECOND FORM. 'bulk': how many values and letters a reading holds, each counted each time it is reached (what is shared counts as often as it is met; a slice's spare places count too). A statement '..UptoSaid' is the law's where the arguments, and the package variables that the reading takes, are together of bulk at most 1048576: NARROWER than '..Said'. Prove '..Said' where nothing that the law and all that it calls make is longer than what came in: it says more and counts as full. Else prove '..UptoSaid'. A law counts once. -/
mutual
def uptoBulk {H : Type} : DataW H → Nat
  | .lit (.string bytes) => bytes.length + 1
  | .lit _ => 1
  | .nil => 1
  | .ptr d => uptoBulk d + 1
  | .slice elems spare => uptoBulkAll elems + uptoBulkAll spare + 1
  | .agg parts => uptoBulkAll parts + 1
  | .iface _ d => uptoBulk d + 1
  | .map entries => uptoBulkEntries entries + 1
  | .held _ => 1
def uptoBulkAll {H : Type} : List (DataW H) → Nat
  | [] => 0
  | d :: r => uptoBulk d + uptoBulkAll r
def uptoBulkEntries {H : Type} : List (Lit × DataW H) → Nat
  | [] => 0
  | x :: r => uptoBulkEntry x + uptoBulkEntries r
def uptoBulkEntry {H : Type} : Lit × DataW H → Nat
  | (.string bytes, d) => bytes.length + uptoBulk d + 1
  | (_, d) => uptoBulk d + 1
 end
def uptoSmall : (H : Type) → List (DataW H) → Bool := fun _ ds => decide (uptoBulkAll ds ≤ 1048576)
def OpenSpec.upto (s : _root_.Go.ChangeSpec) : _root_.Go.OpenSpec := { _root_.Go.OpenSpec.ofChange s with cond := some uptoSmall }

/-- 'kinoralaw35.MendBack', WHERE WHAT IT READS IS OF BULK AT MOST 1048576: true; the input reads as it did. -/
def mendBackUptoRow : OpenClaim := { program := "ytdnkdjaokmibjaa", sum := "870dfd7eaddacf25ea806fd2a18a247ad3213fac54b58537256066f54af6f20c", func := "kinora/kinoralaw35.MendBack", spec := "mendBack", unfollowed := true, recurses := true, apart := false, narrowed := true }
def MendBackUptoSaid : Prop := mendBackUptoRow.holds Try.pinned (OpenSpec.upto mendBackSpec)

/-- 'kinoralaw35.MendLost', WHERE WHAT IT READS IS OF BULK AT MOST 1048576: true; the input reads as it did. -/
def mendLostUptoRow : OpenClaim := { program := "ytdnkdjaokmibjaa", sum := "870dfd7eaddacf25ea806fd2a18a247ad3213fac54b58537256066f54af6f20c", func := "kinora/kinoralaw35.MendLost", spec := "mendLost", unfollowed := true, recurses := true, apart := false, narrowed := true }
def MendLostUptoSaid : Prop := mendLostUptoRow.holds Try.pinned (OpenSpec.upto mendLostSpec)

/-- 'kinoralaw35.MendGuards', WHERE WHAT IT READS IS OF BULK AT MOST 1048576: true; the input reads as it did. -/
def mendGuardsUptoRow : OpenClaim := { program := "ytdnkdjaokmibjaa", sum := "870dfd7eaddacf25ea806fd2a18a247ad3213fac54b58537256066f54af6f20c", func := "kinora/kinoralaw35.MendGuards", spec := "mendGuards", unfollowed := true, recurses := true, apart := false, narrowed := true }
def MendGuardsUptoSaid : Prop := mendGuardsUptoRow.holds Try.pinned (OpenSpec.upto mendGuardsSpec)

/-- 'kinoralaw35.MendThrough', WHERE WHAT IT READS IS OF BULK AT MOST 1048576: true; the input reads as it did. -/
def mendThroughUptoRow : OpenClaim := { program := "ytdnkdjaokmibjaa", sum := "870dfd7eaddacf25ea806fd2a18a247ad3213fac54b58537256066f54af6f20c", func := "kinora/kinoralaw35.MendThrough", spec := "mendThrough", unfollowed := true, recurses := true, apart := false, narrowed := true }
def MendThroughUptoSaid : Prop := mendThroughUptoRow.holds Try.pinned (OpenSpec.upto mendThroughSpec)

/-- 'kinoralaw35.MendJoins', WHERE WHAT IT READS IS OF BULK AT MOST 1048576: true; the input reads as it did. -/
def mendJoinsUptoRow : OpenClaim := { program := "ytdnkdjaokmibjaa", sum := "870dfd7eaddacf25ea806fd2a18a247ad3213fac54b58537256066f54af6f20c", func := "kinora/kinoralaw35.MendJoins", spec := "mendJoins", unfollowed := true, recurses := true, apart := false, narrowed := true }
def MendJoinsUptoSaid : Prop := mendJoinsUptoRow.holds Try.pinned (OpenSpec.upto mendJoinsSpec)

end Rows
end Go.Proofs.Ytdnkdjaokmibjaa
