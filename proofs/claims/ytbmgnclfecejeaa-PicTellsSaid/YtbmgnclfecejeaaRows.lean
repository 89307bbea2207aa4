/-
  No cell of these rows narrows 'for every input' (looked for: loops, veiled, ifaces, maps, wideKeys, modest, calm, conditions, laid).
  DERIVED. THE GIVEN ROWS OF THIS SEAT. 6 by the template 'for every input the law returns true; each argument reads behind the call as it read before'; 0 by the template 'total and deterministic' (their statements: YtbmgnclfecejeaaTotals.lean).
  GIVEN WITH THE SEED: the statements are not yours to turn. If you find one false, say at which input.
  Laid BY PROGRAM, IN A SANDBOX (cutbox-rows.mjs): the forced cells as the released guide's own fill.sh prints them over the translation 7d68e4d1a30262c3… (all of the seat's roots in one cut). By AI agents, Wed Nov 11 2026. No macro, syntax, notation, axiom, sorry.
-/
import Derived.Test.YtbmgnclfecejeaaChecked
import GoSem.Claim
import GoSem.ClaimJoined
import GoSem.ClaimMapViews
import Derived.JoinedTies
import Derived.KernelRfl
namespace Go.Proofs.Ytbmgnclfecejeaa
/- THE CELL 'sum', in the pinned program and in every row, IS THE sha256 OF THE DUMP (.gsa) THAT YtbmgnclfecejeaaProg.lean LOADS. Nothing in Lean hashes anything: it is a label: what it is worth is what the hold of that sum in a sandbox is worth. -/
noncomputable def Try.pinned : Pinned := { name := "ytbmgnclfecejeaa", sum := "7d68e4d1a30262c3f5bd0b13e9d20ca79aa9204187b04bfb8161621111556f03", checked := Try.checked }
namespace Rows
def none {H : Type} : Left H := { results := [], args := [] }

/-- 'kinoralaw20.PicNumbers': WHATEVER THE INPUT: true; the input reads as it did. -/
def picNumbersSpec : ChangeSpec := { name := "picNumbers", fn := fun _ => fun
  | [d1, d2] => { results := [.lit (.bool true)], args := [d1, d2] }
  | _ => none }
def picNumbersRow : OpenClaim := { program := "ytbmgnclfecejeaa", sum := "7d68e4d1a30262c3f5bd0b13e9d20ca79aa9204187b04bfb8161621111556f03", func := "kinora/kinoralaw20.PicNumbers", spec := "picNumbers", apart := false }
def PicNumbersSaid : Prop := picNumbersRow.holds Try.pinned (OpenSpec.ofChange picNumbersSpec)

/-- ITS FALSE NEIGHBOUR: 'it returns false'. Refute it at one input. -/
def picNumbersWrong : ChangeSpec := { name := "picNumbers", fn := fun _ => fun
  | [d1, d2] => { results := [.lit (.bool false)], args := [d1, d2] }
  | _ => none }
def PicNumbersWrongFalsely : Prop := picNumbersRow.holds Try.pinned (OpenSpec.ofChange picNumbersWrong)

/-- 'kinoralaw20.PicSums': WHATEVER THE INPUT: true; the input reads as it did. -/
def picSumsSpec : ChangeSpec := { name := "picSums", fn := fun _ => fun
  | [d1, d2, d3, d4] => { results := [.lit (.bool true)], args := [d1, d2, d3, d4] }
  | _ => none }
def picSumsRow : OpenClaim := { program := "ytbmgnclfecejeaa", sum := "7d68e4d1a30262c3f5bd0b13e9d20ca79aa9204187b04bfb8161621111556f03", func := "kinora/kinoralaw20.PicSums", spec := "picSums", apart := false }
def PicSumsSaid : Prop := picSumsRow.holds Try.pinned (OpenSpec.ofChange picSumsSpec)

/-- ITS FALSE NEIGHBOUR: 'it returns false'. Refute it at one input. -/
def picSumsWrong : ChangeSpec := { name := "picSums", fn := fun _ => fun
  | [d1, d2, d3, d4] => { results := [.lit (.bool false)], args := [d1, d2, d3, d4] }
  | _ => none }
def PicSumsWrongFalsely : Prop := picSumsRow.holds Try.pinned (OpenSpec.ofChange picSumsWrong)

/-- 'kinoralaw20.PicParts': WHATEVER THE INPUT: true; the input reads as it did. -/
def picPartsSpec : ChangeSpec := { name := "picParts", fn := fun _ => fun
  | [d1, d2, d3, d4, d5, d6] => { results := [.lit (.bool true)], args := [d1, d2, d3, d4, d5, d6] }
  | _ => none }
def picPartsRow : OpenClaim := { program := "ytbmgnclfecejeaa", sum := "7d68e4d1a30262c3f5bd0b13e9d20ca79aa9204187b04bfb8161621111556f03", func := "kinora/kinoralaw20.PicParts", spec := "picParts", apart := false }
def PicPartsSaid : Prop := picPartsRow.holds Try.pinned (OpenSpec.ofChange picPartsSpec)

/-- ITS FALSE NEIGHBOUR: 'it returns false'. Refute it at one input. -/
def picPartsWrong : ChangeSpec := { name := "picParts", fn := fun _ => fun
  | [d1, d2, d3, d4, d5, d6] => { results := [.lit (.bool false)], args := [d1, d2, d3, d4, d5, d6] }
  | _ => none }
def PicPartsWrongFalsely : Prop := picPartsRow.holds Try.pinned (OpenSpec.ofChange picPartsWrong)

/-- 'kinoralaw20.PicBack': WHATEVER THE INPUT: true; the input reads as it did. -/
def picBackSpec : ChangeSpec := { name := "picBack", fn := fun _ => fun
  | [d1, d2, d3, d4, d5] => { results := [.lit (.bool true)], args := [d1, d2, d3, d4, d5] }
  | _ => none }
def picBackRow : OpenClaim := { program := "ytbmgnclfecejeaa", sum := "7d68e4d1a30262c3f5bd0b13e9d20ca79aa9204187b04bfb8161621111556f03", func := "kinora/kinoralaw20.PicBack", spec := "picBack", apart := false }
def PicBackSaid : Prop := picBackRow.holds Try.pinned (OpenSpec.ofChange picBackSpec)

/-- ITS FALSE NEIGHBOUR: 'it returns false'. Refute it at one input. -/
def picBackWrong : ChangeSpec := { name := "picBack", fn := fun _ => fun
  | [d1, d2, d3, d4, d5] => { results := [.lit (.bool false)], args := [d1, d2, d3, d4, d5] }
  | _ => none }
def PicBackWrongFalsely : Prop := picBackRow.holds Try.pinned (OpenSpec.ofChange picBackWrong)

/-- 'kinoralaw20.PicOwn': WHATEVER THE INPUT: true; the input reads as it did. -/
def picOwnSpec : ChangeSpec := { name := "picOwn", fn := fun _ => fun
  | [d1, d2] => { results := [.lit (.bool true)], args := [d1, d2] }
  | _ => none }
def picOwnRow : OpenClaim := { program := "ytbmgnclfecejeaa", sum := "7d68e4d1a30262c3f5bd0b13e9d20ca79aa9204187b04bfb8161621111556f03", func := "kinora/kinoralaw20.PicOwn", spec := "picOwn", apart := false }
def PicOwnSaid : Prop := picOwnRow.holds Try.pinned (OpenSpec.ofChange picOwnSpec)

/-- ITS FALSE NEIGHBOUR: 'it returns false'. Refute it at one input. -/
def picOwnWrong : ChangeSpec := { name := "picOwn", fn := fun _ => fun
  | [d1, d2] => { results := [.lit (.bool false)], args := [d1, d2] }
  | _ => none }
def PicOwnWrongFalsely : Prop := picOwnRow.holds Try.pinned (OpenSpec.ofChange picOwnWrong)

/-- 'kinoralaw20.PicTells': WHATEVER THE INPUT: true; the input reads as it did. -/
def picTellsSpec : ChangeSpec := { name := "picTells", fn := fun _ => fun
  | [d1, d2, d3, d4, d5, d6, d7] => { results := [.lit (.bool true)], args := [d1, d2, d3, d4, d5, d6, d7] }
  | _ => none }
def picTellsRow : OpenClaim := { program := "ytbmgnclfecejeaa", sum := "7d68e4d1a30262c3f5bd0b13e9d20ca79aa9204187b04bfb8161621111556f03", func := "kinora/kinoralaw20.PicTells", spec := "picTells", unfollowed := true, recurses := true, apart := false }
def PicTellsSaid : Prop := picTellsRow.holds Try.pinned (OpenSpec.ofChange picTellsSpec)

/-- ITS FALSE NEIGHBOUR: 'it returns false'. Refute it at one input. -/
def picTellsWrong : ChangeSpec := { name := "picTells", fn := fun _ => fun
  | [d1, d2, d3, d4, d5, d6, d7] => { results := [.lit (.bool false)], args := [d1, d2, d3, d4, d5, d6, d7] }
  | _ => none }
def PicTellsWrongFalsely : Prop := picTellsRow.holds Try.pinned (OpenSpec.ofChange picTellsWrong)

/- THE SECOND FORM. 'bulk': how many values and letters a reading holds, each counted each time it is reached (what is shared counts as often as it is met; a slice's spare places count too). A statement '..UptoSaid' is the law's where the arguments, and the package variables that the reading takes, are together of bulk at most 1048576: NARROWER than '..Said'. Prove '..Said' where nothing that the law and all that it calls make is longer than what came in: it says more and counts as full. Else prove '..UptoSaid'. A law counts once. -/
mutual
def uptoBulk {H : Type} : DataW H → Nat
  | .lit (.string bytes) => bytes.length + 1
  | .lit _ => 1
  | .nil => 1
  | .ptr d => uptoBulk d + 1
  | .slice elems spare => uptoBulkAll elems + uptoBulkAll spare + 1
  | .agg parts => uptoBulkAll parts + 1
  | .iface _ d => uptoBulk d + 1
  | .map entries => uptoBulkEntries entries + 1
  | .held _ => 1
def uptoBulkAll {H : Type} : List (DataW H) → Nat
  | [] => 0
  | d :: r => uptoBulk d + uptoBulkAll r
def uptoBulkEntries {H : Type} : List (Lit × DataW H) → Nat
  | [] => 0
  | x :: r => uptoBulkEntry x + uptoBulkEntries r
def uptoBulkEntry {H : Type} : Lit × DataW H → Nat
  | (.string bytes, d) => bytes.length + uptoBulk d + 1
  | (_, d) => uptoBulk d + 1
 end
def uptoSmall : (H : Type) → List (DataW H) → Bool := fun _ ds => decide (uptoBulkAll ds ≤ 1048576)
def OpenSpec.upto (s : _root_.Go.ChangeSpec) : _root_.Go.OpenSpec := { _root_.Go.OpenSpec.ofChange s with cond := some uptoSmall }

/-- 'kinoralaw20.PicNumbers', WHERE WHAT IT READS IS OF BULK AT MOST 1048576: true; the input reads as it did. -/
def picNumbersUptoRow : OpenClaim := { program := "ytbmgnclfecejeaa", sum := "7d68e4d1a30262c3f5bd0b13e9d20ca79aa9204187b04bfb8161621111556f03", func := "kinora/kinoralaw20.PicNumbers", spec := "picNumbers", apart := false, narrowed := true }
def PicNumbersUptoSaid : Prop := picNumbersUptoRow.holds Try.pinned (OpenSpec.upto picNumbersSpec)

/-- 'kinoralaw20.PicSums', WHERE WHAT IT READS IS OF BULK AT MOST 1048576: true; the input reads as it did. -/
def picSumsUptoRow : OpenClaim := { program := "ytbmgnclfecejeaa", sum := "7d68e4d1a30262c3f5bd0b13e9d20ca79aa9204187b04bfb8161621111556f03", func := "kinora/kinoralaw20.PicSums", spec := "picSums", apart := false, narrowed := true }
def PicSumsUptoSaid : Prop := picSumsUptoRow.holds Try.pinned (OpenSpec.upto picSumsSpec)

/-- 'kinoralaw20.PicParts', WHERE WHAT IT READS IS OF BULK AT MOST 1048576: true; the input reads as it did. -/
def picPartsUptoRow : OpenClaim := { program := "ytbmgnclfecejeaa", sum := "7d68e4d1a30262c3f5bd0b13e9d20ca79aa9204187b04bfb8161621111556f03", func := "kinora/kinoralaw20.PicParts", spec := "picParts", apart := false, narrowed := true }
def PicPartsUptoSaid : Prop := picPartsUptoRow.holds Try.pinned (OpenSpec.upto picPartsSpec)

/-- 'kinoralaw20.PicBack', WHERE WHAT IT READS IS OF BULK AT MOST 1048576: true; the input reads as it did. -/
def picBackUptoRow : OpenClaim := { program := "ytbmgnclfecejeaa", sum := "7d68e4d1a30262c3f5bd0b13e9d20ca79aa9204187b04bfb8161621111556f03", func := "kinora/kinoralaw20.PicBack", spec := "picBack", apart := false, narrowed := true }
def PicBackUptoSaid : Prop := picBackUptoRow.holds Try.pinned (OpenSpec.upto picBackSpec)

/-- 'kinoralaw20.PicOwn', WHERE WHAT IT READS IS OF BULK AT MOST 1048576: true; the input reads as it did. -/
def picOwnUptoRow : OpenClaim := { program := "ytbmgnclfecejeaa", sum := "7d68e4d1a30262c3f5bd0b13e9d20ca79aa9204187b04bfb8161621111556f03", func := "kinora/kinoralaw20.PicOwn", spec := "picOwn", apart := false, narrowed := true }
def PicOwnUptoSaid : Prop := picOwnUptoRow.holds Try.pinned (OpenSpec.upto picOwnSpec)

/-- 'kinoralaw20.PicTells', WHERE WHAT IT READS IS OF BULK AT MOST 1048576: true; the input reads as it did. -/
def picTellsUptoRow : OpenClaim := { program := "ytbmgnclfecejeaa", sum := "7d68e4d1a30262c3f5bd0b13e9d20ca79aa9204187b04bfb8161621111556f03", func := "kinora/kinoralaw20.PicTells", spec := "picTells", unfollowed := true, recurses := true, apart := false, narrowed := true }
def PicTellsUptoSaid : Prop := picTellsUptoRow.holds Try.pinned (OpenSpec.upto picTellsSpec)

end Rows
end Go.Proofs.Ytbmgnclfecejeaa
