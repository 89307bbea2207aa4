/-
  No cell of these rows narrows 'for every input' (looked for: loops, veiled, ifaces, maps, wideKeys, modest, calm, conditions, laid).
  DERIVED. THE GIVEN ROWS OF THIS SEAT. 4 by the template 'for every input the law returns true; each argument reads behind the call as it read before'; 0 by the template 'total and deterministic' (their statements: YtbbflddhbamjbaaTotals.lean).
  GIVEN WITH THE SEED: the statements are not yours to turn. If you find one false, say at which input.
  Laid BY PROGRAM, IN A SANDBOX (cutbox-rows.mjs): the forced cells as the released guide's own fill.sh prints them over the translation 7be547765395316e… (all of the seat's roots in one cut). By AI agents, Wed Nov 11 2026. No macro, syntax, notation, axiom, sorry.
-/
import Derived.Test.YtbbflddhbamjbaaChecked
import GoSem.Claim
import GoSem.ClaimJoined
import GoSem.ClaimMapViews
import Derived.JoinedTies
import Derived.KernelRfl
namespace Go.Proofs.Ytbbflddhbamjbaa
/- THE CELL 'sum', in the pinned program and in every row, IS THE sha256 OF THE DUMP (.gsa) THAT YtbbflddhbamjbaaProg.lean LOADS. Nothing in Lean hashes anything: it is a label: what it is worth is what the hold of that sum in a sandbox is worth. -/
noncomputable def Try.pinned : Pinned := { name := "ytbbflddhbamjbaa", sum := "7be547765395316ef3ca6133ea2913efc80cecf5718bd02420236caf8a5cda1e", checked := Try.checked }
namespace Rows
def none {H : Type} : Left H := { results := [], args := [] }

/-- 'kinoralaw24.PalettePaints': WHATEVER THE INPUT: true; the input reads as it did. -/
def palettePaintsSpec : ChangeSpec := { name := "palettePaints", fn := fun _ => fun
  | [d1, d2, d3, d4, d5] => { results := [.lit (.bool true)], args := [d1, d2, d3, d4, d5] }
  | _ => none }
def palettePaintsRow : OpenClaim := { program := "ytbbflddhbamjbaa", sum := "7be547765395316ef3ca6133ea2913efc80cecf5718bd02420236caf8a5cda1e", func := "kinora/kinoralaw24.PalettePaints", spec := "palettePaints", unfollowed := true, recurses := true, plainKeys := false, apart := false }
def PalettePaintsSaid : Prop := palettePaintsRow.holds Try.pinned (OpenSpec.ofChange palettePaintsSpec)

/-- ITS FALSE NEIGHBOUR: 'it returns false'. Refute it at one input. -/
def palettePaintsWrong : ChangeSpec := { name := "palettePaints", fn := fun _ => fun
  | [d1, d2, d3, d4, d5] => { results := [.lit (.bool false)], args := [d1, d2, d3, d4, d5] }
  | _ => none }
def PalettePaintsWrongFalsely : Prop := palettePaintsRow.holds Try.pinned (OpenSpec.ofChange palettePaintsWrong)

/-- 'kinoralaw24.PaletteTells': WHATEVER THE INPUT: true; the input reads as it did. -/
def paletteTellsSpec : ChangeSpec := { name := "paletteTells", fn := fun _ => fun
  | [d1, d2, d3, d4] => { results := [.lit (.bool true)], args := [d1, d2, d3, d4] }
  | _ => none }
def paletteTellsRow : OpenClaim := { program := "ytbbflddhbamjbaa", sum := "7be547765395316ef3ca6133ea2913efc80cecf5718bd02420236caf8a5cda1e", func := "kinora/kinoralaw24.PaletteTells", spec := "paletteTells", unfollowed := true, recurses := true, plainKeys := false, apart := false }
def PaletteTellsSaid : Prop := paletteTellsRow.holds Try.pinned (OpenSpec.ofChange paletteTellsSpec)

/-- ITS FALSE NEIGHBOUR: 'it returns false'. Refute it at one input. -/
def paletteTellsWrong : ChangeSpec := { name := "paletteTells", fn := fun _ => fun
  | [d1, d2, d3, d4] => { results := [.lit (.bool false)], args := [d1, d2, d3, d4] }
  | _ => none }
def PaletteTellsWrongFalsely : Prop := paletteTellsRow.holds Try.pinned (OpenSpec.ofChange paletteTellsWrong)

/-- 'kinoralaw24.PaletteBack': WHATEVER THE INPUT: true; the input reads as it did. -/
def paletteBackSpec : ChangeSpec := { name := "paletteBack", fn := fun _ => fun
  | [d] => { results := [.lit (.bool true)], args := [d] }
  | _ => none }
def paletteBackRow : OpenClaim := { program := "ytbbflddhbamjbaa", sum := "7be547765395316ef3ca6133ea2913efc80cecf5718bd02420236caf8a5cda1e", func := "kinora/kinoralaw24.PaletteBack", spec := "paletteBack", unfollowed := true, recurses := true, plainKeys := false, apart := false }
def PaletteBackSaid : Prop := paletteBackRow.holds Try.pinned (OpenSpec.ofChange paletteBackSpec)

/-- ITS FALSE NEIGHBOUR: 'it returns false'. Refute it at one input. -/
def paletteBackWrong : ChangeSpec := { name := "paletteBack", fn := fun _ => fun
  | [d] => { results := [.lit (.bool false)], args := [d] }
  | _ => none }
def PaletteBackWrongFalsely : Prop := paletteBackRow.holds Try.pinned (OpenSpec.ofChange paletteBackWrong)

/-- 'kinoralaw24.PaletteParts': WHATEVER THE INPUT: true; the input reads as it did. -/
def palettePartsSpec : ChangeSpec := { name := "paletteParts", fn := fun _ => fun
  | [d1, d2, d3, d4, d5] => { results := [.lit (.bool true)], args := [d1, d2, d3, d4, d5] }
  | _ => none }
def palettePartsRow : OpenClaim := { program := "ytbbflddhbamjbaa", sum := "7be547765395316ef3ca6133ea2913efc80cecf5718bd02420236caf8a5cda1e", func := "kinora/kinoralaw24.PaletteParts", spec := "paletteParts", unfollowed := true, recurses := true, plainKeys := false, apart := false }
def PalettePartsSaid : Prop := palettePartsRow.holds Try.pinned (OpenSpec.ofChange palettePartsSpec)

/-- ITS FALSE NEIGHBOUR: 'it returns false'. Refute it at one input. -/
def palettePartsWrong : ChangeSpec := { name := "paletteParts", fn := fun _ => fun
  | [d1, d2, d3, d4, d5] => { results := [.lit (.bool false)], args := [d1, d2, d3, d4, d5] }
  | _ => none }
def PalettePartsWrongFalsely : Prop := palettePartsRow.holds Try.pinned (OpenSpec.ofChange palettePartsWrong)

/- THE SECOND FORM. 'bulk': how many values and letters a reading holds, each counted each time it is reached (what is shared counts as often as it is met; a slice's spare places count too). A statement '..UptoSaid' is the law's where the arguments, and the package variables that the reading takes, are together of bulk at most 1048576: NARROWER than '..Said'. Prove '..Said' where nothing that the law and all that it calls make is longer than what came in: it says more and counts as full. Else prove '..UptoSaid'. A law counts once. -/
mutual
def uptoBulk {H : Type} : DataW H → Nat
  | .lit (.string bytes) => bytes.length + 1
  | .lit _ => 1
  | .nil => 1
  | .ptr d => uptoBulk d + 1
  | .slice elems spare => uptoBulkAll elems + uptoBulkAll spare + 1
  | .agg parts => uptoBulkAll parts + 1
  | .iface _ d => uptoBulk d + 1
  | .map entries => uptoBulkEntries entries + 1
  | .held _ => 1
def uptoBulkAll {H : Type} : List (DataW H) → Nat
  | [] => 0
  | d :: r => uptoBulk d + uptoBulkAll r
def uptoBulkEntries {H : Type} : List (Lit × DataW H) → Nat
  | [] => 0
  | x :: r => uptoBulkEntry x + uptoBulkEntries r
def uptoBulkEntry {H : Type} : Lit × DataW H → Nat
  | (.string bytes, d) => bytes.length + uptoBulk d + 1
  | (_, d) => uptoBulk d + 1
 end
def uptoSmall : (H : Type) → List (DataW H) → Bool := fun _ ds => decide (uptoBulkAll ds ≤ 1048576)
def OpenSpec.upto (s : _root_.Go.ChangeSpec) : _root_.Go.OpenSpec := { _root_.Go.OpenSpec.ofChange s with cond := some uptoSmall }

/-- 'kinoralaw24.PalettePaints', WHERE WHAT IT READS IS OF BULK AT MOST 1048576: true; the input reads as it did. -/
def palettePaintsUptoRow : OpenClaim := { program := "ytbbflddhbamjbaa", sum := "7be547765395316ef3ca6133ea2913efc80cecf5718bd02420236caf8a5cda1e", func := "kinora/kinoralaw24.PalettePaints", spec := "palettePaints", unfollowed := true, recurses := true, plainKeys := false, apart := false, narrowed := true }
def PalettePaintsUptoSaid : Prop := palettePaintsUptoRow.holds Try.pinned (OpenSpec.upto palettePaintsSpec)

/-- 'kinoralaw24.PaletteTells', WHERE WHAT IT READS IS OF BULK AT MOST 1048576: true; the input reads as it did. -/
def paletteTellsUptoRow : OpenClaim := { program := "ytbbflddhbamjbaa", sum := "7be547765395316ef3ca6133ea2913efc80cecf5718bd02420236caf8a5cda1e", func := "kinora/kinoralaw24.PaletteTells", spec := "paletteTells", unfollowed := true, recurses := true, plainKeys := false, apart := false, narrowed := true }
def PaletteTellsUptoSaid : Prop := paletteTellsUptoRow.holds Try.pinned (OpenSpec.upto paletteTellsSpec)

/-- 'kinoralaw24.PaletteBack', WHERE WHAT IT READS IS OF BULK AT MOST 1048576: true; the input reads as it did. -/
def paletteBackUptoRow : OpenClaim := { program := "ytbbflddhbamjbaa", sum := "7be547765395316ef3ca6133ea2913efc80cecf5718bd02420236caf8a5cda1e", func := "kinora/kinoralaw24.PaletteBack", spec := "paletteBack", unfollowed := true, recurses := true, plainKeys := false, apart := false, narrowed := true }
def PaletteBackUptoSaid : Prop := paletteBackUptoRow.holds Try.pinned (OpenSpec.upto paletteBackSpec)

/-- 'kinoralaw24.PaletteParts', WHERE WHAT IT READS IS OF BULK AT MOST 1048576: true; the input reads as it did. -/
def palettePartsUptoRow : OpenClaim := { program := "ytbbflddhbamjbaa", sum := "7be547765395316ef3ca6133ea2913efc80cecf5718bd02420236caf8a5cda1e", func := "kinora/kinoralaw24.PaletteParts", spec := "paletteParts", unfollowed := true, recurses := true, plainKeys := false, apart := false, narrowed := true }
def PalettePartsUptoSaid : Prop := palettePartsUptoRow.holds Try.pinned (OpenSpec.upto palettePartsSpec)

end Rows
end Go.Proofs.Ytbbflddhbamjbaa
