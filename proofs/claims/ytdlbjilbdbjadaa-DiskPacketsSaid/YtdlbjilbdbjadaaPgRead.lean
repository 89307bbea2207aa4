/- page.Read at a place that is there. -/
import Derived.Test.YtdlbjilbdbjadaaPgRead1
import Derived.Test.YtdlbjilbdbjadaaPgRead2
import Derived.Test.YtdlbjilbdbjadaaPgRead3
set_option linter.unusedSimpArgs false
set_option linter.unusedVariables false
namespace Go.Proofs.Ytdlbjilbdbjadaa
open Go.RowKit

theorem read_any {b : List Int} {A : Option Addr} {c : Nat} {w : World} {B at_ : Nat} (hr : RdI w B .u8 A b) (hB : B ≤ w.heap.size) (hb : byteB b) (hc : b.length ≤ c) (hl : b.length ≤ 1000000000) (hat : at_ ≤ b.length) :
    Calls Try.prog 35 #[.slice A b.length c, .int .i64 (at_ : Int)] w fun e w' => ∃ A' c', e = .returned (.tuple #[(rdP (b.drop at_)).val A' c', .int .i64 (rdL (b.drop at_)), .int .i64 (rdE (b.drop at_))]) ∧
      OwnI w' w.heap.size 5 .u8 (.slice A' (rdP (b.drop at_)).body.length c') (rdP (b.drop at_)).body ∧ Below w.heap.size w w' := by
  by_cases h8 : (b.drop at_).length < 8
  · exact read_1 hr hB hb hc hl hat (.inl h8)
  · by_cases h75 : (b.drop at_).getD 0 0 = 75 ∧ (b.drop at_).getD 1 0 = 80
    · cases hok : rdOk (b.drop at_) with
      | true => exact read_3 hr hB hb hc hl hat h8 h75 hok
      | false => exact read_2 hr hB hb hc hl hat h8 h75 hok
    · exact read_1 hr hB hb hc hl hat (.inr h75)
end Go.Proofs.Ytdlbjilbdbjadaa
