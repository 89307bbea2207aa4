/- Packets and pages by value; lists alike so far. -/
import Derived.Test.YtdnkdjaokmibjaaPk
import Derived.KernelRfl
import Derived.WalkSpells
set_option linter.unusedSimpArgs false
set_option linter.unusedVariables false
namespace Go.Proofs.Ytdnkdjaokmibjaa
theorem info_pk : (Try.prog.info? 84).map (fun i => (i.zero, i.size, i.bytes)) = some (some (.agg #[.int .i64 0, .int .i64 0, .int .i64 0, .bool false, .bool false, .slice none 0 0]), 6, 56) := by kernel_rfl
theorem info_pg : (Try.prog.info? 33).map (fun i => (i.zero, i.size, i.bytes)) = some (some (.agg #[.int .i64 0, .bool false, .bool false, .bool false, .slice none 0 0]), 5, 40) := by kernel_rfl
theorem info_ho : (Try.prog.info? 41).map (fun i => (i.zero, i.size, i.bytes)) = some (some (.agg #[.int .i64 0, .int .i64 0]), 2, 16) := by kernel_rfl
end Go.Proofs.Ytdnkdjaokmibjaa

namespace Go.Proofs.Ytdnkdjaokmibjaa
open Go.RowKit

/-- A packet, a page handed over by value. -/
abbrev Pk.val (p : Pk) (A : Option Addr) (c : Nat) : Value := .agg #[.int .i64 p.st, .int .i64 p.at_, .int .i64 p.ln, .bool p.key, .bool p.hid, .slice A p.data.length c]
abbrev Pg.val (p : Pg) (A : Option Addr) (c : Nat) : Value := .agg #[.int .i64 p.seq, .bool p.first, .bool p.last, .bool p.guard, .slice A p.body.length c]

theorem take_eq_step {α : Type} {xs ys : List α} {k : Nat} (h1 : k < xs.length) (h2 : k < ys.length) (h : xs.take k = ys.take k) (he : xs[k] = ys[k]) : xs.take (k + 1) = ys.take (k + 1) := by
  rw [List.take_succ_eq_append_getElem h1, List.take_succ_eq_append_getElem h2, h, he]
theorem ne_of_getElem {α : Type} {xs ys : List α} {k : Nat} (h1 : k < xs.length) (h2 : k < ys.length) (he : xs[k] ≠ ys[k]) : xs ≠ ys := fun h => by subst h; exact he rfl

end Go.Proofs.Ytdnkdjaokmibjaa
