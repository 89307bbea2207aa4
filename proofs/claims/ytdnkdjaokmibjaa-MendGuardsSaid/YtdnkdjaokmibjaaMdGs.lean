/- guards: the law's own comparison of any pages. -/
import Derived.Test.YtdnkdjaokmibjaaRMdGu
import Derived.Test.YtdnkdjaokmibjaaMdBy
import Derived.Test.YtdnkdjaokmibjaaRMdBy
import Derived.Test.YtdnkdjaokmibjaaPgSame
set_option linter.unusedSimpArgs false
set_option linter.unusedVariables false
namespace Go.Proofs.Ytdnkdjaokmibjaa
open Go.RowKit

theorem guardP_len {l : List Pg} (hl : l.length ≤ 1000000) : (guardP l).length ≤ 1000000000 := by
  rw [guardP]
  split
  · have h := gTo_len l (nGrp l)
    have h2 : (guarded l).length ≤ 9 * nGrp l := h
    have h3 : nGrp l ≤ 125001 := by unfold nGrp; omega
    omega
  · simp

set_option maxHeartbeats 8000000 in
set_option maxRecDepth 100000 in
theorem guards_any {l : List Pg} {A : Option Addr} {c : Nat} {S : Nat → Prop} {w : World} (hr : RdPg w S A l) (hl : l.length ≤ 1000000) (hlc : l.length ≤ c) :
    Calls Try.prog 18 #[.slice A l.length c] w fun e w' => e = .returned (.bool true) ∧ Below w.heap.size w w' := by
  have H1 := Lib.hid (mdguard_any hr hl hlc)
  have H2 := Lib.hid (fun W (h : Below w.heap.size w W) => rmdguard_any (c := c) (hr.below PgR.good h) hl hlc)
  have H3 := Lib.hid (fun W (h : Below w.heap.size w W) => mdbytes_any (c := c) (hr.below PgR.good h) hl)
  have H4 := Lib.hid (fun W (h : Below w.heap.size w W) => rmdbytes_any (c := c) (hr.below PgR.good h) hl)
  have hgl := guardP_len hl
  generalize guardP l = gp at *
  generalize guardE l = ge at *
  generalize bysE l = be at *
  generalize bysB l = bb at *
  clear hr
  go_enter Try.func18, Try.ntmps18
  go_wp2_with (first
    | (go_at_call 10; (with_reducible refine H1.out.mono ?_); rintro e w1 ⟨v1, rfl, o1, b1⟩; obtain ⟨A1, c1, rfl, _, r1⟩ := o1.reads PgR.good (S := fun b => b < w1.heap.size) (fun b _ hl => hl))
    | (go_at_call 40; (with_reducible refine (H2.out _ b1).mono ?_); rintro e w2 ⟨v2, rfl, o2, b2⟩; obtain ⟨A2, c2, rfl, _, r2⟩ := o2.reads PgR.good (S := fun b => b < w2.heap.size) (fun b _ hl => hl); have bw2 := below_then b1 b2)
    | (go_at_call 19; (with_reducible refine (H3.out _ bw2).mono ?_); rintro e w3 ⟨v3, rfl, o3, b3⟩; obtain ⟨A3, c3, rfl, _, r3, _⟩ := o3.form; have bw3 := below_then bw2 b3)
    | (go_at_call 41; (with_reducible refine (H4.out _ bw3).mono ?_); rintro e w4 ⟨v4, rfl, o4, b4⟩; obtain ⟨A4, c4, rfl, _, r4, _⟩ := o4.form; have bw4 := below_then bw3 b4; have HSm := samepgs_any (w := w4) c1 c2 (((r1.below PgR.good b2).below PgR.good b3).below PgR.good b4) ((r2.below PgR.good b3).below PgR.good b4) hgl hgl; rw [decide_eq_true rfl] at HSm; have HSm2 := Lib.hid HSm; clear HSm; have r3b := r3.below b4 (Nat.le_refl _))
    | (go_at_call 13; (with_reducible refine HSm2.out.mono ?_); rintro e w5 ⟨rfl, b5⟩; have s1 := run_str (P := Try.prog) Try.underlying31 Try.underlying5 Try.underlying9 (r3b.below b5 (by have := b4.size; omega)) c3; have s2 := run_str (P := Try.prog) Try.underlying31 Try.underlying5 Try.underlying9 (r4.below b5 (Nat.le_refl _)) c4; have bw5 := below_then bw4 b5))
  go_ret
  exact ⟨rfl, bw5⟩
end Go.Proofs.Ytdnkdjaokmibjaa
