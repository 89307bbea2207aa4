/- disk.Start, where the pages are there. -/
import Derived.Test.YtdlbjilbdbjadaaDkSync
set_option linter.unusedSimpArgs false
set_option linter.unusedVariables false
namespace Go.Proofs.Ytdlbjilbdbjadaa
open Go.RowKit

/-- What is recovered. -/
structure Good (s : Dk) (ps : List Pg) (U : Nat) : Prop where
  hdr : Hdr s.see ps.length U
  u1 : 1 ≤ U
  un : U ≤ s.n
  lies : Lies ((s.see.drop 64).take (64 * (U - 1))) 0 0 ps
  len : ps.length ≤ 100000
set_option maxRecDepth 100000 in
theorem start_any {w : World} {base gd gs ge : Nat} {vq : Value} {s : Dk} (h : DkM w base gd gs ge vq s) {ps : List Pg} {U : Nat} (hG : Good s ps U) (hq : s.qs.length ≤ U) :
    Calls Try.prog 8 #[.pointer (some ⟨gd, 0, none⟩)] w fun e w' => ∃ gr, e = .returned (.tuple #[.pointer (some ⟨gr, 0, none⟩), .int .i64 0]) ∧ w.heap.size ≤ gr ∧ RkM w' base gd gs ge gr vq (.slice none 0 0) s ⟨ps.length, U, []⟩ ∧ Below w.heap.size w w' := by
  have HRe := Lib.hid (recover_any h hG.hdr hG.u1 hG.un hG.lies hG.len)
  have HDu := Lib.hid (fun W (hW : Below w.heap.size w W) => durable_any (h.below hW) hG.hdr)
  have HD := Lib.hid h
  have hpl := hG.len
  have hun := hG.un
  clear h
  go_enter Try.func8, Try.ntmps8
  go_upto_region 5 with (first
    | (go_at_call 15; (with_reducible refine HRe.out.mono ?_); rintro e w1 ⟨v1, rfl, ho1, hb1⟩; obtain ⟨A1, c1, rfl, hc1, _, _⟩ := ho1.form PgR.good)
    | (go_at_call 29; (with_reducible refine (HDu.out _ hb1).mono ?_); rintro e w2 ⟨rfl, hb2⟩))
  have bb2 := below_then hb1 hb2
  have hD2 := HD.out.below bb2
  have hdl := hD2.lt
  go_wp2_with (fail)
  go_ret2
  have kx := Blk.new w2 73 #[.pointer (some ⟨gd, 0, none⟩), .int .i64 (ps.length : Int), .int .i64 (U : Int), .slice none 0 0]
  have bx := below_alloc (Below.refl w2.heap.size w2) (.cells #[.pointer (some ⟨gd, 0, none⟩), .int .i64 (ps.length : Int), .int .i64 (U : Int), .slice none 0 0] 73)
  have hgd := (hdl gd (.inl rfl)).2
  have hgs := (hdl gs (.inr (.inl rfl))).2
  have hge := (hdl ge (.inr (.inr (.inl rfl)))).2
  refine ⟨w2.heap.size, rfl, bb2.size, ⟨hD2.below bx, kx, OwnO.nil_ _ _ _ _, fun x hx => (by cases hx), ⟨by omega, by omega, by omega, fun e => by have := (hdl _ (.inr (.inr (.inr e)))).2; omega⟩, fun b hb => (by cases hb), hD2.ge_.2.2.2, ⟨hq, hun⟩, by show ps.length ≤ 1000000; omega⟩, below_alloc bb2 _⟩
end Go.Proofs.Ytdlbjilbdbjadaa
