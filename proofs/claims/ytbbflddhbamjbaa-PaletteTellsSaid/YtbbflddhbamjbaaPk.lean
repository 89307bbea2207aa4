/- Packets, pages, holes in memory. -/
import Derived.Test.YtbbflddhbamjbaaProg
import Derived.Test.YtbbflddhbamjbaaDat
import Derived.Test.YtbbflddhbamjbaaOctInfo
set_option linter.unusedSimpArgs false
set_option linter.unusedVariables false
namespace Go.Proofs.Ytbbflddhbamjbaa
open Go.RowKit

structure Pk where
  st : Int
  at_ : Int
  ln : Int
  key : Bool
  hid : Bool
  data : List Int
deriving DecidableEq
structure Pg where
  seq : Int
  first : Bool
  last : Bool
  guard : Bool
  body : List Int
deriving DecidableEq
structure Ho where
  lo : Int
  hi : Int
deriving DecidableEq

def i64B (n : Int) : Prop := -9223372036854775808 ≤ n ∧ n ≤ 9223372036854775807
def byteB (l : List Int) : Prop := ∀ x ∈ l, 0 ≤ x ∧ x ≤ 255
structure Pk.wf (p : Pk) : Prop where
  st : i64B p.st
  at_ : i64B p.at_
  ln : i64B p.ln
  len : p.data.length ≤ 140737488355328
  bytes : byteB p.data
structure Pg.wf (p : Pg) : Prop where
  seq : i64B p.seq
  len : p.body.length ≤ 140737488355328
  bytes : byteB p.body
structure Ho.wf (p : Ho) : Prop where
  lo : i64B p.lo
  hi : i64B p.hi

/-- as values -/
def Pk.cells (p : Pk) (A : Option Addr) (c : Nat) : List Value := [.int .i64 p.st, .int .i64 p.at_, .int .i64 p.ln, .bool p.key, .bool p.hid, .slice A p.data.length c]
def Pg.cells (p : Pg) (A : Option Addr) (c : Nat) : List Value := [.int .i64 p.seq, .bool p.first, .bool p.last, .bool p.guard, .slice A p.body.length c]
def Ho.cells (p : Ho) : List Value := [.int .i64 p.lo, .int .i64 p.hi]

def PkR : Rel Pk := fun w S cs p => ∃ A c, cs = p.cells A c ∧ p.data.length ≤ c ∧ RdS w S .u8 A p.data ∧ p.wf
def PgR : Rel Pg := fun w S cs p => ∃ A c, cs = p.cells A c ∧ p.body.length ≤ c ∧ RdS w S .u8 A p.body ∧ p.wf
def HoR : Rel Ho := fun _ _ cs p => cs = p.cells ∧ p.wf

theorem PkR.good : Rel.Good PkR 6 where
  pos := by omega
  len := by rintro w S cs x ⟨A, c, rfl, _⟩; rfl
  one := by
    rintro w S cs x ⟨A, c, rfl, _⟩ u hu
    simp only [Pk.cells, List.mem_cons, List.not_mem_nil, or_false] at hu
    rcases hu with rfl | rfl | rfl | rfl | rfl | rfl <;> rfl
  keep := by
    rintro w w' M S cs x ⟨A, c, h1, h2, h3, h4⟩ hm hs
    exact ⟨A, c, h1, h2, h3.keep hm hs, h4⟩
  weak := by
    rintro w S S' cs x ⟨A, c, h1, h2, h3, h4⟩ hs
    exact ⟨A, c, h1, h2, h3.weak hs, h4⟩
theorem PgR.good : Rel.Good PgR 5 where
  pos := by omega
  len := by rintro w S cs x ⟨A, c, rfl, _⟩; rfl
  one := by
    rintro w S cs x ⟨A, c, rfl, _⟩ u hu
    simp only [Pg.cells, List.mem_cons, List.not_mem_nil, or_false] at hu
    rcases hu with rfl | rfl | rfl | rfl | rfl <;> rfl
  keep := by
    rintro w w' M S cs x ⟨A, c, h1, h2, h3, h4⟩ hm hs
    exact ⟨A, c, h1, h2, h3.keep hm hs, h4⟩
  weak := by
    rintro w S S' cs x ⟨A, c, h1, h2, h3, h4⟩ hs
    exact ⟨A, c, h1, h2, h3.weak hs, h4⟩
theorem HoR.good : Rel.Good HoR 2 where
  pos := by omega
  len := by rintro w S cs x ⟨rfl, _⟩; rfl
  one := by
    rintro w S cs x ⟨rfl, _⟩ u hu
    simp only [Ho.cells, List.mem_cons, List.not_mem_nil, or_false] at hu
    rcases hu with rfl | rfl <;> rfl
  keep := by
    rintro w w' M S cs x ⟨h1, h4⟩ hm hs
    exact ⟨h1, h4⟩
  weak := by
    rintro w S S' cs x ⟨h1, h4⟩ hs
    exact ⟨h1, h4⟩

theorem add_next (ad : Addr) (n i : Nat) (hi : i ≠ 0) : ad.add (n + i) = ⟨(ad.add n).block, (ad.add n).off + i, none⟩ := by
  rw [← add_add']
  generalize ad.add n = p
  unfold Addr.add
  rw [if_neg (by simpa using hi)]
/-- slices of them -/
abbrev RdPk := RdG PkR 6
abbrev RdPg := RdG PgR 5
abbrev RdHo := RdG HoR 2
section
variable {w : World} {S : Nat → Prop} {A : Option Addr}
theorem RdPk.at_ {xs : List Pk} (h : RdPk w S A xs) {j : Nat} (hj : j < xs.length) : ∃ ad p Aj cj, A = some ad ∧ S p.block ∧ ad.add (j * 6) = p ∧ w.cell? p = some (.int .i64 xs[j].st) ∧ w.cell? ⟨p.block, p.off + 1, none⟩ = some (.int .i64 xs[j].at_) ∧
    w.cell? ⟨p.block, p.off + 2, none⟩ = some (.int .i64 xs[j].ln) ∧ w.cell? ⟨p.block, p.off + 3, none⟩ = some (.bool xs[j].key) ∧ w.cell? ⟨p.block, p.off + 4, none⟩ = some (.bool xs[j].hid) ∧ w.cell? ⟨p.block, p.off + 5, none⟩ = some (.slice Aj xs[j].data.length cj) ∧
    xs[j].data.length ≤ cj ∧ RdS w S .u8 Aj xs[j].data ∧ xs[j].wf := by
  obtain ⟨ad, cs, e, hb, ⟨Aj, cj, rfl, h1, h2, h3⟩, hc⟩ := h j hj
  exact ⟨ad, _, Aj, cj, e, by rw [add_block]; exact hb, rfl, hc 0 _ rfl, (add_next ad _ 1 (by omega)) ▸ hc 1 _ rfl, (add_next ad _ 2 (by omega)) ▸ hc 2 _ rfl, (add_next ad _ 3 (by omega)) ▸ hc 3 _ rfl, (add_next ad _ 4 (by omega)) ▸ hc 4 _ rfl, (add_next ad _ 5 (by omega)) ▸ hc 5 _ rfl, h1, h2, h3⟩
theorem RdPg.at_ {xs : List Pg} (h : RdPg w S A xs) {j : Nat} (hj : j < xs.length) : ∃ ad p Aj cj, A = some ad ∧ S p.block ∧ ad.add (j * 5) = p ∧ w.cell? p = some (.int .i64 xs[j].seq) ∧ w.cell? ⟨p.block, p.off + 1, none⟩ = some (.bool xs[j].first) ∧
    w.cell? ⟨p.block, p.off + 2, none⟩ = some (.bool xs[j].last) ∧ w.cell? ⟨p.block, p.off + 3, none⟩ = some (.bool xs[j].guard) ∧ w.cell? ⟨p.block, p.off + 4, none⟩ = some (.slice Aj xs[j].body.length cj) ∧
    xs[j].body.length ≤ cj ∧ RdS w S .u8 Aj xs[j].body ∧ xs[j].wf := by
  obtain ⟨ad, cs, e, hb, ⟨Aj, cj, rfl, h1, h2, h3⟩, hc⟩ := h j hj
  exact ⟨ad, _, Aj, cj, e, by rw [add_block]; exact hb, rfl, hc 0 _ rfl, (add_next ad _ 1 (by omega)) ▸ hc 1 _ rfl, (add_next ad _ 2 (by omega)) ▸ hc 2 _ rfl, (add_next ad _ 3 (by omega)) ▸ hc 3 _ rfl, (add_next ad _ 4 (by omega)) ▸ hc 4 _ rfl, h1, h2, h3⟩
theorem RdHo.at_ {xs : List Ho} (h : RdHo w S A xs) {j : Nat} (hj : j < xs.length) : ∃ ad p, A = some ad ∧ S p.block ∧ ad.add (j * 2) = p ∧ w.cell? p = some (.int .i64 xs[j].lo) ∧ w.cell? ⟨p.block, p.off + 1, none⟩ = some (.int .i64 xs[j].hi) ∧ xs[j].wf := by
  obtain ⟨ad, cs, e, hb, ⟨rfl, h1⟩, hc⟩ := h j hj
  exact ⟨ad, _, e, by rw [add_block]; exact hb, rfl, hc 0 _ rfl, (add_next ad _ 1 (by omega)) ▸ hc 1 _ rfl, h1⟩
end
end Go.Proofs.Ytbbflddhbamjbaa
