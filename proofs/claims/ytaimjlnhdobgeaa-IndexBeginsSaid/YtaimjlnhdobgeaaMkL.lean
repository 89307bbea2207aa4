/- Marks as bytes, and back (plain). -/
import Derived.Test.YtaimjlnhdobgeaaPk
import Derived.KernelRfl
import Derived.Test.YtaimjlnhdobgeaaOctLaws
import Derived.Test.YtaimjlnhdobgeaaSumsL
import Derived.Test.YtaimjlnhdobgeaaPgTurnL
set_option linter.unusedSimpArgs false
set_option linter.unusedVariables false
namespace Go.Proofs.Ytaimjlnhdobgeaa
open Go.RowKit

structure Mk where
  st : Int
  at_ : Int
  pg : Int
deriving DecidableEq
structure Mk.wf (m : Mk) : Prop where
  st : i64B m.st
  at_ : i64B m.at_
  pg : i64B m.pg
def Mk.cells (m : Mk) : List Value := [.int .i64 m.st, .int .i64 m.at_, .int .i64 m.pg]
abbrev Mk.val (m : Mk) : Value := .agg #[.int .i64 m.st, .int .i64 m.at_, .int .i64 m.pg]
def MkR : Rel Mk := fun _ _ cs p => cs = p.cells ∧ p.wf
theorem MkR.good : Rel.Good MkR 3 where
  pos := by omega
  len := by rintro w S cs x ⟨rfl, _⟩; rfl
  one := by
    rintro w S cs x ⟨rfl, _⟩ u hu
    simp only [Mk.cells, List.mem_cons, List.not_mem_nil, or_false] at hu
    rcases hu with rfl | rfl | rfl <;> rfl
  keep := by
    rintro w w' M S cs x ⟨h1, h4⟩ hm hs
    exact ⟨h1, h4⟩
  weak := by
    rintro w S S' cs x ⟨h1, h4⟩ hs
    exact ⟨h1, h4⟩
abbrev RdMk := RdG MkR 3
section
variable {w : World} {S : Nat → Prop} {A : Option Addr}
theorem RdMk.at_ {xs : List Mk} (h : RdMk w S A xs) {j : Nat} (hj : j < xs.length) : ∃ ad p, A = some ad ∧ S p.block ∧ ad.add (j * 3) = p ∧ w.cell? p = some (.int .i64 xs[j].st) ∧ w.cell? ⟨p.block, p.off + 1, none⟩ = some (.int .i64 xs[j].at_) ∧ w.cell? ⟨p.block, p.off + 2, none⟩ = some (.int .i64 xs[j].pg) ∧ xs[j].wf := by
  obtain ⟨ad, cs, e, hb, ⟨rfl, h1⟩, hc⟩ := h j hj
  exact ⟨ad, _, e, by rw [add_block]; exact hb, rfl, hc 0 _ rfl, (add_next ad _ 1 (by omega)) ▸ hc 1 _ rfl, (add_next ad _ 2 (by omega)) ▸ hc 2 _ rfl, h1⟩
end
theorem info_mk : (Try.prog.info? 49).map (fun i => (i.zero, i.size, i.bytes)) = some (some (.agg #[.int .i64 0, .int .i64 0, .int .i64 0]), 3, 24) := by kernel_rfl

/-- The mark that is found. -/
def better (s at_ : Int) (b : Option Mk) (m : Mk) : Option Mk :=
  if m.st = s ∧ m.at_ ≤ at_ then (match b with | none => some m | some x => if x.at_ ≤ m.at_ then some m else some x) else b
def findM (l : List Mk) (s at_ : Int) : Option Mk := l.foldl (better s at_) none
def Mk.zero : Mk := ⟨0, 0, 0⟩
end Go.Proofs.Ytaimjlnhdobgeaa

namespace Go.Proofs.Ytaimjlnhdobgeaa
open Go.RowKit

def markOk (m : Mk) : Bool := decide (0 ≤ m.st ∧ m.st < 4 ∧ 0 ≤ m.at_ ∧ m.at_ ≤ 1125899906842624 ∧ 0 ≤ m.pg ∧ m.pg ≤ 2147483647)
def mkTail : Int → Int → List Mk → List Int
  | _, _, [] => []
  | a, p, m :: r => putOne m.st ++ (putOne (zig (m.at_ - a)) ++ (putOne (zig (m.pg - p)) ++ mkTail m.at_ m.pg r))
def mkHead (l : List Mk) : List Int := putOne l.length ++ mkTail 0 0 l
def mkBytes (l : List Mk) : List Int := mkHead l ++ bg (crc (mkHead l)) 4
def mkAll (l : List Mk) : Bool := l.all markOk
def mkE (l : List Mk) : Int := if mkAll l = true then 0 else 1
def mkB (l : List Mk) : List Int := if mkAll l = true then mkBytes l else []
def endAt (a : Int) (l : List Mk) : Int := l.foldl (fun _ m => m.at_) a
def endPg (p : Int) (l : List Mk) : Int := l.foldl (fun _ m => m.pg) p
theorem endAt_snoc (a : Int) (l : List Mk) (m : Mk) : endAt a (l ++ [m]) = m.at_ := by simp [endAt]
theorem endPg_snoc (a : Int) (l : List Mk) (m : Mk) : endPg a (l ++ [m]) = m.pg := by simp [endPg]
theorem mkTail_snoc (l : List Mk) (m : Mk) : ∀ a p, mkTail a p (l ++ [m]) = mkTail a p l ++ put [m.st, zig (m.at_ - endAt a l), zig (m.pg - endPg p l)] := by
  induction l with
  | nil => intro a p; simp [mkTail, put, endAt, endPg]
  | cons x l ih => intro a p; rw [List.cons_append, mkTail, ih, mkTail]; simp [endAt, endPg]
theorem markOk_bd {m : Mk} (h : markOk m = true) : 0 ≤ m.st ∧ m.st < 4 ∧ 0 ≤ m.at_ ∧ m.at_ ≤ 1125899906842624 ∧ 0 ≤ m.pg ∧ m.pg ≤ 2147483647 := by simpa [markOk] using h
theorem end_bd {l : List Mk} (h : mkAll l = true) : 0 ≤ endAt 0 l ∧ endAt 0 l ≤ 1125899906842624 ∧ 0 ≤ endPg 0 l ∧ endPg 0 l ≤ 2147483647 := by
  have key : ∀ (l : List Mk) (a p : Int), mkAll l = true → 0 ≤ a ∧ a ≤ 1125899906842624 → 0 ≤ p ∧ p ≤ 2147483647 → 0 ≤ endAt a l ∧ endAt a l ≤ 1125899906842624 ∧ 0 ≤ endPg p l ∧ endPg p l ≤ 2147483647 := fun l => by
    induction l with
    | nil => intro a p _ h1 h2; simp only [endAt, endPg, List.foldl_nil]; omega
    | cons x l ih =>
      intro a p h h1 h2
      simp only [mkAll, List.all_cons, Bool.and_eq_true] at h
      have hx := markOk_bd h.1
      exact ih x.at_ x.pg h.2 (by omega) (by omega)
  exact key l 0 0 h (by omega) (by omega)
theorem zig_bd {a : Int} (h : -1125899906842624 ≤ a ∧ a ≤ 1125899906842624) : 0 ≤ zig a ∧ zig a ≤ 2251799813685248 := by unfold zig; split <;> omega
theorem zag_zig (a : Int) : zag (zig a) = a := by
  unfold zig zag
  split <;> split <;> omega
theorem put_bytes {l : List Int} (h : ∀ x ∈ l, 0 ≤ x ∧ x ≤ 18446744073709551615) : byteB (put l) := fun y hy => by
  obtain ⟨x, hx, hy⟩ := List.mem_flatMap.1 hy
  exact putOne_bytes x (h x hx).1 (h x hx).2 y hy
theorem mkTail_bytes {l : List Mk} (h : mkAll l = true) : byteB (mkTail 0 0 l) := by
  have key : ∀ (l : List Mk) (a p : Int), mkAll l = true → 0 ≤ a ∧ a ≤ 1125899906842624 → 0 ≤ p ∧ p ≤ 2147483647 → byteB (mkTail a p l) := fun l => by
    induction l with
    | nil => intro a p _ _ _; exact byteB.nil_
    | cons x l ih =>
      intro a p h h1 h2
      simp only [mkAll, List.all_cons, Bool.and_eq_true] at h
      have hx := markOk_bd h.1
      have z1 := zig_bd (a := x.at_ - a) (by omega)
      have z2 := zig_bd (a := x.pg - p) (by omega)
      rw [mkTail]
      exact byteB.append (putOne_bytes _ (by omega) (by omega)) (byteB.append (putOne_bytes _ (by omega) (by omega)) (byteB.append (putOne_bytes _ (by omega) (by omega)) (ih x.at_ x.pg h.2 (by omega) (by omega))))
  exact key l 0 0 h (by omega) (by omega)
theorem mkHead_bytes {l : List Mk} (h : mkAll l = true) (hl : l.length ≤ 1000000) : byteB (mkHead l) := byteB.append (putOne_bytes _ (by omega) (by omega)) (mkTail_bytes h)
theorem mkTail_len (l : List Mk) : ∀ a p, (mkTail a p l).length ≤ 30 * l.length := by
  induction l with
  | nil => intro a p; simp [mkTail]
  | cons x l ih =>
    intro a p
    have h1 := putOne_length x.st
    have h2 := putOne_length (zig (x.at_ - a))
    have h3 := putOne_length (zig (x.pg - p))
    have h4 := ih x.at_ x.pg
    simp only [mkTail, List.length_append, List.length_cons]
    omega
theorem mkHead_len (l : List Mk) : 1 ≤ (mkHead l).length ∧ (mkHead l).length ≤ 30 * l.length + 10 := by
  have h1 := putOne_length (l.length : Int)
  have h2 := mkTail_len l 0 0
  rw [mkHead, List.length_append]; omega
theorem mkTail_ge (l : List Mk) : ∀ a p, l.length ≤ (mkTail a p l).length := by
  induction l with
  | nil => intro a p; simp
  | cons x l ih =>
    intro a p
    have h1 := putOne_length x.st
    have h4 := ih x.at_ x.pg
    simp only [mkTail, List.length_append, List.length_cons]
    omega
/-- A number read where it lies. -/
theorem num_put {s : Rs} {n most : Int} {r : List Int} (he : s.err = 0) (hd : s.data.drop s.at_ = putOne n ++ r) (h0 : 0 ≤ n) (h1 : n ≤ most) (h2 : most ≤ 18446744073709551615) :
    s.num most = (n, ⟨s.data, s.at_ + (putOne n).length, 0⟩) := by
  have hv := vint_put n r h0 (by omega)
  rw [Rs.num, if_neg (by simp [he])]
  simp only [hd, hv]
  rw [if_neg (by simp), if_neg (by omega), he]
theorem drop_put {l a r : List Int} {p : Nat} (h : l.drop p = a ++ r) : l.drop (p + a.length) = r := by
  rw [← List.drop_drop, h, List.drop_left]
theorem crc_one {pre post : List Int} {a b : Int} (ha : 0 ≤ a ∧ a ≤ 255) (hb : 0 ≤ b ∧ b ≤ 255) : crc (pre ++ ([a] ++ post)) = crc (pre ++ ([b] ++ post)) ↔ a = b := by
  refine ⟨fun h => ?_, fun h1 => by rw [h1]⟩
  have hm : (0 : Int) ≤ 4294967295 ∧ (4294967295 : Int) ≤ 4294967295 := by omega
  have h1 : crun (pre ++ ([a] ++ post)) 4294967295 = crun (pre ++ ([b] ++ post)) 4294967295 := by
    unfold crc at h
    omega
  rw [crun_is _ hm, crun_is _ hm] at h1
  have h2 : vrun (pre ++ ([a] ++ post)) (BitVec.ofInt 32 4294967295) = vrun (pre ++ ([b] ++ post)) (BitVec.ofInt 32 4294967295) := BitVec.eq_of_toNat_eq (by omega)
  rw [vrun_append, vrun_append, vrun_append, vrun_append] at h2
  have h3 := vrun_inj post _ _ h2
  generalize vrun pre (BitVec.ofInt 32 4294967295) = s at h3
  obtain ⟨e1, l1, x1, y1⟩ := xor_byte ha hb
  have h4 : vbyte s (BitVec.ofInt 32 a) = vbyte s (BitVec.ofInt 32 b) := h3
  have h5 : vbits 8 ((s ^^^ s) ^^^ (BitVec.ofInt 32 a ^^^ BitVec.ofInt 32 b)) = 0#32 := by rw [← vbyte_xor, h4, BitVec.xor_self]
  have h6 := vbits_zero 8 h5
  rw [BitVec.xor_self, BitVec.zero_xor, x1] at h6
  have h7 := congrArg BitVec.toNat h6
  simp only [BitVec.toNat_ofNat] at h7
  exact y1 (by omega)
theorem set_split1 {l : List Int} {pos : Nat} (h : pos < l.length) (y : Int) : l.set pos y = l.take pos ++ ([y] ++ l.drop (pos + 1)) := by
  rw [List.set_eq_take_append_cons_drop, if_pos h]; rfl
/-- One byte turned: another sum. -/
theorem crc_turned {l : List Int} {pos : Nat} (h : pos < l.length) (hb : byteB l) {y : Int} (hy : 0 ≤ y ∧ y ≤ 255) : crc (l.set pos y) = crc l ↔ y = l.getD pos 0 := by
  have e := set_split1 h (l.getD pos 0)
  rw [set_same h] at e
  rw [set_split1 h y]
  conv => lhs; rhs; rw [e]
  exact crc_one hy (hb.getD _)
end Go.Proofs.Ytaimjlnhdobgeaa
