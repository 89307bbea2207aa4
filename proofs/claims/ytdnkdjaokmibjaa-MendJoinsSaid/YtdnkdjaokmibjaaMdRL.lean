/- What comes back (plain). -/
import Derived.Test.YtdnkdjaokmibjaaPgGood
set_option linter.unusedSimpArgs false
set_option linter.unusedVariables false
namespace Go.Proofs.Ytdnkdjaokmibjaa
open Go.RowKit

def xo (a b : Int) : Int := bits .xor .u8 a b
def isByte (a : Int) : Prop := 0 ≤ a ∧ a ≤ 255
theorem xo_nat (a b : Nat) (ha : a < 256) (hb : b < 256) : xo a b = ((a ^^^ b : Nat) : Int) := by
  have h2 : xo a b = IntKind.u8.wrap ((BitVec.ofInt 8 a ^^^ BitVec.ofInt 8 b).toNat : Int) := rfl
  have h3 : a ^^^ b < 256 := Nat.xor_lt_two_pow (n := 8) (by omega) (by omega)
  rw [h2, IntKind.wrap_u8, BitVec.toNat_xor, BitVec.ofInt_natCast, BitVec.ofInt_natCast, BitVec.toNat_ofNat, BitVec.toNat_ofNat, Nat.mod_eq_of_lt (by omega), Nat.mod_eq_of_lt (by omega)]
  omega
theorem xo_bd (a b : Int) : isByte (xo a b) := by
  have h2 : xo a b = IntKind.u8.wrap ((BitVec.ofInt 8 a ^^^ BitVec.ofInt 8 b).toNat : Int) := rfl
  rw [h2, IntKind.wrap_u8, isByte]; omega
theorem isByte.nat {a : Int} (h : isByte a) : ∃ n : Nat, a = n ∧ n < 256 := ⟨a.toNat, by have := h.1; omega, by have := h.2; have := h.1; omega⟩
theorem isByte.zero : isByte 0 := ⟨by omega, by omega⟩
theorem xo_comm {a b : Int} (ha : isByte a) (hb : isByte b) : xo a b = xo b a := by
  obtain ⟨a, rfl, ka⟩ := ha.nat
  obtain ⟨b, rfl, kb⟩ := hb.nat
  rw [xo_nat a b ka kb, xo_nat b a kb ka, Nat.xor_comm]
theorem xo_assoc {a b c : Int} (ha : isByte a) (hb : isByte b) (hc : isByte c) : xo (xo a b) c = xo a (xo b c) := by
  obtain ⟨a, rfl, ka⟩ := ha.nat
  obtain ⟨b, rfl, kb⟩ := hb.nat
  obtain ⟨c, rfl, kc⟩ := hc.nat
  have h1 : a ^^^ b < 256 := Nat.xor_lt_two_pow (n := 8) (by omega) (by omega)
  have h2 : b ^^^ c < 256 := Nat.xor_lt_two_pow (n := 8) (by omega) (by omega)
  rw [xo_nat a b ka kb, xo_nat b c kb kc, xo_nat _ c h1 kc, xo_nat a _ ka h2, Nat.xor_assoc]
theorem xo_zero {a : Int} (ha : isByte a) : xo a 0 = a := by
  obtain ⟨a, rfl, ka⟩ := ha.nat
  have := xo_nat a 0 ka (by omega)
  rw [Nat.xor_zero] at this
  exact this
theorem zero_xo {a : Int} (ha : isByte a) : xo 0 a = a := by rw [xo_comm .zero ha, xo_zero ha]
theorem xo_self {a : Int} (ha : isByte a) : xo a a = 0 := by
  obtain ⟨a, rfl, ka⟩ := ha.nat
  rw [xo_nat a a ka ka, Nat.xor_self]; rfl
theorem byteB.at_ {l : List Int} (h : byteB l) (i : Nat) : isByte (l.getD i 0) := by
  rw [List.getD_eq_getElem?_getD]
  cases hi : l[i]? with
  | none => exact .zero
  | some x => exact h x (List.mem_of_getElem? hi)

/-- bytes, all xored -/
def xs (l : List Int) : Int := l.foldr xo 0
theorem xs_bd (l : List Int) : isByte (xs l) := by
  cases l with
  | nil => exact .zero
  | cons x l => exact xo_bd _ _
theorem xs_foldl {l : List Int} (hl : byteB l) : ∀ {a : Int}, isByte a → l.foldl xo a = xo a (xs l) := by
  induction l with
  | nil => intro a ha; exact (xo_zero ha).symm
  | cons x l ih =>
    intro a ha
    have hx := hl x (List.mem_cons_self ..)
    rw [List.foldl_cons, ih (fun y hy => hl y (List.mem_cons_of_mem _ hy)) (xo_bd _ _), xo_assoc ha hx (xs_bd l)]
    rfl
theorem xs_append {a b : List Int} (ha : byteB a) : xs (a ++ b) = xo (xs a) (xs b) := by
  induction a with
  | nil => exact (zero_xo (xs_bd b)).symm
  | cons x a ih =>
    have hx := ha x (List.mem_cons_self ..)
    rw [List.cons_append]
    show xo x (xs (a ++ b)) = xo (xo x (xs a)) (xs b)
    rw [ih (fun y hy => ha y (List.mem_cons_of_mem _ hy)), xo_assoc hx (xs_bd a) (xs_bd b)]
/-- All xored with all but one is that one. -/
theorem xs_one {a b : List Int} {x : Int} (ha : byteB a) (hb : byteB b) (hx : isByte x) : xo (xs (a ++ x :: b)) (xs (a ++ b)) = x := by
  have A := xs_bd a
  have B := xs_bd b
  have e1 : xs (x :: b) = xo x (xs b) := rfl
  rw [xs_append ha, xs_append ha, e1]
  generalize xs a = p at *
  generalize xs b = q at *
  rw [xo_comm A (xo_bd _ _), ← xo_assoc (xo_bd _ _) A B, xo_assoc (xo_bd x q) A A, xo_self A, xo_zero (xo_bd _ _), xo_assoc hx B B, xo_self B, xo_zero hx]

/-- A row with another row xored to it, as long as the longer one. -/
def blend (a b : List Int) : List Int := (List.range (max a.length b.length)).map fun i => xo (a.getD i 0) (b.getD i 0)
theorem blend_len (a b : List Int) : (blend a b).length = max a.length b.length := by simp [blend]
theorem blend_at (a b : List Int) (i : Nat) : (blend a b).getD i 0 = xo (a.getD i 0) (b.getD i 0) := by
  by_cases h : i < max a.length b.length
  · simp only [List.getD_eq_getElem?_getD, blend, List.getElem?_map, List.getElem?_range h, Option.map_some, Option.getD_some]
  · have h1 : ∀ l : List Int, l.length ≤ i → l.getD i 0 = 0 := fun l hl => by rw [List.getD_eq_getElem?_getD, List.getElem?_eq_none hl]; rfl
    rw [h1 _ (by rw [blend_len]; omega), h1 a (by omega), h1 b (by omega), xo_zero .zero]
theorem blend_bytes (a b : List Int) : byteB (blend a b) := fun x hx => by
  simp only [blend, List.mem_map] at hx
  obtain ⟨i, _, rfl⟩ := hx
  exact xo_bd _ _
theorem list_ext0 {a b : List Int} (hl : a.length = b.length) (h : ∀ i, i < a.length → a.getD i 0 = b.getD i 0) : a = b := by
  refine List.ext_getElem hl fun i h1 h2 => ?_
  have := h i h1
  rwa [List.getD_eq_getElem?_getD, List.getD_eq_getElem?_getD, List.getElem?_eq_getElem h1, List.getElem?_eq_getElem h2] at this

/-- flags of a page, as a guard covers them -/
def flg (p : Pg) : Int := fl p.first 1 + fl p.last 2
theorem flg_bd (p : Pg) : 0 ≤ flg p ∧ flg p ≤ 3 := by
  obtain ⟨_, f, l, _, _⟩ := p
  cases f <;> cases l <;> simp [flg, fl]
def lenB (p : Pg) : Int := (p.body.length : Int) % 256
theorem lenB_bd (p : Pg) : isByte (lenB p) := ⟨by unfold lenB; omega, by unfold lenB; omega⟩
def flagX (a : Int) (l : List Pg) : Int := l.foldl (fun a p => xo a (flg p)) a
def sizeX (a : Int) (l : List Pg) : Int := l.foldl (fun a p => xo a (lenB p)) a
def sumX (a : List Int) (l : List Pg) : List Int := l.foldl (fun a p => blend a p.body) a
theorem flagX_eq (l : List Pg) {a : Int} (ha : isByte a) : flagX a l = xo a (xs (l.map flg)) := by
  rw [← xs_foldl (fun x hx => by obtain ⟨p, _, rfl⟩ := List.mem_map.1 hx; have := flg_bd p; exact ⟨this.1, by omega⟩) ha, flagX, List.foldl_map]
theorem sizeX_eq (l : List Pg) {a : Int} (ha : isByte a) : sizeX a l = xo a (xs (l.map lenB)) := by
  rw [← xs_foldl (fun x hx => by obtain ⟨p, _, rfl⟩ := List.mem_map.1 hx; exact lenB_bd p) ha, sizeX, List.foldl_map]
theorem sumX_at {l : List Pg} (hl : ∀ p ∈ l, byteB p.body) {a : List Int} (ha : byteB a) (i : Nat) : (sumX a l).getD i 0 = xo (a.getD i 0) (xs (l.map fun p => p.body.getD i 0)) := by
  have key : ∀ (l : List Pg) (a : List Int), (sumX a l).getD i 0 = (l.map fun p => p.body.getD i 0).foldl xo (a.getD i 0) := by
    intro l
    induction l with
    | nil => intro a; rfl
    | cons p l ih =>
      intro a
      show (sumX (blend a p.body) l).getD i 0 = _
      rw [ih, blend_at]; rfl
  rw [key, xs_foldl (fun x hx => by obtain ⟨p, hp, rfl⟩ := List.mem_map.1 hx; exact (hl p hp).at_ i) (ha.at_ i)]
def longest (l : List Pg) : Nat := l.foldr (fun p n => max p.body.length n) 0
theorem sumX_len (l : List Pg) (a : List Int) : (sumX a l).length = max a.length (longest l) := by
  induction l generalizing a with
  | nil => simp [sumX, longest]
  | cons p l ih =>
    show (sumX (blend a p.body) l).length = _
    rw [ih, blend_len]
    show max (max a.length p.body.length) (longest l) = max a.length (max p.body.length (longest l))
    omega
theorem sumX_bytes {l : List Pg} {a : List Int} (ha : byteB a) : byteB (sumX a l) := by
  induction l generalizing a with
  | nil => exact ha
  | cons p l ih => exact ih (blend_bytes _ _)
theorem longest_le {l : List Pg} {p : Pg} (h : p ∈ l) : p.body.length ≤ longest l := by
  induction l with
  | nil => cases h
  | cons q l ih =>
    show _ ≤ max q.body.length (longest l)
    rcases List.mem_cons.1 h with rfl | h
    · omega
    · have := ih h; omega
theorem longest_bd {l : List Pg} {n : Nat} (h : ∀ p ∈ l, p.body.length ≤ n) : longest l ≤ n := by
  induction l with
  | nil => exact Nat.zero_le _
  | cons q l ih =>
    show max q.body.length (longest l) ≤ n
    have := h q (List.mem_cons_self ..)
    have := ih fun p hp => h p (List.mem_cons_of_mem _ hp)
    omega
theorem longest_perm {a b : List Pg} {x : Pg} : longest (a ++ x :: b) = max x.body.length (longest (a ++ b)) := by
  induction a with
  | nil => rfl
  | cons p a ih =>
    show max p.body.length (longest (a ++ x :: b)) = max x.body.length (max p.body.length (longest (a ++ b)))
    rw [ih]; omega

/-- no page -/
def zg : Pg := ⟨0, false, false, false, []⟩
/-- the guard of a group -/
def guardG (g : List Pg) : Pg := ⟨(g.getD 0 zg).seq, false, false, true, [(g.length : Int) % 256, flagX 0 g, sizeX 0 g] ++ sumX [] g⟩
/-- pages with the guards of their groups -/
def grp (l : List Pg) (k : Nat) : List Pg := (l.drop (8 * k)).take 8
def nGrp (l : List Pg) : Nat := (l.length + 7) / 8
def guarded (l : List Pg) : List Pg := (List.range (nGrp l)).flatMap fun k => grp l k ++ [guardG (grp l k)]
/-- a page that Guard takes, behind another one -/
def gOk (l : List Pg) (i : Nat) : Prop := pgOk (l.getD i zg) = true ∧ (l.getD i zg).guard = false ∧ (0 < i → (l.getD i zg).seq = (l.getD (i - 1) zg).seq + 1)
instance (l : List Pg) (i : Nat) : Decidable (gOk l i) := by unfold gOk; infer_instance
def gAll (l : List Pg) : Bool := (List.range l.length).all fun i => decide (gOk l i)
def guardE (l : List Pg) : Int := if gAll l = true then 0 else 1
def guardP (l : List Pg) : List Pg := if gAll l = true then guarded l else []
theorem gAll_iff {l : List Pg} : gAll l = true ↔ ∀ i, i < l.length → gOk l i := by
  simp [gAll]
theorem gAll_not {l : List Pg} {i : Nat} (h : i < l.length) (hn : ¬ gOk l i) : gAll l = false := by
  rw [← Bool.not_eq_true, gAll_iff]
  exact fun h' => hn (h' i h)
end Go.Proofs.Ytdnkdjaokmibjaa

namespace Go.Proofs.Ytdnkdjaokmibjaa
open Go.RowKit

/-- the pages of a guard's group that are there, and the places of those that are not -/
def hasS (l : List Pg) (s : Int) : Option Pg := l.find? fun p => decide (p.seq = s)
def lackO (g : Pg) (l : List Pg) (n : Nat) : List Pg := (List.range n).filterMap fun i : Nat => hasS l (g.seq + (i : Int))
def lackM (g : Pg) (l : List Pg) (n : Nat) : Nat := ((List.range n).filter fun i : Nat => (hasS l (g.seq + (i : Int))).isNone).length
def lackS (g : Pg) (l : List Pg) (n : Nat) : Int := match ((List.range n).filter fun i : Nat => (hasS l (g.seq + (i : Int))).isNone).getLast? with
  | none => 0
  | some i => g.seq + i
theorem hasS_some {l : List Pg} {s : Int} {p : Pg} (h : hasS l s = some p) : p ∈ l ∧ p.seq = s :=
  ⟨List.mem_of_find?_eq_some h, by have := List.find?_some h; exact of_decide_eq_true this⟩
theorem hasS_none {l : List Pg} {s : Int} : hasS l s = none ↔ ∀ p ∈ l, p.seq ≠ s := by
  simp [hasS, List.find?_eq_none]
/-- Of pages of different numbers just that one bears the number. -/
def difS (l : List Pg) : Prop := l.Pairwise fun a b => a.seq ≠ b.seq
theorem difS.one {l : List Pg} (h : difS l) {i j : Nat} (hi : i < l.length) (hj : j < l.length) (he : l[i].seq = l[j].seq) : i = j := by
  have := List.pairwise_iff_getElem.1 h
  rcases Nat.lt_trichotomy i j with hij | hij | hij
  · exact absurd he (this i j hi hj hij)
  · exact hij
  · exact absurd he.symm (this j i hj hi hij)
theorem difS.has {l : List Pg} (h : difS l) {i : Nat} (hi : i < l.length) : hasS l l[i].seq = some l[i] := by
  cases hf : hasS l l[i].seq with
  | none => exact absurd rfl (hasS_none.1 hf l[i] (List.getElem_mem hi))
  | some p =>
    obtain ⟨h1, h2⟩ := hasS_some hf
    obtain ⟨j, hj, rfl⟩ := List.getElem_of_mem h1
    have := h.one hj hi h2
    subst this; rfl
theorem difS.snoc {l : List Pg} {p : Pg} (h : difS l) (hn : ∀ q ∈ l, q.seq ≠ p.seq) : difS (l ++ [p]) := by
  rw [difS, List.pairwise_append]
  exact ⟨h, List.pairwise_singleton _ _, fun a ha b hb => by rw [List.mem_singleton] at hb; subst hb; exact hn a ha⟩
theorem lackO_some {g : Pg} {l : List Pg} {n : Nat} {p : Pg} (h : hasS l (g.seq + n) = some p) : lackO g l (n + 1) = lackO g l n ++ [p] ∧ lackM g l (n + 1) = lackM g l n ∧ lackS g l (n + 1) = lackS g l n := by
  simp [lackO, lackM, lackS, List.range_succ, List.filterMap_append, List.filter_append, h]
theorem lackO_none {g : Pg} {l : List Pg} {n : Nat} (h : hasS l (g.seq + n) = none) : lackO g l (n + 1) = lackO g l n ∧ lackM g l (n + 1) = lackM g l n + 1 ∧ lackS g l (n + 1) = g.seq + n := by
  simp [lackO, lackM, lackS, List.range_succ, List.filterMap_append, List.filter_append, h]
theorem lackO_len (g : Pg) (l : List Pg) (n : Nat) : (lackO g l n).length ≤ n := by
  have := List.length_filterMap_le (fun i : Nat => hasS l (g.seq + i)) (List.range n)
  simpa [lackO] using this
theorem lackM_le (g : Pg) (l : List Pg) (n : Nat) : lackM g l n ≤ n := by
  have := List.length_filter_le (fun i : Nat => (hasS l (g.seq + i)).isNone) (List.range n)
  simpa [lackM] using this
theorem lackO_mem {g : Pg} {l : List Pg} {n : Nat} {p : Pg} (h : p ∈ lackO g l n) : p ∈ l := by
  obtain ⟨i, _, h2⟩ := List.mem_filterMap.1 h
  exact (hasS_some h2).1
theorem lackS_bd {g : Pg} {l : List Pg} {n : Nat} (h0 : 0 ≤ g.seq) (h1 : g.seq ≤ 2147483647) : 0 ≤ lackS g l n ∧ lackS g l n ≤ 2147483647 + n := by
  unfold lackS
  split
  · omega
  · rename_i i h
    have := List.mem_of_getLast? h
    simp at this
    omega

/-- the page that a guard and the others give -/
def backP (g : Pg) (o : List Pg) (s : Int) : Pg :=
  ⟨s, decide (flagX (g.body.getD 1 0) o % 2 = 1), decide (flagX (g.body.getD 1 0) o / 2 % 2 = 1), false, (sumX (g.body.drop 3) o).take (sizeX (g.body.getD 2 0) o).toNat⟩
def backOk (g : Pg) (o : List Pg) (s : Int) : Bool :=
  decide (flagX (g.body.getD 1 0) o ≤ 3) && decide (1 ≤ sizeX (g.body.getD 2 0) o ∧ sizeX (g.body.getD 2 0) o ≤ 252 ∧ sizeX (g.body.getD 2 0) o ≤ (sumX (g.body.drop 3) o).length) &&
    ((sumX (g.body.drop 3) o).drop (sizeX (g.body.getD 2 0) o).toNat).all (fun c => decide (c = 0)) && pgOk (backP g o s)
end Go.Proofs.Ytdnkdjaokmibjaa
