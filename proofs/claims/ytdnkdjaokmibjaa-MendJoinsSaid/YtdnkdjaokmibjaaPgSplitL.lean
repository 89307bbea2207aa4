/- What Split answers (plain). -/
import Derived.Test.YtdnkdjaokmibjaaPkLayL
import Derived.Test.YtdnkdjaokmibjaaSum32
set_option linter.unusedSimpArgs false
set_option linter.unusedVariables false
namespace Go.Proofs.Ytdnkdjaokmibjaa
open Go.RowKit

def mostB (g : Bool) : Int := if g then 255 else 252
def pgOk (p : Pg) : Bool := decide (0 ≤ p.seq ∧ p.seq ≤ 2147483647 ∧ 1 ≤ p.body.length ∧ (p.body.length : Int) ≤ mostB p.guard)
def pgE (p : Pg) : Int := if pgOk p = true then 0 else 1
def pgFlags (p : Pg) : Int := fl p.first 1 + fl p.last 2 + fl p.guard 4
def pgHead (p : Pg) : List Int := [75, 80, pgFlags p] ++ bg p.seq 4 ++ [(p.body.length : Int)] ++ p.body
def pgBytes (p : Pg) : List Int := pgHead p ++ bg (crc (pgHead p)) 4
def pgB (p : Pg) : List Int := if pgE p = 0 then pgBytes p else []

theorem sm_bd (k : Nat) : ∀ n : Int, ∀ x ∈ sm n k, 0 ≤ x ∧ x ≤ 255 := by
  induction k with
  | zero => intro n x hx; cases hx
  | succ k ih =>
    intro n x hx
    rcases List.mem_cons.1 hx with rfl | h
    · omega
    · exact ih _ x h
theorem mostB_le (g : Bool) : 252 ≤ mostB g ∧ mostB g ≤ 255 := by cases g <;> simp [mostB]
theorem bg_bytes (n : Int) (k : Nat) : byteB (bg n k) := fun x hx => by
  rw [bg, List.mem_reverse] at hx
  exact sm_bd k n x hx
theorem byteB.append {a b : List Int} (ha : byteB a) (hb : byteB b) : byteB (a ++ b) := fun x hx => by
  rw [List.mem_append] at hx
  rcases hx with h | h
  · exact ha x h
  · exact hb x h
theorem byteB.cons {x : Int} {a : List Int} (hx : 0 ≤ x ∧ x ≤ 255) (ha : byteB a) : byteB (x :: a) := fun y hy => by
  rcases List.mem_cons.1 hy with rfl | h
  · exact hx
  · exact ha y h
theorem byteB.nil_ : byteB [] := fun x hx => by cases hx
theorem pgFlags_bd (p : Pg) : 0 ≤ pgFlags p ∧ pgFlags p ≤ 7 := by
  obtain ⟨_, f, l, g, _⟩ := p
  cases f <;> cases l <;> cases g <;> simp [pgFlags, fl]
theorem pgOk_len {p : Pg} (h : pgOk p = true) : 1 ≤ p.body.length ∧ p.body.length ≤ 255 := by
  have := mostB_le p.guard
  simp only [pgOk, decide_eq_true_eq] at h
  omega
theorem pgHead_bytes {p : Pg} (h : pgOk p = true) (hb : byteB p.body) : byteB (pgHead p) := by
  have h1 := pgOk_len h
  refine ((((byteB.cons (by omega) (.cons (by omega) (.cons ?_ .nil_))).append (bg_bytes _ _)).append (.cons (by omega) .nil_))).append hb
  have := pgFlags_bd p
  omega
theorem pgHead_len (p : Pg) : (pgHead p).length = p.body.length + 8 := by simp [pgHead, bg_len]; omega
theorem or_flags3 (a b c : Bool) : bits .or .u8 (fl a 1 + fl b 2) (fl c 4) = fl a 1 + fl b 2 + fl c 4 := by cases a <;> cases b <;> cases c <;> decide
end Go.Proofs.Ytdnkdjaokmibjaa

namespace Go.Proofs.Ytdnkdjaokmibjaa
open Go.RowKit

/-- page number j of bytes, numbered from s on -/
def pageAt (b : List Int) (s : Int) (j : Nat) : Pg := ⟨s + j, decide (j = 0), decide (b.length ≤ 252 * j + 252), false, (b.drop (252 * j)).take 252⟩
def nPages (b : List Int) : Nat := (b.length + 251) / 252
def pagesOf (b : List Int) (s : Int) : List Pg := (List.range (nPages b)).map (pageAt b s)
def pagesAll (from_ : Int) (l : List (List Int)) : List Pg := l.foldl (fun acc b => acc ++ pagesOf b (from_ + acc.length)) []
/-- the first error of Lay -/
def layBad (l : List Pk) : Int := ((l.map layE).find? (· != 0)).getD 0
def splitE (l : List Pk) (from_ : Int) : Int :=
  if from_ < 0 ∨ 2147483647 < from_ then 1
  else if layBad l ≠ 0 then layBad l
  else if 0 < (pagesAll from_ (l.map Pk.bytes)).length ∧ 2147483647 < from_ + (pagesAll from_ (l.map Pk.bytes)).length - 1 then 4 else 0
def splitP (l : List Pk) (from_ : Int) : List Pg := if splitE l from_ = 0 then pagesAll from_ (l.map Pk.bytes) else []

theorem pagesOf_len (b : List Int) (s : Int) : (pagesOf b s).length = nPages b := by simp [pagesOf]
theorem pagesOf_take {b : List Int} {s : Int} {j : Nat} (h : j < nPages b) : (pagesOf b s).take (j + 1) = (pagesOf b s).take j ++ [pageAt b s j] := by
  rw [List.take_succ_eq_append_getElem (by rw [pagesOf_len]; exact h)]
  simp [pagesOf]
theorem nPages_lt {b : List Int} {j : Nat} : j < nPages b ↔ 252 * j < b.length := by unfold nPages; omega
theorem pagesAll_snoc (f : Int) (l : List (List Int)) (b : List Int) : pagesAll f (l ++ [b]) = pagesAll f l ++ pagesOf b (f + (pagesAll f l).length) := by simp [pagesAll]
theorem layBad_none {l : List Pk} (h : ∀ p ∈ l, layE p = 0) : layBad l = 0 := by
  have : (l.map layE).find? (· != 0) = none := by
    rw [List.find?_eq_none]
    intro x hx
    obtain ⟨p, hp, rfl⟩ := List.mem_map.1 hx
    simp [h p hp]
  simp [layBad, this]
theorem layBad_some {l : List Pk} {k : Nat} (hk : k < l.length) (h : ∀ p ∈ l.take k, layE p = 0) (hb : layE l[k] ≠ 0) : layBad l = layE l[k] := by
  have e : l = l.take k ++ l[k] :: l.drop (k + 1) := by rw [← List.drop_eq_getElem_cons hk, List.take_append_drop]
  have h1 : ((l.take k).map layE).find? (· != 0) = none := by
    rw [List.find?_eq_none]
    intro x hx
    obtain ⟨p, hp, rfl⟩ := List.mem_map.1 hx
    simp [h p hp]
  have h2 : (l.map layE).find? (· != 0) = some (layE l[k]) := by
    have e2 : l.map layE = (l.take k).map layE ++ layE l[k] :: (l.drop (k + 1)).map layE := by
      rw [← List.map_cons, ← List.map_append, ← e]
    rw [e2, List.find?_append, h1, Option.none_or, List.find?_cons]
    have h3 : (layE l[k] != 0) = true := by simpa using hb
    rw [h3]
  simp [layBad, h2]
theorem layE_bd (p : Pk) : 0 ≤ layE p ∧ layE p ≤ 4 := by unfold layE; split <;> (try split) <;> omega
theorem bytes_len (p : Pk) : p.bytes.length = p.data.length + 18 := by simp [Pk.bytes, bg_len]; omega
theorem layOk_len {p : Pk} (h : layE p = 0) : p.data.length ≤ 65536 := by
  unfold layE at h
  split at h
  · split at h <;> omega
  · omega
theorem head_bd {p : Pk} (h : layE p = 0) : p.head = true := by
  unfold layE at h
  split at h
  · assumption
  · omega
theorem bytes_byte {p : Pk} (h : layE p = 0) (hw : p.wf) : byteB p.bytes := by
  have h1 := head_bd h
  simp only [Pk.head, decide_eq_true_eq] at h1
  have h2 := fl_cases p.key 1
  have h3 := fl_cases p.hid 2
  refine (((byteB.cons (by omega) (.cons ?_ .nil_)).append (bg_bytes _ _)).append (bg_bytes _ _)).append hw.bytes
  unfold Pk.flags
  omega
theorem pagesAll_len (f : Int) (l : List (List Int)) : (pagesAll f l).length = (l.map nPages).sum := by
  have key : ∀ (l : List (List Int)) (acc : List Pg), (l.foldl (fun acc b => acc ++ pagesOf b (f + acc.length)) acc).length = acc.length + (l.map nPages).sum := by
    intro l
    induction l with
    | nil => intro acc; simp
    | cons b l ih => intro acc; rw [List.foldl_cons, ih, List.length_append, pagesOf_len, List.map_cons, List.sum_cons]; omega
  have := key l []
  simpa [pagesAll] using this
theorem pagesAll_over (f : Int) {l : List (List Int)} {k j : Nat} (hk : k < l.length) (hj : j < nPages l[k]) : (pagesAll f (l.take k)).length + j + 1 ≤ (pagesAll f l).length := by
  rw [pagesAll_len, pagesAll_len]
  have e : l.map nPages = (l.take k).map nPages ++ nPages l[k] :: (l.drop (k + 1)).map nPages := by
    rw [← List.map_cons, ← List.map_append, ← List.drop_eq_getElem_cons hk, List.take_append_drop]
  rw [e, List.sum_append, List.sum_cons]
  omega
def SplitPost (w : World) (r : List Pg) (E : Int) (e : Ending) (w' : World) : Prop :=
  ∃ v, e = .returned (.tuple #[v, .int .i64 E]) ∧ OwnG PgR 5 33 w' w.heap.size (fun b => w.heap.size ≤ b ∧ b < w'.heap.size) v r ∧ Below w.heap.size w w'

end Go.Proofs.Ytdnkdjaokmibjaa
