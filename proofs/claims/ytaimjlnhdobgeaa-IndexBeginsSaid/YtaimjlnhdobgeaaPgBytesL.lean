/- What page.Bytes answers (plain). -/
import Derived.Test.YtaimjlnhdobgeaaPkLayL
import Derived.Test.YtaimjlnhdobgeaaSum32
set_option linter.unusedSimpArgs false
set_option linter.unusedVariables false
namespace Go.Proofs.Ytaimjlnhdobgeaa
open Go.RowKit

def mostB (g : Bool) : Int := if g then 255 else 252
def pgOk (p : Pg) : Bool := decide (0 ≤ p.seq ∧ p.seq ≤ 2147483647 ∧ 1 ≤ p.body.length ∧ (p.body.length : Int) ≤ mostB p.guard)
def pgE (p : Pg) : Int := if pgOk p = true then 0 else 1
def pgFlags (p : Pg) : Int := fl p.first 1 + fl p.last 2 + fl p.guard 4
def pgHead (p : Pg) : List Int := [75, 80, pgFlags p] ++ bg p.seq 4 ++ [(p.body.length : Int)] ++ p.body
def pgBytes (p : Pg) : List Int := pgHead p ++ bg (crc (pgHead p)) 4
def pgB (p : Pg) : List Int := if pgE p = 0 then pgBytes p else []

theorem sm_bd (k : Nat) : ∀ n : Int, ∀ x ∈ sm n k, 0 ≤ x ∧ x ≤ 255 := by
  induction k with
  | zero => intro n x hx; cases hx
  | succ k ih =>
    intro n x hx
    rcases List.mem_cons.1 hx with rfl | h
    · omega
    · exact ih _ x h
theorem mostB_le (g : Bool) : 252 ≤ mostB g ∧ mostB g ≤ 255 := by cases g <;> simp [mostB]
theorem bg_bytes (n : Int) (k : Nat) : byteB (bg n k) := fun x hx => by
  rw [bg, List.mem_reverse] at hx
  exact sm_bd k n x hx
theorem byteB.append {a b : List Int} (ha : byteB a) (hb : byteB b) : byteB (a ++ b) := fun x hx => by
  rw [List.mem_append] at hx
  rcases hx with h | h
  · exact ha x h
  · exact hb x h
theorem byteB.cons {x : Int} {a : List Int} (hx : 0 ≤ x ∧ x ≤ 255) (ha : byteB a) : byteB (x :: a) := fun y hy => by
  rcases List.mem_cons.1 hy with rfl | h
  · exact hx
  · exact ha y h
theorem byteB.nil_ : byteB [] := fun x hx => by cases hx
theorem pgFlags_bd (p : Pg) : 0 ≤ pgFlags p ∧ pgFlags p ≤ 7 := by
  obtain ⟨_, f, l, g, _⟩ := p
  cases f <;> cases l <;> cases g <;> simp [pgFlags, fl]
theorem pgOk_len {p : Pg} (h : pgOk p = true) : 1 ≤ p.body.length ∧ p.body.length ≤ 255 := by
  have := mostB_le p.guard
  simp only [pgOk, decide_eq_true_eq] at h
  omega
theorem pgHead_bytes {p : Pg} (h : pgOk p = true) (hb : byteB p.body) : byteB (pgHead p) := by
  have h1 := pgOk_len h
  refine ((((byteB.cons (by omega) (.cons (by omega) (.cons ?_ .nil_))).append (bg_bytes _ _)).append (.cons (by omega) .nil_))).append hb
  have := pgFlags_bd p
  omega
theorem pgHead_len (p : Pg) : (pgHead p).length = p.body.length + 8 := by simp [pgHead, bg_len]; omega
theorem or_flags3 (a b c : Bool) : bits .or .u8 (fl a 1 + fl b 2) (fl c 4) = fl a 1 + fl b 2 + fl c 4 := by cases a <;> cases b <;> cases c <;> decide
end Go.Proofs.Ytaimjlnhdobgeaa
