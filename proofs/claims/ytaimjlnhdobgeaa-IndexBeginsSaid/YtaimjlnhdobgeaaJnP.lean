/- A Joiner: what it does (plain). -/
import Derived.Test.YtaimjlnhdobgeaaPkOpenL
import Derived.Test.YtaimjlnhdobgeaaPgBytesL
import Derived.Test.YtaimjlnhdobgeaaPkInfo
set_option linter.unusedSimpArgs false
set_option linter.unusedVariables false
namespace Go.Proofs.Ytaimjlnhdobgeaa
open Go.RowKit

structure Jn where
  next : Int
  begun : Bool
  body : List Int
  broken : Int
structure Jn.wf (s : Jn) : Prop where
  n0 : 0 ≤ s.next
  n1 : s.next ≤ 9223372036854775807
  k0 : 0 ≤ s.broken
  len : s.body.length ≤ 70000
  bytes : byteB s.body
def Jn.spoil (s : Jn) : Jn := if s.begun then ⟨s.next, false, [], s.broken + 1⟩ else s
def Jn.gap (s : Jn) (p : Pg) : Jn := if s.next < p.seq then s.spoil else s
def Jn.turn (s : Jn) (p : Pg) : Jn := ⟨p.seq + 1, (s.gap p).begun, (s.gap p).body, (s.gap p).broken⟩
def Jn.start (s : Jn) (p : Pg) : Jn := if p.first then ⟨((s.turn p).spoil).next, true, ((s.turn p).spoil).body, ((s.turn p).spoil).broken⟩ else s.turn p
def Jn.full (s : Jn) (p : Pg) : Jn := ⟨(s.start p).next, (s.start p).begun, (s.start p).body ++ p.body, (s.start p).broken⟩
def gaps (s : Jn) (p : Pg) : List Ho := if s.next < p.seq then [⟨s.next, p.seq - 1⟩] else []
def Jn.deaf (s : Jn) (p : Pg) : Bool := pgE p != 0 || (p.guard || decide (p.seq < s.next))
def Jn.put (s : Jn) (p : Pg) : Jn × List Pk × List Ho :=
  if s.deaf p then (s, [], [])
  else if (s.start p).begun = false then (s.start p, [], gaps s p)
  else if 65554 < ((s.start p).body ++ p.body).length then ((s.full p).spoil, [], gaps s p)
  else if p.last = false then (s.full p, [], gaps s p)
  else if openE ((s.start p).body ++ p.body) ≠ 0 then ((s.full p).spoil, [], gaps s p)
  else (⟨(s.full p).next, false, [], (s.full p).broken⟩, [openP ((s.start p).body ++ p.body)], gaps s p)

theorem spoil_k (s : Jn) : s.spoil.broken ≤ s.broken + 1 ∧ s.broken ≤ s.spoil.broken := by unfold Jn.spoil; split <;> (try dsimp only) <;> omega
theorem spoil_len (s : Jn) : s.spoil.body.length ≤ s.body.length := by unfold Jn.spoil; split <;> simp
theorem gap_k (s : Jn) (p : Pg) : (s.gap p).broken ≤ s.broken + 1 ∧ s.broken ≤ (s.gap p).broken := by
  have := spoil_k s
  unfold Jn.gap; split <;> omega
theorem gap_len (s : Jn) (p : Pg) : (s.gap p).body.length ≤ s.body.length := by
  have := spoil_len s
  unfold Jn.gap; split <;> omega
theorem start_k (s : Jn) (p : Pg) : (s.start p).broken ≤ s.broken + 2 ∧ s.broken ≤ (s.start p).broken := by
  have h1 := gap_k s p
  have h2 := spoil_k (s.turn p)
  have h3 : (s.turn p).broken = (s.gap p).broken := rfl
  unfold Jn.start; split
  · simp only; omega
  · omega
theorem start_len (s : Jn) (p : Pg) : (s.start p).body.length ≤ s.body.length := by
  have h1 := gap_len s p
  have h2 := spoil_len (s.turn p)
  have h3 : (s.turn p).body = (s.gap p).body := rfl
  rw [h3] at h2
  unfold Jn.start; split
  · simp only; omega
  · rw [h3]; exact h1
section
variable {s : Jn} {p : Pg} (hd : s.deaf p = false)
include hd
theorem put_quiet (h : (s.start p).begun = false) : s.put p = (s.start p, [], gaps s p) := by rw [Jn.put, if_neg (by simp [hd]), if_pos h]
theorem put_long (h : (s.start p).begun = true) (h2 : 65554 < ((s.start p).body ++ p.body).length) : s.put p = ((s.full p).spoil, [], gaps s p) := by rw [Jn.put, if_neg (by simp [hd]), if_neg (by simp [h]), if_pos h2]
theorem put_more (h : (s.start p).begun = true) (h2 : ¬ 65554 < ((s.start p).body ++ p.body).length) (h3 : p.last = false) : s.put p = (s.full p, [], gaps s p) := by
  rw [Jn.put, if_neg (by simp [hd]), if_neg (by simp [h]), if_neg h2, if_pos h3]
theorem put_bad (h : (s.start p).begun = true) (h2 : ¬ 65554 < ((s.start p).body ++ p.body).length) (h3 : p.last = true) (h4 : openE ((s.start p).body ++ p.body) ≠ 0) : s.put p = ((s.full p).spoil, [], gaps s p) := by
  rw [Jn.put, if_neg (by simp [hd]), if_neg (by simp [h]), if_neg h2, if_neg (by simp [h3]), if_pos h4]
theorem put_ok (h : (s.start p).begun = true) (h2 : ¬ 65554 < ((s.start p).body ++ p.body).length) (h3 : p.last = true) (h4 : openE ((s.start p).body ++ p.body) = 0) : s.put p = (⟨(s.full p).next, false, [], (s.full p).broken⟩, [openP ((s.start p).body ++ p.body)], gaps s p) := by
  rw [Jn.put, if_neg (by simp [hd]), if_neg (by simp [h]), if_neg h2, if_neg (by simp [h3]), if_neg (by simp [h4])]
end

end Go.Proofs.Ytaimjlnhdobgeaa
