/- page.New, Joiner.Next, Broken, spoil. -/
import Derived.Test.YtdnkdjaokmibjaaPkOpenL
import Derived.Test.YtdnkdjaokmibjaaPgSplitL
import Derived.Test.YtdnkdjaokmibjaaPkVal
set_option linter.unusedSimpArgs false
set_option linter.unusedVariables false
namespace Go.Proofs.Ytdnkdjaokmibjaa
open Go.RowKit

structure Jn where
  next : Int
  begun : Bool
  body : List Int
  broken : Int
structure Jn.wf (s : Jn) : Prop where
  n0 : 0 ≤ s.next
  n1 : s.next ≤ 9223372036854775807
  k0 : 0 ≤ s.broken
  len : s.body.length ≤ 70000
  bytes : byteB s.body
def Jn.spoil (s : Jn) : Jn := if s.begun then ⟨s.next, false, [], s.broken + 1⟩ else s
def Jn.gap (s : Jn) (p : Pg) : Jn := if s.next < p.seq then s.spoil else s
def Jn.turn (s : Jn) (p : Pg) : Jn := ⟨p.seq + 1, (s.gap p).begun, (s.gap p).body, (s.gap p).broken⟩
def Jn.start (s : Jn) (p : Pg) : Jn := if p.first then ⟨((s.turn p).spoil).next, true, ((s.turn p).spoil).body, ((s.turn p).spoil).broken⟩ else s.turn p
def Jn.full (s : Jn) (p : Pg) : Jn := ⟨(s.start p).next, (s.start p).begun, (s.start p).body ++ p.body, (s.start p).broken⟩
def gaps (s : Jn) (p : Pg) : List Ho := if s.next < p.seq then [⟨s.next, p.seq - 1⟩] else []
def Jn.deaf (s : Jn) (p : Pg) : Bool := pgE p != 0 || (p.guard || decide (p.seq < s.next))
def Jn.put (s : Jn) (p : Pg) : Jn × List Pk × List Ho :=
  if s.deaf p then (s, [], [])
  else if (s.start p).begun = false then (s.start p, [], gaps s p)
  else if 65554 < ((s.start p).body ++ p.body).length then ((s.full p).spoil, [], gaps s p)
  else if p.last = false then (s.full p, [], gaps s p)
  else if openE ((s.start p).body ++ p.body) ≠ 0 then ((s.full p).spoil, [], gaps s p)
  else (⟨(s.full p).next, false, [], (s.full p).broken⟩, [openP ((s.start p).body ++ p.body)], gaps s p)

theorem spoil_k (s : Jn) : s.spoil.broken ≤ s.broken + 1 ∧ s.broken ≤ s.spoil.broken := by unfold Jn.spoil; split <;> (try dsimp only) <;> omega
theorem spoil_len (s : Jn) : s.spoil.body.length ≤ s.body.length := by unfold Jn.spoil; split <;> simp
theorem gap_k (s : Jn) (p : Pg) : (s.gap p).broken ≤ s.broken + 1 ∧ s.broken ≤ (s.gap p).broken := by
  have := spoil_k s
  unfold Jn.gap; split <;> omega
theorem gap_len (s : Jn) (p : Pg) : (s.gap p).body.length ≤ s.body.length := by
  have := spoil_len s
  unfold Jn.gap; split <;> omega
theorem start_k (s : Jn) (p : Pg) : (s.start p).broken ≤ s.broken + 2 ∧ s.broken ≤ (s.start p).broken := by
  have h1 := gap_k s p
  have h2 := spoil_k (s.turn p)
  have h3 : (s.turn p).broken = (s.gap p).broken := rfl
  unfold Jn.start; split
  · simp only; omega
  · omega
theorem start_len (s : Jn) (p : Pg) : (s.start p).body.length ≤ s.body.length := by
  have h1 := gap_len s p
  have h2 := spoil_len (s.turn p)
  have h3 : (s.turn p).body = (s.gap p).body := rfl
  rw [h3] at h2
  unfold Jn.start; split
  · simp only; omega
  · rw [h3]; exact h1
section
variable {s : Jn} {p : Pg} (hd : s.deaf p = false)
include hd
theorem put_quiet (h : (s.start p).begun = false) : s.put p = (s.start p, [], gaps s p) := by rw [Jn.put, if_neg (by simp [hd]), if_pos h]
theorem put_long (h : (s.start p).begun = true) (h2 : 65554 < ((s.start p).body ++ p.body).length) : s.put p = ((s.full p).spoil, [], gaps s p) := by rw [Jn.put, if_neg (by simp [hd]), if_neg (by simp [h]), if_pos h2]
theorem put_more (h : (s.start p).begun = true) (h2 : ¬ 65554 < ((s.start p).body ++ p.body).length) (h3 : p.last = false) : s.put p = (s.full p, [], gaps s p) := by
  rw [Jn.put, if_neg (by simp [hd]), if_neg (by simp [h]), if_neg h2, if_pos h3]
theorem put_bad (h : (s.start p).begun = true) (h2 : ¬ 65554 < ((s.start p).body ++ p.body).length) (h3 : p.last = true) (h4 : openE ((s.start p).body ++ p.body) ≠ 0) : s.put p = ((s.full p).spoil, [], gaps s p) := by
  rw [Jn.put, if_neg (by simp [hd]), if_neg (by simp [h]), if_neg h2, if_neg (by simp [h3]), if_pos h4]
theorem put_ok (h : (s.start p).begun = true) (h2 : ¬ 65554 < ((s.start p).body ++ p.body).length) (h3 : p.last = true) (h4 : openE ((s.start p).body ++ p.body) = 0) : s.put p = (⟨(s.full p).next, false, [], (s.full p).broken⟩, [openP ((s.start p).body ++ p.body)], gaps s p) := by
  rw [Jn.put, if_neg (by simp [hd]), if_neg (by simp [h]), if_neg h2, if_neg (by simp [h3]), if_neg (by simp [h4])]
end

end Go.Proofs.Ytdnkdjaokmibjaa

namespace Go.Proofs.Ytdnkdjaokmibjaa
open Go.RowKit

/-- The Joiner at block g; ob: the block of its body. -/
def JnR (w : World) (g : Nat) (ob : Option Nat) (s : Jn) : Prop :=
  ∃ v, Blk w g 95 #[.int .i64 s.next, .bool s.begun, v, .int .i64 s.broken] ∧ OwnI w (g + 1) 5 .u8 v s.body ∧ v.ownBlock = ob ∧ s.wf
section
variable {w w' : World} {g : Nat} {ob : Option Nat} {s : Jn} {M : Nat → Prop}
theorem OwnI.mod {base : Nat} {e : TypeId} {k : IntKind} {v : Value} {l : List Int} (h : OwnI w base e k v l) (hm : Mod M w w') (hv : ∀ b, v.ownBlock = some b → ¬ M b) : OwnI w' base e k v l := by
  obtain ⟨h1, h2⟩ := h
  refine ⟨h1, ?_⟩
  rcases h2 with h2 | ⟨gg, cap, cur, rfl, hg, hh, r⟩
  · exact .inl h2
  · exact .inr ⟨gg, cap, cur, rfl, hg, (hm.block gg (Array.getElem?_eq_some_iff.1 hh).1 (hv gg rfl)).trans hh, r⟩
theorem JnR.lt (h : JnR w g ob s) : g < w.heap.size := by
  obtain ⟨v, h, _⟩ := h
  exact h.lt
theorem JnR.own (h : JnR w g ob s) : ∀ b, ob = some b → g + 1 ≤ b ∧ b < w.heap.size := by
  obtain ⟨v, _, h, rfl, _⟩ := h
  exact fun b hb => World.ownsRow.lt h b hb
theorem JnR.keep (h : JnR w g ob s) (hm : Mod M w w') (hg : ¬ M g) (ho : ∀ b, ob = some b → ¬ M b) : JnR w' g ob s := by
  obtain ⟨v, h1, h2, rfl, h3⟩ := h
  exact ⟨v, h1.mod hm hg, h2.mod hm ho, rfl, h3⟩
theorem JnR.below (h : JnR w g ob s) (hb : Below w.heap.size w w') : JnR w' g ob s :=
  h.keep (M := fun _ => False) (Mod.of_below hb fun b h1 h2 => absurd h1 (by omega)) (fun h => h) (fun _ _ h => h)
theorem JnR.drewN (h : JnR w g ob s) (n : Nat) : JnR (w.drewN n) g ob s := h
theorem JnR.nxt (h : JnR w g ob s) {n : Int} (h0 : 0 ≤ n) (h1 : n ≤ 9223372036854775807) : JnR (w.setCell ⟨g, 0, none⟩ (.int .i64 n)) g ob ⟨n, s.begun, s.body, s.broken⟩ := by
  obtain ⟨v, k1, k2, rfl, k3⟩ := h
  exact ⟨v, k1.set_ 0 _, own_put k2 (by omega), rfl, h0, h1, k3.k0, k3.len, k3.bytes⟩
theorem JnR.beg (h : JnR w g ob s) (b : Bool) : JnR (w.setCell ⟨g, 1, none⟩ (.bool b)) g ob ⟨s.next, b, s.body, s.broken⟩ := by
  obtain ⟨v, k1, k2, rfl, k3⟩ := h
  exact ⟨v, k1.set_ 1 _, own_put k2 (by omega), rfl, k3.n0, k3.n1, k3.k0, k3.len, k3.bytes⟩
theorem JnR.clr (h : JnR w g ob s) : JnR (w.setCell ⟨g, 2, none⟩ (.slice none 0 0)) g none ⟨s.next, s.begun, [], s.broken⟩ := by
  obtain ⟨v, k1, k2, rfl, k3⟩ := h
  exact ⟨.slice none 0 0, k1.set_ 2 _, OwnI.nil_ _ _ _ _, rfl, k3.n0, k3.n1, k3.k0, Nat.zero_le _, byteB.nil_⟩
theorem JnR.brk (h : JnR w g ob s) {n : Int} (h0 : 0 ≤ n) : JnR (w.setCell ⟨g, 3, none⟩ (.int .i64 n)) g ob ⟨s.next, s.begun, s.body, n⟩ := by
  obtain ⟨v, k1, k2, rfl, k3⟩ := h
  exact ⟨v, k1.set_ 3 _, own_put k2 (by omega), rfl, k3.n0, k3.n1, h0, k3.len, k3.bytes⟩
theorem JnR.grow {l : List Int} {v' : Value} {ob' : Option Nat} (h : JnR w g ob s) (hg : w.grownBy w' ob) (ho : OwnI w' (g + 1) 5 .u8 v' (s.body ++ l)) (hv : v'.ownBlock = ob') (hl : s.body.length + l.length ≤ 70000) (hb : byteB l) :
    JnR (w'.setCell ⟨g, 2, none⟩ v') g ob' ⟨s.next, s.begun, s.body ++ l, s.broken⟩ := by
  have ho1 := h.own
  obtain ⟨v, k1, k2, rfl, k3⟩ := h
  refine ⟨v', ?_, own_put ho (by omega), hv, k3.n0, k3.n1, k3.k0, by simp only [List.length_append]; omega, k3.bytes.append hb⟩
  exact (k1.grown hg (fun e => by have := ho1 g e.symm; omega)).set_ 2 _
/-- what the walk wants of it -/
theorem JnR.cells (h : JnR w g ob s) : ∃ A c, w.cell? ⟨g, 0, none⟩ = some (.int .i64 s.next) ∧ w.cell? ⟨g, 1, none⟩ = some (.bool s.begun) ∧ w.cell? ⟨g, 2, none⟩ = some (.slice A s.body.length c) ∧ w.cell? ⟨g, 3, none⟩ = some (.int .i64 s.broken) ∧
    (w.frozen? ⟨g, 0, none⟩ = false ∧ w.frozen? ⟨g, 1, none⟩ = false ∧ w.frozen? ⟨g, 2, none⟩ = false ∧ w.frozen? ⟨g, 3, none⟩ = false) ∧ OwnI w (g + 1) 5 .u8 (.slice A s.body.length c) s.body ∧ (Value.slice A s.body.length c).ownBlock = ob ∧
    s.body.length ≤ c ∧ RdI w w.heap.size .u8 A s.body ∧ s.wf := by
  obtain ⟨v, k1, k2, rfl, k3⟩ := h
  have k2' := k2
  obtain ⟨A, c, rfl, hc, hr, _⟩ := k2.form
  exact ⟨A, c, k1.cell 0, k1.cell 1, k1.cell 2, k1.cell 3, ⟨k1.frozen 0, k1.frozen 1, k1.frozen 2, k1.frozen 3⟩, k2', rfl, hc, hr, k3⟩
end
end Go.Proofs.Ytdnkdjaokmibjaa

namespace Go.Proofs.Ytdnkdjaokmibjaa
open Go.RowKit

theorem jnew_any (n : Int) (h0 : -9223372036854775808 ≤ n) (h1 : n ≤ 9223372036854775807) (w : World) :
    Calls Try.prog 25 #[.int .i64 n] w fun e w' => e = .returned (.pointer (some ⟨w.heap.size, 0, none⟩)) ∧ JnR w' w.heap.size none ⟨max n 0, false, [], 0⟩ ∧ Below w.heap.size w w' := by
  by_cases hn : 0 ≤ n
  · have hm := Lib.hid (show max n 0 = n by omega)
    go_enter Try.func25, Try.ntmps25
    go_wp2
    all_goals
      go_ret
      rw [hm.out]
      exact ⟨rfl, ⟨.slice none 0 0, Blk.new _ _ _, OwnI.nil_ _ _ _ _, rfl, hn, h1, by simp, by simp, byteB.nil_⟩, (by repeat (first | exact Below.refl _ _ | assumption | refine Below.drew ?_ | refine below_drewN ?_ _ | refine below_alloc ?_ _))⟩
  · have hm := Lib.hid (show max n 0 = 0 by omega)
    go_enter Try.func25, Try.ntmps25
    go_wp2
    all_goals
      go_ret
      rw [hm.out]
      exact ⟨rfl, ⟨.slice none 0 0, Blk.new _ _ _, OwnI.nil_ _ _ _ _, rfl, by simp, by simp, by simp, by simp, byteB.nil_⟩, (by repeat (first | exact Below.refl _ _ | assumption | refine Below.drew ?_ | refine below_drewN ?_ _ | refine below_alloc ?_ _))⟩
theorem jbroken_any {w : World} {g : Nat} {ob : Option Nat} {s : Jn} (h : JnR w g ob s) :
    Calls Try.prog 28 #[.pointer (some ⟨g, 0, none⟩)] w fun e w' => e = .returned (.int .i64 s.broken) ∧ w = w' := by
  obtain ⟨A, c, c0, c1, c2, c3, _⟩ := h.cells
  go_enter Try.func28, Try.ntmps28
  go_wp2
  go_ret
  exact ⟨rfl, rfl⟩
theorem jspoil_any {w : World} {g : Nat} {ob : Option Nat} {s : Jn} (h : JnR w g ob s) (hk : s.broken ≤ 4611686018427387904) :
    Calls Try.prog 51 #[.pointer (some ⟨g, 0, none⟩)] w fun e w' => e = .returned (.tuple #[]) ∧ JnR w' g (if s.begun then none else ob) s.spoil ∧ Mod (· = g) w w' := by
  have H := Lib.hid h
  obtain ⟨A, c, c0, c1, c2, c3, ⟨f0, f1, f2, f3⟩, _, _, _, _, hwf⟩ := h.cells
  have hk0 := hwf.k0
  cases hb : s.begun with
  | true =>
    have HS := Lib.hid (show s.spoil = ⟨s.next, false, [], s.broken + 1⟩ by simp [Jn.spoil, hb])
    rw [hb] at c1
    have hx := ((H.out.beg false).clr).brk (n := s.broken + 1) (by omega)
    clear hb
    go_enter Try.func51, Try.ntmps51
    go_wp2
    go_end0
    rw [HS.out]
    exact ⟨rfl, hx, mod_put (mod_put (mod_put (Mod.refl _ _) (fun _ => rfl)) (fun _ => rfl)) (fun _ => rfl)⟩
  | false =>
    have HS := Lib.hid (show s.spoil = s by simp [Jn.spoil, hb])
    rw [hb] at c1
    clear hb
    go_enter Try.func51, Try.ntmps51
    go_wp2
    go_end0
    rw [HS.out]
    exact ⟨rfl, H.out, Mod.refl _ _⟩
end Go.Proofs.Ytdnkdjaokmibjaa
