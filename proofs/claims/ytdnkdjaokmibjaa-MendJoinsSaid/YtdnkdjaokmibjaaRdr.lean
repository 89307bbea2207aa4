/- A reader of octet in memory (no function of the program is named here but its struct). -/
import Derived.Test.YtdnkdjaokmibjaaOctInfo
import Derived.Test.YtdnkdjaokmibjaaLib
import Derived.Test.YtdnkdjaokmibjaaOctPlain
import Derived.BigQuiet
import Derived.Deep.QuietTactic
import Derived.StillTailTactics
import Derived.WalkSpells
set_option linter.unusedSimpArgs false
set_option linter.unusedVariables false
namespace Go.Proofs.Ytdnkdjaokmibjaa
open Go.RowKit

/-- The reader at block g, of struct type T: its data lie in blocks from lo on, below hi. -/
def Rdr (w : World) (T lo hi g : Nat) (s : Rs) : Prop :=
  ∃ A c, Blk w g T #[.slice A s.data.length c, .int .i64 s.at_, .int .i64 s.err] ∧ s.data.length ≤ c ∧ RdI w hi .u8 A s.data ∧ (∀ ad, ic .u8 s.data ≠ [] → A = some ad → lo ≤ ad.block) ∧
    (g < lo ∨ hi ≤ g) ∧ hi ≤ w.heap.size ∧ s.at_ ≤ s.data.length ∧ s.data.length ≤ 1000000000 ∧ (∀ x ∈ s.data, 0 ≤ x ∧ x ≤ 255) ∧ 0 ≤ s.err ∧ s.err ≤ 100

theorem Rdr.lt {w : World} {T lo hi g : Nat} {s : Rs} (h : Rdr w T lo hi g s) : g < w.heap.size := by
  obtain ⟨A, c, hb, _⟩ := h
  exact hb.lt
theorem Rdr.keep {w w' : World} {T lo hi g : Nat} {s : Rs} {x : Nat} (h : Rdr w T lo hi g s) (hg : w.grownBy w' (some x)) (hx : x ≠ g) (hl : x < lo ∨ hi ≤ x) : Rdr w' T lo hi g s := by
  obtain ⟨A, c, hb, hc, hr, hlo, hgg, hhi, r⟩ := h
  exact ⟨A, c, hb.grown hg (by simpa using fun e => hx e.symm), hc, Rd.only hr hg hhi hlo hl, hlo, hgg, Nat.le_trans hhi hg.size, r⟩
theorem Rdr.drewN {w : World} {T lo hi g : Nat} {s : Rs} (h : Rdr w T lo hi g s) (n : Nat) : Rdr (w.drewN n) T lo hi g s := h
theorem Rdr.below {w w' : World} {T lo hi g : Nat} {s : Rs} (h : Rdr w T lo hi g s) (hb : Below w.heap.size w w') : Rdr w' T lo hi g s := by
  obtain ⟨A, c, hk, hc, hr, hlo, hgg, hhi, r⟩ := h
  exact ⟨A, c, hk.below hb hk.lt, hc, hr.below hb hhi, hlo, hgg, Nat.le_trans hhi hb.size, r⟩
theorem Rdr.setAt {w : World} {T lo hi g : Nat} {s : Rs} (h : Rdr w T lo hi g s) (p : Nat) (hp : p ≤ s.data.length) : Rdr (w.setCell ⟨g, 1, none⟩ (.int .i64 p)) T lo hi g { s with at_ := p } := by
  obtain ⟨A, c, hb, hc, hr, hlo, hgg, hhi, _, hl, hby, he⟩ := h
  have hg := only_setCell (only_refl w (some g)) (p := ⟨g, 1, none⟩) (.inl rfl) (.int .i64 p)
  exact ⟨A, c, hb.set_ 1 _, hc, Rd.only hr hg hhi hlo hgg, hlo, hgg, by simpa [World.setCell] using hhi, hp, hl, hby, he⟩
theorem Rdr.setErr {w : World} {T lo hi g : Nat} {s : Rs} (h : Rdr w T lo hi g s) (e : Int) (he0 : 0 ≤ e) (he1 : e ≤ 100) : Rdr (w.setCell ⟨g, 2, none⟩ (.int .i64 e)) T lo hi g { s with err := e } := by
  obtain ⟨A, c, hb, hc, hr, hlo, hgg, hhi, ha, hl, hby, he⟩ := h
  have hg := only_setCell (only_refl w (some g)) (p := ⟨g, 2, none⟩) (.inl rfl) (.int .i64 e)
  exact ⟨A, c, hb.set_ 2 _, hc, Rd.only hr hg hhi hlo hgg, hlo, hgg, by simpa [World.setCell] using hhi, ha, hl, hby, he0, he1⟩

/-- what the walk wants of it -/
theorem Rdr.cells {w : World} {T lo hi g : Nat} {s : Rs} (h : Rdr w T lo hi g s) : ∃ A c, w.cell? ⟨g, 0, none⟩ = some (.slice A s.data.length c) ∧ w.cell? ⟨g, 1, none⟩ = some (.int .i64 s.at_) ∧
    w.cell? ⟨g, 2, none⟩ = some (.int .i64 s.err) ∧ (w.frozen? ⟨g, 1, none⟩ = false ∧ w.frozen? ⟨g, 2, none⟩ = false) ∧ s.data.length ≤ c ∧ RdI w hi .u8 A s.data ∧ s.at_ ≤ s.data.length ∧ s.data.length ≤ 1000000000 ∧
    (∀ x ∈ s.data, 0 ≤ x ∧ x ≤ 255) ∧ 0 ≤ s.err ∧ s.err ≤ 100 := by
  obtain ⟨A, c, hb, hc, hr, hlo, hgg, hhi, ha, hl, hby, he⟩ := h
  exact ⟨A, c, hb.cell 0, hb.cell 1, hb.cell 2, ⟨hb.frozen 1, hb.frozen 2⟩, hc, hr, ha, hl, hby, he⟩

theorem Rdr.made {w : World} {T : TypeId} {A : Option Addr} {c : Nat} {l : List Int} {lo : Nat} (hr : RdI w w.heap.size .u8 A l) (hc : l.length ≤ c) (hlo : ∀ ad, A = some ad → lo ≤ ad.block)
    (hl : l.length ≤ 1000000000) (hb : ∀ x ∈ l, 0 ≤ x ∧ x ≤ 255) : Rdr (w.alloc (.cells #[.slice A l.length c, .int .i64 0, .int .i64 0] T)) T lo w.heap.size w.heap.size ⟨l, 0, 0⟩ :=
  ⟨A, c, Blk.new _ _ _, hc, hr.alloc (Nat.le_refl _) _, fun ad _ h => hlo ad h, .inr (Nat.le_refl _), by simp, Nat.zero_le _, hl, hb, by simp, by simp⟩

end Go.Proofs.Ytdnkdjaokmibjaa
