/- page.New, Joiner.Next, Broken, spoil. -/
import Derived.Test.YtkgenjgomnalpaaJnL
set_option linter.unusedSimpArgs false
set_option linter.unusedVariables false
namespace Go.Proofs.Ytkgenjgomnalpaa
open Go.RowKit

theorem jnew_any (n : Int) (h0 : -9223372036854775808 ≤ n) (h1 : n ≤ 9223372036854775807) (w : World) :
    Calls Try.prog 25 #[.int .i64 n] w fun e w' => e = .returned (.pointer (some ⟨w.heap.size, 0, none⟩)) ∧ JnR w' w.heap.size none ⟨max n 0, false, [], 0⟩ ∧ Below w.heap.size w w' := by
  by_cases hn : 0 ≤ n
  · have hm := Lib.hid (show max n 0 = n by omega)
    go_enter Try.func25, Try.ntmps25
    go_wp2
    all_goals
      go_ret
      rw [hm.out]
      exact ⟨rfl, ⟨.slice none 0 0, Blk.new _ _ _, OwnI.nil_ _ _ _ _, rfl, hn, h1, by simp, by simp, byteB.nil_⟩, (by repeat (first | exact Below.refl _ _ | assumption | refine Below.drew ?_ | refine below_drewN ?_ _ | refine below_alloc ?_ _))⟩
  · have hm := Lib.hid (show max n 0 = 0 by omega)
    go_enter Try.func25, Try.ntmps25
    go_wp2
    all_goals
      go_ret
      rw [hm.out]
      exact ⟨rfl, ⟨.slice none 0 0, Blk.new _ _ _, OwnI.nil_ _ _ _ _, rfl, by simp, by simp, by simp, by simp, byteB.nil_⟩, (by repeat (first | exact Below.refl _ _ | assumption | refine Below.drew ?_ | refine below_drewN ?_ _ | refine below_alloc ?_ _))⟩
theorem jnext_any {w : World} {g : Nat} {ob : Option Nat} {s : Jn} (h : JnR w g ob s) :
    Calls Try.prog 38 #[.pointer (some ⟨g, 0, none⟩)] w fun e w' => e = .returned (.int .i64 s.next) ∧ w = w' := by
  obtain ⟨A, c, c0, c1, c2, c3, _⟩ := h.cells
  go_enter Try.func38, Try.ntmps38
  go_wp2
  go_ret
  exact ⟨rfl, rfl⟩
theorem jbroken_any {w : World} {g : Nat} {ob : Option Nat} {s : Jn} (h : JnR w g ob s) :
    Calls Try.prog 39 #[.pointer (some ⟨g, 0, none⟩)] w fun e w' => e = .returned (.int .i64 s.broken) ∧ w = w' := by
  obtain ⟨A, c, c0, c1, c2, c3, _⟩ := h.cells
  go_enter Try.func39, Try.ntmps39
  go_wp2
  go_ret
  exact ⟨rfl, rfl⟩
theorem jspoil_any {w : World} {g : Nat} {ob : Option Nat} {s : Jn} (h : JnR w g ob s) (hk : s.broken ≤ 4611686018427387904) :
    Calls Try.prog 44 #[.pointer (some ⟨g, 0, none⟩)] w fun e w' => e = .returned (.tuple #[]) ∧ JnR w' g (if s.begun then none else ob) s.spoil ∧ Mod (· = g) w w' := by
  have H := Lib.hid h
  obtain ⟨A, c, c0, c1, c2, c3, ⟨f0, f1, f2, f3⟩, _, _, _, _, hwf⟩ := h.cells
  have hk0 := hwf.k0
  cases hb : s.begun with
  | true =>
    have HS := Lib.hid (show s.spoil = ⟨s.next, false, [], s.broken + 1⟩ by simp [Jn.spoil, hb])
    rw [hb] at c1
    have hx := ((H.out.beg false).clr).brk (n := s.broken + 1) (by omega)
    clear hb
    go_enter Try.func44, Try.ntmps44
    go_wp2
    go_end0
    rw [HS.out]
    exact ⟨rfl, hx, mod_put (mod_put (mod_put (Mod.refl _ _) (fun _ => rfl)) (fun _ => rfl)) (fun _ => rfl)⟩
  | false =>
    have HS := Lib.hid (show s.spoil = s by simp [Jn.spoil, hb])
    rw [hb] at c1
    clear hb
    go_enter Try.func44, Try.ntmps44
    go_wp2
    go_end0
    rw [HS.out]
    exact ⟨rfl, H.out, Mod.refl _ _⟩
end Go.Proofs.Ytkgenjgomnalpaa
