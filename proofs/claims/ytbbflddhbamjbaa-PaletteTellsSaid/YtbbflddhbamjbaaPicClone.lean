/- slices.Clone. -/
import Derived.Test.YtbbflddhbamjbaaPicIs
import Derived.Test.YtbbflddhbamjbaaPicLL
import Derived.Deep.RegionLaw
import Derived.Lib.SliceRun
set_option linter.unusedSimpArgs false
set_option linter.unusedVariables false
namespace Go.Proofs.Ytbbflddhbamjbaa
open Go.RowKit

theorem info_int : (Try.prog.info? 3).map (fun i => (i.zero, i.size, i.bytes)) = some (some (.int .i64 0), 1, 8) := by kernel_rfl
theorem info_ints : (Try.prog.info? 22).map (fun i => (i.zero, i.size, i.bytes)) = some (some (.slice none 0 0), 1, 24) := by kernel_rfl

theorem clone_any (A : Option Addr) (n c : Nat) (l : List Int) (hnl : n = l.length) (hn : l.length ≤ 1000000) (w : World) (B : Nat) (hB : B ≤ w.heap.size) (hr : RdI w B .i64 A l) :
    Calls Try.prog 46 #[.slice A n c] w fun e w' => ∃ A' c', e = .returned (.slice A' l.length c') ∧ OwnI w' w.heap.size 3 .i64 (.slice A' l.length c') l ∧ Below w.heap.size w w' := by
  subst hnl
  have hnil := fun W => Lib.run_eql_slice_nil (P := Try.prog) W 22 _ A l.length c 0 0 Try.underlying22
  rcases A with _ | ad
  · have h0 : l = [] := by
      rcases Nat.eq_zero_or_pos l.length with h0 | h0
      · exact List.eq_nil_of_length_eq_zero h0
      · obtain ⟨ad, h, _⟩ := hr.2 h0
        cases h
    subst h0
    simp only [List.length_nil, Option.isNone_none] at hnil
    go_enter Try.func46, Try.ntmps46
    go_wp2
    go_ret
    exact ⟨none, 0, rfl, OwnI.nil_ _ _ _ _, Below.refl _ _⟩
  · simp only [Option.isNone_some] at hnil
    go_enter Try.func46, Try.ntmps46
    go_wp2_with (first
      | (at_builtin; go_must (refine wpList_append_int _ rfl (.tmp 5) (.tmp 6) _ rfl w w.heap.size w.heap.size 3 .i64 8 Try.underlying22 info_int _ [] rfl (OwnI.empty w _ _ _ (Nat.le_refl _)) B (some ad) l.length c l rfl rfl (hr.alloc hB _) (by simp; omega) (by omega) (by repeat (first | exact Below.refl _ _ | assumption | refine Below.drew ?_ | refine below_drewN ?_ _ | refine below_alloc ?_ _)) (Nat.le_refl _) (by simp) ?_); intro v1 w1 hown1 hbel1; simp only [List.nil_append] at hown1; obtain ⟨A1, c1, rfl, hc1, hr1, hA1⟩ := hown1.form))
    go_ret
    exact ⟨_, _, rfl, hown1, hbel1⟩

/-- The bounds of pictures that are walked over. -/
def Small (ls : List (List Int)) : Prop := ls.length ≤ 1000000 ∧ ∀ l ∈ ls, l.length ≤ 1000000

def zeros (a b : Int) (n : Nat) : List (List Int) := List.replicate n (List.replicate (a * b).toNat 0)
end Go.Proofs.Ytbbflddhbamjbaa
