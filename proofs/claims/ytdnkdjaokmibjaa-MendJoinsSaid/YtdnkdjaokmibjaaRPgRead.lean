/- The reference's PageRead at a place that is there. -/
import Derived.Test.YtdnkdjaokmibjaaPgLaws
import Derived.Test.YtdnkdjaokmibjaaPgBytes
import Derived.Test.YtdnkdjaokmibjaaRPgRead2
set_option linter.unusedSimpArgs false
set_option linter.unusedVariables false
namespace Go.Proofs.Ytdnkdjaokmibjaa
open Go.RowKit

set_option maxHeartbeats 8000000 in
set_option maxRecDepth 100000 in
theorem rread_1 {b : List Int} {A : Option Addr} {c : Nat} {w : World} {B at_ : Nat} (hr : RdI w B .u8 A b) (hB : B ≤ w.heap.size) (hb : byteB b) (hc : b.length ≤ c) (hl : b.length ≤ 1000000000) (hat : at_ ≤ b.length) (hbad : (b.drop at_).length < 8 ∨ ¬ ((b.drop at_).getD 0 0 = 75 ∧ (b.drop at_).getD 1 0 = 80)) :
    Calls Try.prog 60 #[.slice A b.length c, .int .i64 (at_ : Int)] w fun e w' => ∃ A' c', e = .returned (.tuple #[(rdP (b.drop at_)).val A' c', .int .i64 (rdL (b.drop at_)), .int .i64 (rdE (b.drop at_))]) ∧ OwnI w' w.heap.size 5 .u8 (.slice A' (rdP (b.drop at_)).body.length c') (rdP (b.drop at_)).body ∧ Below w.heap.size w w' := by
  have HE := Lib.hid (rdE_eq (b.drop at_))
  have HP := Lib.hid (rdP_eq (b.drop at_))
  have HL := Lib.hid (rdL_eq (b.drop at_))
  have hbx : byteB (b.drop at_) := fun y hy => hb y (List.mem_of_mem_drop hy)
  have hxl : (b.drop at_).length = b.length - at_ := List.length_drop
  obtain ⟨Ax, hrun0, hrx, _⟩ := hr.slice_l Try.underlying31 info_u8 (lo := at_) hat hc
  rw [← hxl] at hrun0
  have hcx : (b.drop at_).length ≤ c - at_ := by omega
  have hat2 : (at_ : Int) ≤ (b.length : Int) := by omega
  have hat3 : decide ((b.length : Int) < (at_ : Int)) = false := decide_eq_false (by omega)
  have hat4 : decide ((at_ : Int) < 0) = false := decide_eq_false (by omega)
  have hxl2 : (b.drop at_).length ≤ 1000000000 := by omega
  generalize rdE (b.drop at_) = E at *
  generalize rdP (b.drop at_) = P at *
  generalize rdL (b.drop at_) = L at *
  generalize b.drop at_ = x at *
  generalize c - at_ = cx at *
  clear hr hb hxl
  by_cases h2 : x.length < 2
  · have HE2 : E = 3 := by rw [HE.out]; simp [h2]
    subst HE2
    have HP2 : P = Pg.zero := by rw [HP.out, if_neg (by omega)]
    subst HP2
    have HL2 : L = 0 := by rw [HL.out, if_neg (by omega)]
    subst HL2
    clear HE HP HL
    have t1 : decide ((x.length : Int) < 2) = true := by simp; omega
    clear hbad hbx
    go_enter Try.func60, Try.ntmps60
    go_wp2
    exact bodyPost_ret (v := .tuple #[Pg.zero.val none 0, .int .i64 0, .int .i64 3]) (by simp [results, Try.results60, go_sem, Pg.zero]) rfl ⟨none, 0, rfl, OwnI.nil_ _ _ _ _, (by repeat (first | exact Below.refl _ _ | assumption | refine Below.drew ?_ | refine below_drewN ?_ _ | refine below_alloc ?_ _))⟩
  · have t1 : decide ((x.length : Int) < 2) = false := by simp; omega
    obtain ⟨ad, rfl, hadB, x0⟩ := hrx.at_ (j := 0) (by omega)
    obtain ⟨ad', had, _, x1⟩ := hrx.at_ (j := 1) (by omega)
    obtain rfl : ad = ad' := by injection had
    have x0 : w.cell? ad = some (.int .u8 (x.getD 0 0)) := x0
    have hp0 : (0 : Int) < (x.length : Int) := by omega
    have hp1 : (1 : Int) < (x.length : Int) := by omega
    have hx1' : w.cell? ⟨ad.block, ad.off + 1, none⟩ = some (.int .u8 (x.getD 1 0)) := x1
    have hadw : ad.block < w.heap.size := by omega
    have hne0 : ad.block ≠ w.heap.size := by omega
    clear x1 had
    by_cases h75 : x.getD 0 0 = 75 ∧ x.getD 1 0 = 80
    · have h8 : x.length < 8 := hbad.resolve_right (fun h => h h75)
      have HE2 : E = 3 := by rw [HE.out]; rw [if_neg h2, if_neg (fun h => h h75), if_pos h8]
      subst HE2
      have HP2 : P = Pg.zero := by rw [HP.out, if_neg (by omega)]
      subst HP2
      have HL2 : L = 0 := by rw [HL.out, if_neg (by omega)]
      subst HL2
      clear HE HP HL
      rw [h75.1] at x0
      rw [h75.2] at hx1'
      have t2 : decide ((x.length : Int) < 8) = true := by simp; omega
      clear hbad hbx h75
      go_enter Try.func60, Try.ntmps60
      go_wp2
      exact bodyPost_ret (v := .tuple #[Pg.zero.val none 0, .int .i64 0, .int .i64 3]) (by simp [results, Try.results60, go_sem, Pg.zero]) rfl ⟨none, 0, rfl, OwnI.nil_ _ _ _ _, (by repeat (first | exact Below.refl _ _ | assumption | refine Below.drew ?_ | refine below_drewN ?_ _ | refine below_alloc ?_ _))⟩
    · have HE2 : E = 2 := by rw [HE.out]; rw [if_neg h2, if_pos h75]
      subst HE2
      have HP2 : P = Pg.zero := by rw [HP.out, if_neg (by omega)]
      subst HP2
      have HL2 : L = 0 := by rw [HL.out, if_neg (by omega)]
      subst HL2
      clear HE HP HL
      by_cases h0 : x.getD 0 0 = 75
      · have t2 : (x.getD 1 0 != 80) = true := by rw [bne_iff_ne]; exact fun h => h75 ⟨h0, h⟩
        rw [h0] at x0
        clear hbad hbx h75 h0
        generalize x.getD 1 0 = y1 at *
        go_enter Try.func60, Try.ntmps60
        go_wp2
        exact bodyPost_ret (v := .tuple #[Pg.zero.val none 0, .int .i64 0, .int .i64 2]) (by simp [results, Try.results60, go_sem, Pg.zero]) rfl ⟨none, 0, rfl, OwnI.nil_ _ _ _ _, (by repeat (first | exact Below.refl _ _ | assumption | refine Below.drew ?_ | refine below_drewN ?_ _ | refine below_alloc ?_ _))⟩
      · have t2 : (x.getD 0 0 != 75) = true := by rw [bne_iff_ne]; exact h0
        clear hbad hbx h75 h0
        generalize x.getD 0 0 = y0 at *
        generalize x.getD 1 0 = y1 at *
        go_enter Try.func60, Try.ntmps60
        go_wp2
        exact bodyPost_ret (v := .tuple #[Pg.zero.val none 0, .int .i64 0, .int .i64 2]) (by simp [results, Try.results60, go_sem, Pg.zero]) rfl ⟨none, 0, rfl, OwnI.nil_ _ _ _ _, (by repeat (first | exact Below.refl _ _ | assumption | refine Below.drew ?_ | refine below_drewN ?_ _ | refine below_alloc ?_ _))⟩
end Go.Proofs.Ytdnkdjaokmibjaa

namespace Go.Proofs.Ytdnkdjaokmibjaa
open Go.RowKit

theorem rread_any {b : List Int} {A : Option Addr} {c : Nat} {w : World} {B at_ : Nat} (hr : RdI w B .u8 A b) (hB : B ≤ w.heap.size) (hb : byteB b) (hc : b.length ≤ c) (hl : b.length ≤ 1000000000) (hat : at_ ≤ b.length) :
    Calls Try.prog 60 #[.slice A b.length c, .int .i64 (at_ : Int)] w fun e w' => ∃ A' c', e = .returned (.tuple #[(rdP (b.drop at_)).val A' c', .int .i64 (rdL (b.drop at_)), .int .i64 (rdE (b.drop at_))]) ∧
      OwnI w' w.heap.size 5 .u8 (.slice A' (rdP (b.drop at_)).body.length c') (rdP (b.drop at_)).body ∧ Below w.heap.size w w' := by
  by_cases h8 : (b.drop at_).length < 8
  · exact rread_1 hr hB hb hc hl hat (.inl h8)
  · by_cases h75 : (b.drop at_).getD 0 0 = 75 ∧ (b.drop at_).getD 1 0 = 80
    · exact rread_2 hr hB hb hc hl hat h8 h75
    · exact rread_1 hr hB hb hc hl hat (.inr h75)
end Go.Proofs.Ytdnkdjaokmibjaa
