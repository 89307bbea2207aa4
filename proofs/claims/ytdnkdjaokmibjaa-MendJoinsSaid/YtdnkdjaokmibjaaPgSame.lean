/- SamePage, SamePages of the reference. -/
import Derived.Test.YtdnkdjaokmibjaaPkVal
set_option linter.unusedSimpArgs false
set_option linter.unusedVariables false
namespace Go.Proofs.Ytdnkdjaokmibjaa
open Go.RowKit

set_option maxHeartbeats 2000000 in
set_option maxRecDepth 100000 in
theorem samepk_any (a b : Pk) (A A' : Option Addr) (c c' : Nat) (w : World) (ha : RdI w w.heap.size .u8 A a.data) (hb : RdI w w.heap.size .u8 A' b.data) (wa : byteB a.data) (wb : byteB b.data) :
    Calls Try.prog 53 #[a.val A c, b.val A' c'] w fun e w' => e = .returned (.bool (decide (a = b))) ∧ Below w.heap.size w w' := by
  obtain ⟨a1, a2, a3, a4, a5, ad⟩ := a
  obtain ⟨b1, b2, b3, b4, b5, bd⟩ := b
  simp only at ha hb wa wb
  unfold Pk.val
  simp only
  have HD := Lib.hid (show decide (Pk.mk a1 a2 a3 a4 a5 ad = Pk.mk b1 b2 b3 b4 b5 bd) = ((a1 == b1) && ((a2 == b2) && ((a3 == b3) && ((a4 == b4) && ((a5 == b5) && decide (ad = bd)))))) by
    rw [Bool.eq_iff_iff]; simp)
  have r1 := fun (o o' : Obj) => run_str (P := Try.prog) Try.underlying31 Try.underlying5 Try.underlying9 ((RdI.alloc ha (Nat.le_refl _) o).alloc (by simp) o') c
  have r2 := fun (o o' : Obj) => run_str (P := Try.prog) Try.underlying31 Try.underlying5 Try.underlying9 ((RdI.alloc hb (Nat.le_refl _) o).alloc (by simp) o') c'
  have rq := str_beq wa wb
  clear wa wb ha hb
  go_enter Try.func53, Try.ntmps53
  go_wp2
  all_goals
    go_ret
    exact ⟨by rw [HD.out]; simp [*], below_alloc (below_alloc (Below.refl _ _) _) _⟩
end Go.Proofs.Ytdnkdjaokmibjaa

namespace Go.Proofs.Ytdnkdjaokmibjaa
open Go.RowKit

set_option maxHeartbeats 2000000 in
set_option maxRecDepth 100000 in
theorem samepks_any {xs ys : List Pk} {A A' : Option Addr} (c c' : Nat) {S S' : Nat → Prop} {w : World} (hx : RdPk w S A xs) (hy : RdPk w S' A' ys) (lx : xs.length ≤ 1000000000) (ly : ys.length ≤ 1000000000) :
    Calls Try.prog 27 #[.slice A xs.length c, .slice A' ys.length c'] w fun e w' => e = .returned (.bool (decide (xs = ys))) ∧ Below w.heap.size w w' := by
  by_cases hl : xs.length = ys.length
  · have HL := Lib.hid hl
    have HB := fun W' (hb : Below w.heap.size w W') => hx.below PkR.good hb
    have HC := fun W' (hb : Below w.heap.size w W') => hy.below PkR.good hb
    have t1 : ((xs.length : Int) != (ys.length : Int)) = false := by rw [hl]; simp
    clear hl
    have HB1 := Lib.hid HB
    have HC1 := Lib.hid HC
    clear hx hy HB HC
    go_enter Try.func27, Try.ntmps27
    go_wp2
    go_loopw [5] (fun i wr => ∃ k : Nat, k ≤ xs.length ∧ i = .int .i64 k ∧ xs.take k = ys.take k ∧ Below w.heap.size w wr) (fun i _ => xs.length - (intOf i).toNat)
    case atStart => exact ⟨0, Nat.zero_le _, rfl, rfl, Below.refl _ _⟩
    case round =>
      obtain ⟨k, hk, rfl, hkt, hbel⟩ := hrel
      have HK := Lib.hid hkt
      clear hkt
      by_cases hlt : k < xs.length
      · have hlt' : k < ys.length := by have := HL.out; omega
        obtain ⟨ad, p, Aj, cj, rfl, _, hp, e0, e1, e2, e3, e4, e5, hc, hr, hw⟩ := RdPk.at_ (HB1.out _ hbel) hlt
        obtain ⟨ad', p', Aj', cj', rfl, _, hp', f0, f1, f2, f3, f4, f5, hc', hr', hw'⟩ := RdPk.at_ (HC1.out _ hbel) hlt'
        have HS := Lib.hid (samepk_any xs[k] ys[k] Aj Aj' cj cj' wr.drew hr.top hr'.top hw.bytes hw'.bytes)
        have HE := Lib.hid (show xs[k] = ys[k] → xs.take (k + 1) = ys.take (k + 1) from fun h => take_eq_step hlt hlt' HK.out h)
        have HF := Lib.hid (show xs[k] ≠ ys[k] → xs ≠ ys from fun h => ne_of_getElem hlt hlt' h)
        generalize xs[k] = x at *
        generalize ys[k] = y at *
        generalize hq : decide (x = y) = q at *
        have HQ := Lib.hid hq
        clear hr hr' hw hw' hq
        go_wp2
        refine wp_still_tail 8 (by kernel_rfl) (by kernel_rfl) ?_
        simp only [List.take_succ_cons, List.take_zero, List.drop_succ_cons, List.drop_zero]
        repeat still_step
        refine wpStill_nil ?_
        cases q
        · go_wp2_with (first
            | (go_at_call 53; go_must (refine HS.out.mono ?_); rintro e w1 ⟨rfl, hb1⟩))
          go_ret
          exact ⟨by rw [decide_eq_false (HF.out (of_decide_eq_false HQ.out))]; rfl, below_then hbel.drew hb1⟩
        · go_wp2_with (first
            | (go_at_call 53; go_must (refine HS.out.mono ?_); rintro e w1 ⟨rfl, hb1⟩))
          go_roundw
          case rel => exact ⟨k + 1, by omega, by go_num, HE.out (of_decide_eq_true HQ.out), below_then hbel.drew hb1⟩
          case measure => simp [intOf]; omega
      · have hkl : k = xs.length := by omega
        subst hkl
        go_wp2
        go_ret
        have h1 := HK.out
        rw [List.take_length, HL.out, List.take_length] at h1
        exact ⟨by rw [decide_eq_true h1]; rfl, hbel⟩
  · have t1 : ((xs.length : Int) != (ys.length : Int)) = true := by simp; omega
    have HL := Lib.hid (show xs ≠ ys from fun h => hl (by rw [h]))
    clear hl hx hy
    go_enter Try.func27, Try.ntmps27
    go_wp2
    go_ret
    exact ⟨by rw [decide_eq_false HL.out]; rfl, Below.refl _ _⟩
end Go.Proofs.Ytdnkdjaokmibjaa

namespace Go.Proofs.Ytdnkdjaokmibjaa
open Go.RowKit

set_option maxHeartbeats 2000000 in
set_option maxRecDepth 100000 in
theorem samepg_any (a b : Pg) (A A' : Option Addr) (c c' : Nat) (w : World) (ha : RdI w w.heap.size .u8 A a.body) (hb : RdI w w.heap.size .u8 A' b.body) (wa : byteB a.body) (wb : byteB b.body) :
    Calls Try.prog 39 #[a.val A c, b.val A' c'] w fun e w' => e = .returned (.bool (decide (a = b))) ∧ Below w.heap.size w w' := by
  obtain ⟨a1, a2, a3, a4, ad⟩ := a
  obtain ⟨b1, b2, b3, b4, bd⟩ := b
  simp only at ha hb wa wb
  unfold Pg.val
  simp only
  have HD := Lib.hid (show decide (Pg.mk a1 a2 a3 a4 ad = Pg.mk b1 b2 b3 b4 bd) = ((a1 == b1) && ((a2 == b2) && ((a3 == b3) && ((a4 == b4) && decide (ad = bd))))) by
    rw [Bool.eq_iff_iff]; simp)
  have r1 := fun (o o' : Obj) => run_str (P := Try.prog) Try.underlying31 Try.underlying5 Try.underlying9 ((RdI.alloc ha (Nat.le_refl _) o).alloc (by simp) o') c
  have r2 := fun (o o' : Obj) => run_str (P := Try.prog) Try.underlying31 Try.underlying5 Try.underlying9 ((RdI.alloc hb (Nat.le_refl _) o).alloc (by simp) o') c'
  have rq := str_beq wa wb
  clear wa wb ha hb
  go_enter Try.func39, Try.ntmps39
  go_wp2
  all_goals
    go_ret
    exact ⟨by rw [HD.out]; simp [*], below_alloc (below_alloc (Below.refl _ _) _) _⟩

set_option maxHeartbeats 2000000 in
set_option maxRecDepth 100000 in
theorem samepgs_any {xs ys : List Pg} {A A' : Option Addr} (c c' : Nat) {S S' : Nat → Prop} {w : World} (hx : RdPg w S A xs) (hy : RdPg w S' A' ys) (lx : xs.length ≤ 1000000000) (ly : ys.length ≤ 1000000000) :
    Calls Try.prog 13 #[.slice A xs.length c, .slice A' ys.length c'] w fun e w' => e = .returned (.bool (decide (xs = ys))) ∧ Below w.heap.size w w' := by
  by_cases hl : xs.length = ys.length
  · have HL := Lib.hid hl
    have HB := fun W' (hb : Below w.heap.size w W') => hx.below PgR.good hb
    have HC := fun W' (hb : Below w.heap.size w W') => hy.below PgR.good hb
    have t1 : ((xs.length : Int) != (ys.length : Int)) = false := by rw [hl]; simp
    clear hl
    have HB1 := Lib.hid HB
    have HC1 := Lib.hid HC
    clear hx hy HB HC
    go_enter Try.func13, Try.ntmps13
    go_wp2
    go_loopw [5] (fun i wr => ∃ k : Nat, k ≤ xs.length ∧ i = .int .i64 k ∧ xs.take k = ys.take k ∧ Below w.heap.size w wr) (fun i _ => xs.length - (intOf i).toNat)
    case atStart => exact ⟨0, Nat.zero_le _, rfl, rfl, Below.refl _ _⟩
    case round =>
      obtain ⟨k, hk, rfl, hkt, hbel⟩ := hrel
      have HK := Lib.hid hkt
      clear hkt
      by_cases hlt : k < xs.length
      · have hlt' : k < ys.length := by have := HL.out; omega
        obtain ⟨ad, p, Aj, cj, rfl, _, hp, e0, e1, e2, e3, e4, hc, hr, hw⟩ := RdPg.at_ (HB1.out _ hbel) hlt
        obtain ⟨ad', p', Aj', cj', rfl, _, hp', f0, f1, f2, f3, f4, hc', hr', hw'⟩ := RdPg.at_ (HC1.out _ hbel) hlt'
        have HS := Lib.hid (samepg_any xs[k] ys[k] Aj Aj' cj cj' wr.drew hr.top hr'.top hw.bytes hw'.bytes)
        have HE := Lib.hid (show xs[k] = ys[k] → xs.take (k + 1) = ys.take (k + 1) from fun h => take_eq_step hlt hlt' HK.out h)
        have HF := Lib.hid (show xs[k] ≠ ys[k] → xs ≠ ys from fun h => ne_of_getElem hlt hlt' h)
        generalize xs[k] = x at *
        generalize ys[k] = y at *
        generalize hq : decide (x = y) = q at *
        have HQ := Lib.hid hq
        clear hr hr' hw hw' hq
        go_wp2
        refine wp_still_tail 8 (by kernel_rfl) (by kernel_rfl) ?_
        simp only [List.take_succ_cons, List.take_zero, List.drop_succ_cons, List.drop_zero]
        repeat still_step
        refine wpStill_nil ?_
        cases q
        · go_wp2_with (first
            | (go_at_call 39; go_must (refine HS.out.mono ?_); rintro e w1 ⟨rfl, hb1⟩))
          go_ret
          exact ⟨by rw [decide_eq_false (HF.out (of_decide_eq_false HQ.out))]; rfl, below_then hbel.drew hb1⟩
        · go_wp2_with (first
            | (go_at_call 39; go_must (refine HS.out.mono ?_); rintro e w1 ⟨rfl, hb1⟩))
          go_roundw
          case rel => exact ⟨k + 1, by omega, by go_num, HE.out (of_decide_eq_true HQ.out), below_then hbel.drew hb1⟩
          case measure => simp [intOf]; omega
      · have hkl : k = xs.length := by omega
        subst hkl
        go_wp2
        go_ret
        have h1 := HK.out
        rw [List.take_length, HL.out, List.take_length] at h1
        exact ⟨by rw [decide_eq_true h1]; rfl, hbel⟩
  · have t1 : ((xs.length : Int) != (ys.length : Int)) = true := by simp; omega
    have HL := Lib.hid (show xs ≠ ys from fun h => hl (by rw [h]))
    clear hl hx hy
    go_enter Try.func13, Try.ntmps13
    go_wp2
    go_ret
    exact ⟨by rw [decide_eq_false HL.out]; rfl, Below.refl _ _⟩
end Go.Proofs.Ytdnkdjaokmibjaa
