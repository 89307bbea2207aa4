/- HeavyPic. -/
import Derived.Test.YtbbflddhbamjbaaPicFacts
set_option linter.unusedSimpArgs false
set_option linter.unusedVariables false
namespace Go.Proofs.Ytbbflddhbamjbaa
open Go.RowKit

set_option maxHeartbeats 4000000 in
theorem heavy_any {w : World} {B : Nat} {q : Pc} {A : Option Addr} {c : Nat} (hr : RdLL w B .i64 A q.p) (hB : B ≤ w.heap.size) (h63 : Len63 q.p) :
    Calls Try.prog 14 #[.agg #[.int .i64 q.w, .int .i64 q.h, .int .i64 q.d, .slice A q.p.length c]] w fun e w' => (e = .returned (.bool true) ∨ e = .returned (.bool false)) ∧ Below w.heap.size w w' := by
  obtain ⟨qw, qh, qd, qp⟩ := q
  simp only at *
  obtain ⟨s1, s2⟩ := h63
  have HS := Lib.hid s2
  clear s2
  go_enter Try.func14, Try.ntmps14
  go_wp2
  have k0 := (Blk.new w 30 #[.int .i64 qw, .int .i64 qh, .int .i64 qd, .slice A qp.length c])
  have bxa := below_alloc (Below.refl w.heap.size w) (.cells #[.int .i64 qw, .int .i64 qh, .int .i64 qd, .slice A qp.length c] 30)
  generalize w.alloc (.cells #[.int .i64 qw, .int .i64 qh, .int .i64 qd, .slice A qp.length c] 30) = wa at *
  have hra := hr.below bxa hB
  have y3 := k0.cell 3
  go_loop [3, 4] (fun u i => ∃ (j : Nat) (n : Int), j ≤ qp.length ∧ i = .int .i64 j ∧ u = .int .i64 n) (fun _ i => qp.length - (intOf i).toNat)
  case atStart => exact ⟨0, 0, Nat.zero_le _, rfl, rfl⟩
  case round =>
    obtain ⟨j, n, hj, rfl, rfl⟩ := hrel
    by_cases hlt : j < qp.length
    · obtain ⟨ad, Aj, cj, rfl, hadB, hcell, hcj, hrj⟩ := hra j hlt
      clear hrj
      generalize (qp.getD j []).length = m at *
      go_wp2
      · go_ret
        exact ⟨.inl rfl, bxa⟩
      · exact ⟨⟨j + 1, _, by omega, by go_num, rfl⟩, by simp [intOf]; omega⟩
    · have hjl : j = qp.length := by omega
      subst hjl
      go_wp2
      go_ret
      exact ⟨.inr rfl, bxa⟩

/-- No plane is greater than any machine's memory. -/
def LenR (ls : List (List Int)) : Prop := ls.length ≤ 1099511627776000 ∧ ∀ l ∈ ls, l.length ≤ 1099511627776000
set_option maxHeartbeats 4000000 in
theorem heavy2_any {w : World} {B : Nat} {q : Pc} {A : Option Addr} {c : Nat} (hr : RdLL w B .i64 A q.p) (hB : B ≤ w.heap.size) (hR : LenR q.p) :
    Calls Try.prog 14 #[.agg #[.int .i64 q.w, .int .i64 q.h, .int .i64 q.d, .slice A q.p.length c]] w fun e w' => (e = .returned (.bool true) ∨ (e = .returned (.bool false) ∧ Small q.p)) ∧ Below w.heap.size w w' := by
  obtain ⟨qw, qh, qd, qp⟩ := q
  simp only at *
  obtain ⟨s1, s2⟩ := hR
  have HS := Lib.hid s2
  clear s2
  go_enter Try.func14, Try.ntmps14
  go_wp2
  have k0 := (Blk.new w 30 #[.int .i64 qw, .int .i64 qh, .int .i64 qd, .slice A qp.length c])
  have bxa := below_alloc (Below.refl w.heap.size w) (.cells #[.int .i64 qw, .int .i64 qh, .int .i64 qd, .slice A qp.length c] 30)
  generalize w.alloc (.cells #[.int .i64 qw, .int .i64 qh, .int .i64 qd, .slice A qp.length c] 30) = wa at *
  have hra := hr.below bxa hB
  have y3 := k0.cell 3
  go_loop [3, 4] (fun u i => ∃ (j n : Nat), j ≤ qp.length ∧ i = .int .i64 j ∧ u = .int .i64 n ∧ j ≤ n ∧ n ≤ 4200 ∧ ∀ l ∈ qp.take j, l.length ≤ 4200) (fun _ i => qp.length - (intOf i).toNat)
  case atStart => exact ⟨0, 0, Nat.zero_le _, rfl, rfl, Nat.le_refl _, by omega, by simp⟩
  case round =>
    obtain ⟨j, n, hj, rfl, rfl, hjn, hn, hall⟩ := hrel
    have HA := Lib.hid hall
    clear hall
    by_cases hlt : j < qp.length
    · obtain ⟨ad, Aj, cj, rfl, hadB, hcell, hcj, hrj⟩ := hra j hlt
      clear hrj
      have hlm := HS.out (qp.getD j []) (by simp [List.getD, List.getElem?_eq_getElem hlt])
      have HT := Lib.hid (show qp.take (j + 1) = qp.take j ++ [qp.getD j []] by rw [List.take_succ_eq_append_getElem hlt]; simp [List.getD, List.getElem?_eq_getElem hlt])
      generalize hl : qp.getD j [] = l at *
      by_cases hbig : 4200 < n + 1 + l.length
      · clear hl
        generalize l.length = m at *
        have hb : (4200 : Int) < (n : Int) + 1 + (m : Int) := by omega
        go_wp2
        go_ret
        exact ⟨.inl rfl, bxa⟩
      · clear hl
        have hll : l.length ≤ 4200 := by omega
        have HT2 := Lib.hid (show ∀ x ∈ qp.take (j + 1), x.length ≤ 4200 by
          intro x hx
          rw [HT.out] at hx
          rcases List.mem_append.1 hx with h | h
          · exact HA.out x h
          · simp at h
            rw [h]
            exact hll)
        clear HT
        generalize l.length = m at *
        have hb : ¬ (4200 : Int) < (n : Int) + 1 + (m : Int) := by omega
        go_wp2
        go_round
        case rel => exact ⟨j + 1, n + 1 + m, by omega, by go_num, by go_num, by omega, by omega, HT2.out⟩
        case measure => simp [intOf]; omega
    · have hjl : j = qp.length := by omega
      subst hjl
      have HA2 := HA.out
      rw [List.take_length] at HA2
      have HSm : Hid (Small qp) := ⟨by omega, fun l hl => by have := HA2 l hl; omega⟩
      clear HA2
      go_wp2
      go_ret
      exact ⟨.inr ⟨rfl, HSm.out⟩, bxa⟩
end Go.Proofs.Ytbbflddhbamjbaa
