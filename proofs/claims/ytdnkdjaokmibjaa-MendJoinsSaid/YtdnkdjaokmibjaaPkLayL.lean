/- page.Lay: what it answers (plain); bytes.Clone; page.flag. -/
import Derived.Test.YtdnkdjaokmibjaaPkVal
import Derived.Test.YtdnkdjaokmibjaaBigW
import Derived.Test.YtdnkdjaokmibjaaOwnLit
set_option linter.unusedSimpArgs false
set_option linter.unusedVariables false
namespace Go.Proofs.Ytdnkdjaokmibjaa
open Go.RowKit

theorem clone_any (A : Option Addr) (c : Nat) (l : List Int) (hl : l.length ≤ 1000000000000) (w : World) (B : Nat) (hr : RdI w B .u8 A l) (hB : B ≤ w.heap.size) :
    Calls Try.prog 46 #[.slice A l.length c] w fun e w' => ∃ v, e = .returned v ∧ OwnI w' w.heap.size 5 .u8 v l ∧ Below w.heap.size w w' := by
  cases A with
  | none =>
    have h0 : l = [] := by
      rcases Nat.eq_zero_or_pos l.length with h | h
      · exact List.eq_nil_of_length_eq_zero h
      · obtain ⟨ad, e, _⟩ := hr.2 h; cases e
    subst h0
    have hn := Lib.run_eql_slice_nil (P := Try.prog) w 31 5 none 0 c 0 0 Try.underlying31
    simp only [Option.isNone_none] at hn
    go_enter Try.func46, Try.ntmps46
    go_wp2
    go_ret
    exact ⟨_, rfl, OwnI.nil_ _ _ _ _, Below.refl _ _⟩
  | some ad =>
    have hn := Lib.run_eql_slice_nil (P := Try.prog) w 31 5 (some ad) l.length c 0 0 Try.underlying31
    simp only [Option.isNone_some] at hn
    go_enter Try.func46, Try.ntmps46
    go_wp2_with (first
      | (at_builtin; go_must (refine wpList_append_int _ rfl (.tmp 5) (.tmp 6) _ rfl w w.heap.size w.heap.size 5 .u8 1 Try.underlying31 info_u8 _ [] rfl (OwnI.empty w _ _ _ (Nat.le_refl _)) B (some ad) l.length c l rfl rfl (hr.alloc hB _) (by simp; omega) (by omega) (by repeat (first | exact Below.refl _ _ | assumption | refine Below.drew ?_ | refine below_drewN ?_ _ | refine below_alloc ?_ _)) (Nat.le_refl _) (by simp) ?_); intro v1 w1 hown1 hb1))
    go_ret
    exact ⟨_, rfl, hown1, hb1⟩

theorem big8_any (n : Int) (h0 : 0 ≤ n) (h1 : n ≤ 1125899906842624) (w : World) :
    Calls Try.prog 49 #[.int .u64 n, .int .i64 8] w fun e w' => ∃ v, e = .returned v ∧ OwnI w' w.heap.size 5 .u8 v (bg n 8) ∧ Below w.heap.size w w' := big_any n h0 (by omega) 8 (by omega) (by omega) w
def fl (b : Bool) (n : Int) : Int := if b then n else 0
theorem flag_any (b : Bool) (n : Int) (w : World) : Calls Try.prog 48 #[.bool b, .int .u8 n] w fun e w' => e = .returned (.int .u8 (fl b n)) ∧ w = w' := by
  cases b
  all_goals
    go_enter Try.func48, Try.ntmps48
    go_wp2
    go_ret
    exact ⟨rfl, rfl⟩

/-- What Lay answers. -/
def Pk.head (p : Pk) : Bool := decide (0 ≤ p.st ∧ p.st < 4 ∧ 0 ≤ p.at_ ∧ p.at_ ≤ 1125899906842624 ∧ 0 ≤ p.ln ∧ p.ln ≤ 1125899906842624)
def Pk.flags (p : Pk) : Int := fl p.key 1 + fl p.hid 2
def Pk.bytes (p : Pk) : List Int := [p.st, p.flags] ++ bg p.at_ 8 ++ bg p.ln 8 ++ p.data
def layE (p : Pk) : Int := if p.head = true then (if 65536 < p.data.length then 4 else 0) else 1
def layB (p : Pk) : List Int := if layE p = 0 then p.bytes else []
theorem bg_len (n : Int) (k : Nat) : (bg n k).length = k := by simp [bg, sm_length]
theorem or_flags (a b : Bool) : bits .or .u8 (fl a 1) (fl b 2) = fl a 1 + fl b 2 := by cases a <;> cases b <;> decide
theorem fl_cases (b : Bool) (n : Int) : fl b n = n ∨ fl b n = 0 := by cases b <;> simp [fl]
end Go.Proofs.Ytdnkdjaokmibjaa
