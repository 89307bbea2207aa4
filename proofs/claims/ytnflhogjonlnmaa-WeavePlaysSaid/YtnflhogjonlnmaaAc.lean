/- The law's acts: what they are in memory, and heavy. -/
import Derived.Test.YtnflhogjonlnmaaPk
import Derived.Test.YtnflhogjonlnmaaPkInfo
import Derived.Deep.DeepCutAuto
set_option linter.unusedSimpArgs false
set_option linter.unusedVariables false
namespace Go.Proofs.Ytnflhogjonlnmaa
open Go.RowKit

structure Ac where
  kind : Int
  p : Pk
  n : Int
def AcR : Rel Ac := fun w S cs a => ∃ A c, cs = [.int .i64 a.kind, .int .i64 a.p.st, .int .i64 a.p.at_, .int .i64 a.p.ln, .bool a.p.key, .bool a.p.hid, .slice A a.p.data.length c, .int .i64 a.n] ∧ a.p.data.length ≤ c ∧ RdS w S .u8 A a.p.data ∧ a.p.wf ∧ i64B a.kind ∧ i64B a.n
theorem AcR.good : Rel.Good AcR 8 where
  pos := by omega
  len := by rintro w S cs x ⟨A, c, rfl, _⟩; rfl
  one := by
    rintro w S cs x ⟨A, c, rfl, _⟩ u hu
    simp only [List.mem_cons, List.not_mem_nil, or_false] at hu
    rcases hu with rfl | rfl | rfl | rfl | rfl | rfl | rfl | rfl <;> rfl
  keep := by
    rintro w w' M S cs x ⟨A, c, h1, h2, h3, h4⟩ hm hs
    exact ⟨A, c, h1, h2, h3.keep hm hs, h4⟩
  weak := by
    rintro w S S' cs x ⟨A, c, h1, h2, h3, h4⟩ hs
    exact ⟨A, c, h1, h2, h3.weak hs, h4⟩
abbrev RdAc := RdG AcR 8
theorem RdAc.at_ {w : World} {S : Nat → Prop} {A : Option Addr} {xs : List Ac} (h : RdAc w S A xs) {j : Nat} (hj : j < xs.length) : ∃ ad p Aj cj, A = some ad ∧ S p.block ∧ ad.add (j * 8) = p ∧ w.cell? p = some (.int .i64 xs[j].kind) ∧ w.cell? ⟨p.block, p.off + 1, none⟩ = some (.int .i64 xs[j].p.st) ∧
    w.cell? ⟨p.block, p.off + 2, none⟩ = some (.int .i64 xs[j].p.at_) ∧ w.cell? ⟨p.block, p.off + 3, none⟩ = some (.int .i64 xs[j].p.ln) ∧ w.cell? ⟨p.block, p.off + 4, none⟩ = some (.bool xs[j].p.key) ∧ w.cell? ⟨p.block, p.off + 5, none⟩ = some (.bool xs[j].p.hid) ∧
    w.cell? ⟨p.block, p.off + 6, none⟩ = some (.slice Aj xs[j].p.data.length cj) ∧ w.cell? ⟨p.block, p.off + 7, none⟩ = some (.int .i64 xs[j].n) ∧
    xs[j].p.data.length ≤ cj ∧ RdS w S .u8 Aj xs[j].p.data ∧ xs[j].p.wf ∧ i64B xs[j].kind ∧ i64B xs[j].n := by
  obtain ⟨ad, cs, e, hb, ⟨Aj, cj, rfl, h1, h2, h3⟩, hc⟩ := h j hj
  exact ⟨ad, _, Aj, cj, e, by rw [add_block]; exact hb, rfl, hc 0 _ rfl, (add_next ad _ 1 (by omega)) ▸ hc 1 _ rfl, (add_next ad _ 2 (by omega)) ▸ hc 2 _ rfl, (add_next ad _ 3 (by omega)) ▸ hc 3 _ rfl, (add_next ad _ 4 (by omega)) ▸ hc 4 _ rfl, (add_next ad _ 5 (by omega)) ▸ hc 5 _ rfl, (add_next ad _ 6 (by omega)) ▸ hc 6 _ rfl, (add_next ad _ 7 (by omega)) ▸ hc 7 _ rfl, h1, h2, h3⟩
def asum (l : List Ac) : Nat := (l.map fun a => 1 + a.p.data.length).sum
def heavyAc (l : List Ac) : Bool := decide (3000 < asum l)
theorem asum_snoc (l : List Ac) (a : Ac) : asum (l ++ [a]) = asum l + (1 + a.p.data.length) := by simp [asum]
theorem asum_take (l : List Ac) (k : Nat) : asum (l.take k) ≤ asum l := by
  have : asum l = asum (l.take k) + asum (l.drop k) := by rw [asum, asum, asum, ← List.sum_append, ← List.map_append, List.take_append_drop]
  omega
theorem asum_len : ∀ l : List Ac, l.length ≤ asum l
  | [] => by simp
  | a :: l => by
    have := asum_len l
    simp only [asum, List.map_cons, List.sum_cons, List.length_cons] at *
    omega
set_option maxHeartbeats 1000000 in
theorem heavyac_any {l : List Ac} {A : Option Addr} {c : Nat} {S : Nat → Prop} {w : World} (hr : RdAc w S A l) (hl : l.length ≤ 9223372036854775807) :
    Calls Try.prog 10 #[.slice A l.length c] w fun e w' => e = .returned (.bool (heavyAc l)) ∧ w = w' := by
  go_enter Try.func10, Try.ntmps10
  go_wp2
  go_loop [3, 4] (fun n i => ∃ k : Nat, k ≤ l.length ∧ i = .int .i64 k ∧ n = .int .i64 ((asum (l.take k) : Nat) : Int) ∧ asum (l.take k) ≤ 3000) (fun _ i => l.length - (intOf i).toNat)
  case atStart => exact ⟨0, Nat.zero_le _, rfl, by simp [asum], by simp [asum]⟩
  case round =>
    obtain ⟨k, hk, rfl, rfl, hn⟩ := hrel
    by_cases hlt : k < l.length
    · obtain ⟨ad, p, Aj, cj, rfl, _, hp, e0, e1, e2, e3, e4, e5, e6, e7, hcj, hrj, hwj, _⟩ := RdAc.at_ hr hlt
      have HT := Lib.hid (show asum (l.take (k + 1)) = asum (l.take k) + (1 + l[k].p.data.length) by rw [List.take_succ_eq_append_getElem hlt, asum_snoc])
      have HL := Lib.hid (asum_take l (k + 1))
      have hwl := hwj.len
      generalize asum (l.take k) = n1 at *
      generalize l[k] = q at *
      by_cases ho : 3000 < n1 + (1 + q.p.data.length)
      · have HB := Lib.hid (show heavyAc l = true by rw [heavyAc, decide_eq_true_eq]; have := HT.out; have := HL.out; omega)
        have ho1 : (3000 : Int) < (n1 : Int) + 1 + (q.p.data.length : Int) := by omega
        clear ho
        go_wp2
        go_ret
        exact ⟨by rw [HB.out]; rfl, rfl⟩
      · have ho1 : decide ((3000 : Int) < (n1 : Int) + 1 + (q.p.data.length : Int)) = false := decide_eq_false (by omega)
        go_wp2
        go_round
        case rel => exact ⟨k + 1, by omega, by go_num, by rw [HT.out]; go_num, by rw [HT.out]; omega⟩
        case measure => simp [intOf]; omega
    · have hkl : k = l.length := by omega
      subst hkl
      rw [List.take_length] at hn
      have HB := Lib.hid (show heavyAc l = false by rw [heavyAc, decide_eq_false_iff_not]; omega)
      go_wp2
      go_ret
      exact ⟨by rw [HB.out]; rfl, rfl⟩
end Go.Proofs.Ytnflhogjonlnmaa
