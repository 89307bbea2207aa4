/- HeavyPackets; splits of chapter 32. -/
import Derived.Test.YtkgenjgomnalpaaRPgSplit
import Derived.Test.YtkgenjgomnalpaaPgSame
set_option linter.unusedSimpArgs false
set_option linter.unusedVariables false
namespace Go.Proofs.Ytkgenjgomnalpaa
open Go.RowKit

def wsum (l : List Pk) : Nat := (l.map fun p => 20 + p.data.length).sum
def heavyPk (l : List Pk) : Bool := decide (20000 < wsum l)
theorem wsum_snoc (l : List Pk) (p : Pk) : wsum (l ++ [p]) = wsum l + (20 + p.data.length) := by simp [wsum]
theorem wsum_append (a b : List Pk) : wsum (a ++ b) = wsum a + wsum b := by simp [wsum]
theorem wsum_take (l : List Pk) (k : Nat) : wsum (l.take k) ≤ wsum l := by
  have h : wsum (l.take k ++ l.drop k) = wsum (l.take k) + wsum (l.drop k) := wsum_append _ _
  rw [List.take_append_drop] at h
  omega
theorem wsum_len (l : List Pk) : 20 * l.length ≤ wsum l := by
  induction l with
  | nil => simp [wsum]
  | cons x l ih => simp only [wsum, List.map_cons, List.sum_cons, List.length_cons] at ih ⊢; omega
theorem wsum_pages (l : List Pk) : (l.map fun p => nPages p.bytes).sum ≤ wsum l := by
  induction l with
  | nil => simp [wsum]
  | cons x l ih =>
    have h : nPages x.bytes ≤ 20 + x.data.length := by rw [nPages, bytes_len]; omega
    simp only [wsum, List.map_cons, List.sum_cons] at ih ⊢; omega

set_option maxHeartbeats 1000000 in
theorem heavypk_any {l : List Pk} {A : Option Addr} {c : Nat} {S : Nat → Prop} {w : World} (hr : RdPk w S A l) (hl : l.length ≤ 9223372036854775807) :
    Calls Try.prog 21 #[.slice A l.length c] w fun e w' => e = .returned (.bool (heavyPk l)) ∧ w = w' := by
  go_enter Try.func21, Try.ntmps21
  go_wp2
  go_loop [3, 4] (fun n i => ∃ k : Nat, k ≤ l.length ∧ i = .int .i64 k ∧ n = .int .i64 ((wsum (l.take k) : Nat) : Int) ∧ wsum (l.take k) ≤ 20000) (fun _ i => l.length - (intOf i).toNat)
  case atStart => exact ⟨0, Nat.zero_le _, rfl, by simp [wsum], by simp [wsum]⟩
  case round =>
    obtain ⟨k, hk, rfl, rfl, hn⟩ := hrel
    by_cases hlt : k < l.length
    · obtain ⟨ad, p, Aj, cj, rfl, _, hp, e0, e1, e2, e3, e4, e5, hcj, hrj, hwj⟩ := RdPk.at_ hr hlt
      have HT := Lib.hid (show wsum (l.take (k + 1)) = wsum (l.take k) + (20 + l[k].data.length) by rw [List.take_succ_eq_append_getElem hlt, wsum_snoc])
      have HL := Lib.hid (wsum_take l (k + 1))
      have hwl := hwj.len
      generalize wsum (l.take k) = n1 at *
      generalize l[k] = q at *
      by_cases ho : 20000 < n1 + (20 + q.data.length)
      · have HB := Lib.hid (show heavyPk l = true by rw [heavyPk, decide_eq_true_eq]; have := HT.out; have := HL.out; omega)
        have ho1 : (20000 : Int) < (n1 : Int) + 20 + (q.data.length : Int) := by omega
        clear ho
        go_wp2
        go_ret
        exact ⟨by rw [HB.out]; rfl, rfl⟩
      · have ho1 : decide ((20000 : Int) < (n1 : Int) + 20 + (q.data.length : Int)) = false := decide_eq_false (by omega)
        go_wp2
        go_round
        case rel => exact ⟨k + 1, by omega, by go_num, by rw [HT.out]; go_num, by rw [HT.out]; omega⟩
        case measure => simp [intOf]; omega
    · have hkl : k = l.length := by omega
      subst hkl
      rw [List.take_length] at hn
      have HB := Lib.hid (show heavyPk l = false by rw [heavyPk, decide_eq_false_iff_not]; omega)
      go_wp2
      go_ret
      exact ⟨by rw [HB.out]; rfl, rfl⟩

set_option maxHeartbeats 2000000 in
theorem splits_any {l : List Pk} {A : Option Addr} {c : Nat} {S : Nat → Prop} {w : World} (hr : RdPk w S A l) (hl : l.length ≤ 1000000) (from_ : Int) (h0 : -9223372036854775808 ≤ from_) (h1 : from_ ≤ 9223372036854775807) (hsm : wsum l ≤ 1000000) :
    Calls Try.prog 23 #[.slice A l.length c, .int .i64 from_] w fun e w' => e = .returned (.bool true) ∧ Below w.heap.size w w' := by
  have hp := Nat.le_trans (wsum_pages l) hsm
  have HS := Lib.hid (split_any (c := c) hr (by omega) from_ h0 h1)
  have HR := Lib.hid (fun W (hb : Below w.heap.size w W) => rsplit_any (c := c) (hr.below PkR.good hb) (by omega) from_ h0 h1 hp)
  have hpl : (splitP l from_).length ≤ 1000000 := by
    rw [splitP]
    split
    · rw [pagesAll_len, List.map_map]; exact hp
    · simp
  generalize splitP l from_ = P at *
  generalize splitE l from_ = E at *
  clear hr hp hsm
  go_enter Try.func23, Try.ntmps23
  go_wp2_with (first
    | (go_at_call 24; (with_reducible refine HS.out.mono ?_); rintro e w1 ⟨v1, rfl, ho1, hb1⟩; obtain ⟨A1, c1, rfl, _, hr1⟩ := ho1.reads PgR.good (S := fun b => b < w1.heap.size) (fun b _ hl => hl))
    | (go_at_call 42; (with_reducible refine (HR.out _ hb1).mono ?_); rintro e w2 ⟨v2, rfl, ho2, hb2⟩; obtain ⟨A2, c2, rfl, _, hr2⟩ := ho2.reads PgR.good (S := fun b => b < w2.heap.size) (fun b _ hl => hl); have HSm := samepgs_any c1 c2 (hr1.below PgR.good hb2) hr2 (by omega) (by omega); rw [decide_eq_true rfl] at HSm)
    | (go_at_call 43; (with_reducible refine HSm.mono ?_); rintro e w3 ⟨rfl, hb3⟩))
  go_ret
  exact ⟨rfl, below_then (below_then hb1 hb2) hb3⟩
/-- append as an operation under a guard that lets it run. -/
theorem wpList_append_Gw {α : Type} {R : Rel α} {size : Nat} {e : TypeId} {base : Nat} {D : Nat → Prop} {v : Value} {xs : List α} {P : Program} {ops : Array Oper} {rest : List Oper} {o : Oper} {a : Act} {Q : Exit → Act → World → Prop} (hwn : Region.wanted o (yielded ops a.tmps) = true) (s x : Operand) (t : TypeId)
    (ho : o.op = .call { callee := .builtin .append, args := #[s, x], argTypes := #[t, t] })
    (g : R.Good size) (w : World) (z : Value) (bytes : Nat) (ht : P.underlying t = some (.slice e))
    (hi : (P.info? e).map (fun i => (i.zero, i.size, i.bytes)) = some (some z, size, bytes)) (hz : z.cells.size = size) (hby : bytes ≤ 1024)
    (hs : a.eval s = v) (h : OwnG R size e w base D v xs) (S : Nat → Prop) (A : Option Addr) (c m : Nat) (ys : List α) (hx : a.eval x = .slice A m c) (hm : m = ys.length) (hr : RdG R size w S A ys) (hS : ∀ b, S b → b < w.heap.size → D b)
    (hDv : ∀ b, v.ownBlock = some b → ¬ S b) (hD : ∀ b, D b → b < w.heap.size) (hlen : xs.length + ys.length ≤ 4000000000) (hbase : base ≤ w.heap.size)
    (hk : ∀ v' w', OwnG R size e w' base D v' (xs ++ ys) → w.grownBy w' v.ownBlock → (v'.ownBlock = v.ownBlock ∨ v'.ownBlock = some w.heap.size) → wpList P ops Q rest (a.put o.dst v') w') : wpList P ops Q (o :: rest) a w := by
  obtain ⟨v', w', hrun, h2, h3, h4⟩ := run_append_G (P := P) g w t o.type z bytes ht hi hz hby h S A c m ys hm hr hS hDv hD hlen hbase
  refine wpList_step fun K hK => ?_
  rw [if_pos hwn]
  unfold Oper.wp execOp
  simp only [ho, resolve, invoke, builtin, Sem.run_bind, Sem.run_pure, Result.andThen_ok, List.map_toArray, List.map_cons, List.map_nil, hs, hx, hrun]
  exact hK _ _ (hk v' w' h2 h3 h4)
theorem OwnG.empty {α : Type} (R : Rel α) (size : Nat) (e : TypeId) (w : World) (base : Nat) (D : Nat → Prop) (hb : base ≤ w.heap.size) : OwnG R size e (w.alloc (.cells #[] e)) base D (.slice (some ⟨w.heap.size, 0, none⟩) 0 0) [] :=
  ⟨[], World.ownsRow_made w #[] 0 hb (by simp [maxLen]) (by simp), Cells.nil_⟩
end Go.Proofs.Ytkgenjgomnalpaa
