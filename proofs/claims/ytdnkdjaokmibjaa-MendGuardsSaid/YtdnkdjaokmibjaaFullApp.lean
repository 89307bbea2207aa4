/- append to a slice cut at its own length: a[:len(a):len(a)]. -/
import Derived.Test.YtdnkdjaokmibjaaOwnEmp
import Derived.ArgAppend
import Derived.Deep.Upon
set_option linter.unusedSimpArgs false
set_option linter.unusedVariables false
namespace Go.Proofs.Ytdnkdjaokmibjaa
open Go.RowKit

section
variable {α : Type} {R : Rel α} {size : Nat}
theorem RdG.slice_hm {w : World} {S : Nat → Prop} {A : Option Addr} {xs : List α} {P : Program} {t e : TypeId} {z : Option Value} {b : Nat} (ht : P.underlying t = some (.slice e)) (hi : (P.info? e).map (fun i => (i.zero, i.size, i.bytes)) = some (z, size, b))
    (h : RdG R size w S A xs) {c : Nat} (hc : xs.length ≤ c) :
    ∃ A', (∀ w' : World, (Instr.slice t (.slice A xs.length c) none (some (.int .i64 (xs.length : Int))) (some (.int .i64 (xs.length : Int)))).run P w' = .ok (.slice A' xs.length xs.length) w') ∧ RdG R size w S A' xs := by
  obtain ⟨he, ht'⟩ := elem_of ht
  have hcut := RdG.cut h (k := 0) (c := xs.length) (by omega) (Nat.le_refl _)
  simp only [List.drop_zero] at hcut
  refine ⟨if xs.length = 0 then A else A.map (·.add (0 * size)), fun w' => ?_, hcut⟩
  rw [run_slice_hm w' t A xs.length c ht' .i64 .i64 xs.length xs.length (by omega) (by omega) (by omega), he, sizeOf_run hi]
  simp [sliced]

theorem run_append_full {P : Program} {e : TypeId} {S S' : Nat → Prop} {A : Option Addr} {xs ys : List α} (g : R.Good size) (w : World) (t ty : TypeId) (z : Value) (bytes : Nat) (ht : P.underlying t = some (.slice e))
    (hi : (P.info? e).map (fun i => (i.zero, i.size, i.bytes)) = some (some z, size, bytes)) (hz : z.cells.size = size) (hby : bytes ≤ 1024)
    (h : RdG R size w S A xs) (A' : Option Addr) (c m : Nat) (hm : m = ys.length) (hr : RdG R size w S' A' ys) (hlen : xs.length + ys.length ≤ 4000000000) :
    ∃ A2 c2 w', (Builtin.append_ #[t, t] ty #[.slice A xs.length xs.length, .slice A' m c]).run P w = .ok (.slice A2 (xs ++ ys).length c2) w' ∧ (xs ++ ys).length ≤ c2 ∧ RdG R size w' (fun b => b < w'.heap.size) A2 (xs ++ ys) ∧ Below w.heap.size w w' := by
  subst hm
  obtain ⟨i0, hi0, hz0, hz1, hz2⟩ := infoG hi
  cases A with
  | none =>
    have hx : xs = [] := by
      cases xs with
      | nil => rfl
      | cons x xs =>
        obtain ⟨ad, _, h9, _⟩ := h 0 (by simp)
        cases h9
    subst hx
    obtain ⟨v', w', h1, h2, h3, h4⟩ := run_append_G (P := P) g w t ty z bytes ht hi hz hby (OwnG.nil_ R size e w w.heap.size (fun b => b < w.heap.size)) S' A' c ys.length ys rfl hr (fun b _ hl => hl) (fun b hb => by simp [Value.ownBlock] at hb) (fun b hb => hb) (by simpa using hlen) (Nat.le_refl _)
    obtain ⟨A2, c2, rfl, hc2, hr2⟩ := h2.reads g (S := fun b => b < w'.heap.size) (fun b _ hl => hl)
    exact ⟨A2, c2, w', h1, hc2, hr2, Below.grown (Below.refl w.heap.size w) h3 (Nat.le_refl _) (fun b hb => by simp [Value.ownBlock] at hb)⟩
  | some ad =>
    obtain ⟨olds, ho, hro⟩ := h.cells g
    by_cases hy : ys = []
    · subst hy
      have hsrc : Src P i0.size t (.slice A' 0 c) 0 [] w := by
        cases A' with
        | none => exact Src.ofNil w ht c
        | some a => exact Src.ofSlice w ht a 0 c [] (by simp) (fun j u hu => by simp at hu) (fun u hu => by cases hu)
      refine ⟨some ad, xs.length, w, ?_, by simp, ?_, Below.refl _ _⟩
      · rw [List.append_nil]
        exact Go.run_append_nothing w t t ty e i0 ht hi0 (some ad) _ _ (Nat.le_refl _) _ hsrc
      · rw [List.append_nil]; exact h.weak g (fun b _ hl => hl)
    · have hyl : 0 < ys.length := List.length_pos_iff.2 hy
      obtain ⟨a, _, rfl, _⟩ := hr 0 hyl
      obtain ⟨news, hn, hrn⟩ := hr.cells g
      obtain ⟨a', ea, _, hnc⟩ := hrn.2 hyl
      injection ea with ea
      subst ea
      obtain ⟨v', w', h1, h2, h3⟩ := run_append_arg_grows (P := P) w t ty e i0 z size bytes ht hi0 hz0 hz1 hz2 hz g.pos ad xs.length xs.length olds ho.1 (fun j u hu => by
        have hxl : 0 < xs.length := by
          rcases Nat.eq_zero_or_pos xs.length with h0 | h0
          · have h9 := ho.1
            rw [h0, Nat.zero_mul] at h9
            rw [List.eq_nil_of_length_eq_zero h9] at hu
            simp at hu
          · exact h0
        obtain ⟨ad', ea, _, hoc⟩ := hro.2 hxl
        injection ea with ea
        subst ea
        exact hoc j u hu) a ys.length c news hn.1 hnc (by omega) (by simp only [maxLen]; omega) (by
          calc (xs.length + ys.length) * bytes ≤ 4000000000 * 1024 := Nat.mul_le_mul hlen hby
            _ ≤ 140737488355328 := by omega)
      have hM : Mod (fun _ => False) w w' := Mod.of_grown h3 (fun g e _ => by cases e)
      have hlt := World.ownsRow.lt h2
      have hsz := h3.size
      have hw : ∀ {zs : List α} {cs : List Value} {S9 : Nat → Prop}, Cells R size w S9 cs zs → Cells R size w' (fun b => b < w.heap.size ∧ v'.ownBlock ≠ some b) cs zs := fun h9 =>
        Cells.weak g (Cells.keep g (Cells.weak (S' := fun b => b < w.heap.size) g h9 (fun b _ hl => hl)) hM (fun _ _ _ h => h)) (fun b hb _ => ⟨hb, fun e9 => by have := (hlt b e9).1; omega⟩)
      have hO : OwnG R size e w' w.heap.size (fun b => b < w.heap.size) v' (xs ++ ys) := ⟨olds ++ news, by rw [List.length_append]; exact h2, Cells.append (hw ho) (hw hn)⟩
      obtain ⟨A2, c2, rfl, hc2, hr2⟩ := hO.reads g (S := fun b => b < w'.heap.size) (fun b _ hl => hl)
      exact ⟨A2, c2, w', h1, hc2, hr2, Below.grown (Below.refl w.heap.size w) h3 (Nat.le_refl _) (fun b hb => by cases hb)⟩

theorem wpList_append_fullw {P : Program} {e : TypeId} {S S' : Nat → Prop} {A : Option Addr} {xs ys : List α} {ops : Array Oper} {rest : List Oper} {o : Oper} {a : Act} {Q : Exit → Act → World → Prop} (hwn : Region.wanted o (yielded ops a.tmps) = true) (s x : Operand) (t : TypeId)
    (ho : o.op = .call { callee := .builtin .append, args := #[s, x], argTypes := #[t, t] })
    (g : R.Good size) (w : World) (z : Value) (bytes : Nat) (ht : P.underlying t = some (.slice e))
    (hi : (P.info? e).map (fun i => (i.zero, i.size, i.bytes)) = some (some z, size, bytes)) (hz : z.cells.size = size) (hby : bytes ≤ 1024)
    (n : Nat) (hs : a.eval s = .slice A n n) (hn : n = xs.length) (h : RdG R size w S A xs) (A' : Option Addr) (c m : Nat) (hx : a.eval x = .slice A' m c) (hm : m = ys.length) (hr : RdG R size w S' A' ys) (hlen : xs.length + ys.length ≤ 4000000000)
    (hk : ∀ A2 c2 w', (xs ++ ys).length ≤ c2 → RdG R size w' (fun b => b < w'.heap.size) A2 (xs ++ ys) → Below w.heap.size w w' → wpList P ops Q rest (a.put o.dst (.slice A2 (xs ++ ys).length c2)) w') : wpList P ops Q (o :: rest) a w := by
  subst hn
  obtain ⟨A2, c2, w', hrun, h2, h3, h4⟩ := run_append_full (P := P) g w t o.type z bytes ht hi hz hby h A' c m hm hr hlen
  refine wpList_step fun K hK => ?_
  rw [if_pos hwn]
  unfold Oper.wp execOp
  simp only [ho, resolve, invoke, builtin, Sem.run_bind, Sem.run_pure, Result.andThen_ok, List.map_toArray, List.map_cons, List.map_nil, hs, hx, hrun]
  exact hK _ _ (hk A2 c2 w' h2 h3 h4)
end
end Go.Proofs.Ytdnkdjaokmibjaa
