/- An own slice made empty; append under a guard. -/
import Derived.Test.YtdnkdjaokmibjaaDat
set_option linter.unusedSimpArgs false
set_option linter.unusedVariables false
namespace Go.Proofs.Ytdnkdjaokmibjaa
open Go.RowKit

theorem RdI.litG (w : World) (k : IntKind) (l : List Int) (cs : Array Value) (e : TypeId) (fr : Nat × Nat) (h : cs.toList = ic k l) : RdI (w.alloc (.cells cs e fr)) (w.heap.size + 1) k (some ⟨w.heap.size, 0, none⟩) l := by
  refine ⟨by rw [ic_length]; omega, fun _ => ⟨_, rfl, by simp, fun j u hu => ?_⟩⟩
  rw [add_mk, cell_of_row _ w.heap.size (0 + j) cs e fr (heap_alloc_new w _), Nat.zero_add, ← hu, ← h]
  simp

/-- A slice that a call lays out itself. -/
theorem RdG.lits {α : Type} {R : Rel α} {size : Nat} (g : R.Good size) (w : World) {S : Nat → Prop} {cells : List Value} {xs : List α} (h : Cells R size w S cells xs) (e : TypeId) :
    RdG R size (w.alloc (.cells cells.toArray e)) (fun b => (S b ∧ b < w.heap.size) ∨ b = w.heap.size) (some ⟨w.heap.size, 0, none⟩) xs := fun j hj => by
  refine ⟨_, _, rfl, .inr rfl, g.keep (g.weak (S' := fun b => (S b ∧ b < w.heap.size) ∨ b = w.heap.size) (h.2 j hj) fun b hb hl => .inl ⟨hb, hl⟩) (M := fun _ => False) ((Mod.refl _ _).alloc _) (fun _ _ _ h => h), fun i u hu => ?_⟩
  rw [add_mk, cell_of_row _ w.heap.size (0 + (j * size + i)) cells.toArray e (0, 0) (heap_alloc_new w _)]
  rw [List.getElem?_take] at hu
  split at hu
  · rw [List.getElem?_drop] at hu
    simpa using hu
  · cases hu

end Go.Proofs.Ytdnkdjaokmibjaa

namespace Go.Proofs.Ytdnkdjaokmibjaa
open Go.RowKit

/-- append as an operation under a guard that lets it run. -/
theorem wpList_append_Gw {α : Type} {R : Rel α} {size : Nat} {e : TypeId} {base : Nat} {D : Nat → Prop} {v : Value} {xs : List α} {P : Program} {ops : Array Oper} {rest : List Oper} {o : Oper} {a : Act} {Q : Exit → Act → World → Prop} (hwn : Region.wanted o (yielded ops a.tmps) = true) (s x : Operand) (t : TypeId)
    (ho : o.op = .call { callee := .builtin .append, args := #[s, x], argTypes := #[t, t] })
    (g : R.Good size) (w : World) (z : Value) (bytes : Nat) (ht : P.underlying t = some (.slice e))
    (hi : (P.info? e).map (fun i => (i.zero, i.size, i.bytes)) = some (some z, size, bytes)) (hz : z.cells.size = size) (hby : bytes ≤ 1024)
    (hs : a.eval s = v) (h : OwnG R size e w base D v xs) (S : Nat → Prop) (A : Option Addr) (c m : Nat) (ys : List α) (hx : a.eval x = .slice A m c) (hm : m = ys.length) (hr : RdG R size w S A ys) (hS : ∀ b, S b → b < w.heap.size → D b)
    (hDv : ∀ b, v.ownBlock = some b → ¬ S b) (hD : ∀ b, D b → b < w.heap.size) (hlen : xs.length + ys.length ≤ 4000000000) (hbase : base ≤ w.heap.size)
    (hk : ∀ v' w', OwnG R size e w' base D v' (xs ++ ys) → w.grownBy w' v.ownBlock → (v'.ownBlock = v.ownBlock ∨ v'.ownBlock = some w.heap.size) → wpList P ops Q rest (a.put o.dst v') w') : wpList P ops Q (o :: rest) a w := by
  obtain ⟨v', w', hrun, h2, h3, h4⟩ := run_append_G (P := P) g w t o.type z bytes ht hi hz hby h S A c m ys hm hr hS hDv hD hlen hbase
  refine wpList_step fun K hK => ?_
  rw [if_pos hwn]
  unfold Oper.wp execOp
  simp only [ho, resolve, invoke, builtin, Sem.run_bind, Sem.run_pure, Result.andThen_ok, List.map_toArray, List.map_cons, List.map_nil, hs, hx, hrun]
  exact hK _ _ (hk v' w' h2 h3 h4)
theorem OwnG.empty {α : Type} (R : Rel α) (size : Nat) (e : TypeId) (w : World) (base : Nat) (D : Nat → Prop) (hb : base ≤ w.heap.size) : OwnG R size e (w.alloc (.cells #[] e)) base D (.slice (some ⟨w.heap.size, 0, none⟩) 0 0) [] :=
  ⟨[], World.ownsRow_made w #[] 0 hb (by simp [maxLen]) (by simp), Cells.nil_⟩
end Go.Proofs.Ytdnkdjaokmibjaa
