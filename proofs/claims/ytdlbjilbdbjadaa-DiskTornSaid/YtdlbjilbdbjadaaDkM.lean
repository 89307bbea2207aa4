/- The disk in memory. -/
import Derived.Test.YtdlbjilbdbjadaaPk
import Derived.Test.YtdlbjilbdbjadaaAgg
import Derived.Test.YtdlbjilbdbjadaaOwnS
import Derived.Test.YtdlbjilbdbjadaaPicLL
set_option linter.unusedSimpArgs false
set_option linter.unusedVariables false
namespace Go.Proofs.Ytdlbjilbdbjadaa
open Go.RowKit

structure Dk where
  n : Nat
  sto : List Int
  see : List Int
  qs : List (Nat × List Int)
structure Dk.ok (s : Dk) : Prop where
  n0 : 2 ≤ s.n
  n1 : s.n ≤ 1024
  l1 : s.sto.length = 64 * s.n
  l2 : s.see.length = 64 * s.n
  b1 : byteB s.sto
  b2 : byteB s.see
  q : ∀ x ∈ s.qs, x.1 < s.n ∧ x.2.length = 64 ∧ byteB x.2
/-- A write that waits. -/
def WrR : Rel (Nat × List Int) := fun _ _ cs x => cs = .int .i64 (x.1 : Int) :: ic .u8 x.2 ∧ x.2.length = 64
theorem WrR.good : Rel.Good WrR 65 where
  pos := by omega
  len := by rintro w S cs x ⟨rfl, h⟩; simp [ic_length, h]
  one := by
    rintro w S cs x ⟨rfl, _⟩ u hu
    rcases List.mem_cons.1 hu with rfl | hu
    · rfl
    · exact ic_cell _ _ u hu
  keep := by rintro w w' M S cs x h _ _; exact h
  weak := by rintro w S S' cs x h _; exact h
theorem info_wr : (Try.prog.info? 81).map (fun i => (i.zero, i.size, i.bytes)) = some (some (.agg (Array.replicate 65 (.int .u8 0) |>.setIfInBounds 0 (.int .i64 0))), 65, 72) := by kernel_rfl
theorem info_se : (Try.prog.info? 79).map (fun i => (i.zero, i.size, i.bytes)) = some (some (.agg (Array.replicate 64 (.int .u8 0))), 64, 64) := by kernel_rfl
theorem size_wr : (Try.prog.info? 81).map (·.size) = some 65 := by kernel_rfl
theorem size_se : (Try.prog.info? 79).map (·.size) = some 64 := by kernel_rfl
structure DkM (w : World) (base gd gs ge : Nat) (vq : Value) (s : Dk) : Prop where
  bd : Blk w gd 69 #[.slice (some ⟨gs, 0, none⟩) s.n s.n, .slice (some ⟨ge, 0, none⟩) s.n s.n, vq]
  bs : Blk w gs 79 (ic .u8 s.sto).toArray
  be : Blk w ge 79 (ic .u8 s.see).toArray
  oq : OwnG WrR 65 81 w base (fun _ => False) vq s.qs
  ne : gd ≠ gs ∧ gd ≠ ge ∧ gs ≠ ge
  nq : ∀ b, vq.ownBlock = some b → b ≠ gd ∧ b ≠ gs ∧ b ≠ ge
  ge_ : base ≤ gd ∧ base ≤ gs ∧ base ≤ ge ∧ base ≤ w.heap.size
  ok : s.ok
/-- the blocks of a disk -/
def dkF (gd gs ge : Nat) (vq : Value) (b : Nat) : Prop := b = gd ∨ b = gs ∨ b = ge ∨ vq.ownBlock = some b
section
variable {w w' : World} {base gd gs ge : Nat} {vq : Value} {s : Dk} {M : Nat → Prop}
theorem DkM.keep (h : DkM w base gd gs ge vq s) (hm : Mod M w w') (hM : ∀ b, dkF gd gs ge vq b → ¬ M b) : DkM w' base gd gs ge vq s where
  bd := h.bd.mod hm (hM _ (.inl rfl))
  bs := h.bs.mod hm (hM _ (.inr (.inl rfl)))
  be := h.be.mod hm (hM _ (.inr (.inr (.inl rfl))))
  oq := h.oq.keep WrR.good hm (fun b hb => hb.elim) (fun b hb => hM _ (.inr (.inr (.inr hb))))
  ne := h.ne
  nq := h.nq
  ge_ := ⟨h.ge_.1, h.ge_.2.1, h.ge_.2.2.1, Nat.le_trans h.ge_.2.2.2 hm.size⟩
  ok := h.ok
theorem DkM.below (h : DkM w base gd gs ge vq s) (hb : Below w.heap.size w w') : DkM w' base gd gs ge vq s := h.keep (M := fun _ => False) (Mod.of_fresh hb) (fun _ _ h => h)
theorem DkM.drewN (h : DkM w base gd gs ge vq s) (n : Nat) : DkM (w.drewN n) base gd gs ge vq s := h.keep (M := fun _ => False) ((Mod.refl _ _).drewN n) (fun _ _ h => h)
theorem DkM.lt (h : DkM w base gd gs ge vq s) : ∀ b, dkF gd gs ge vq b → base ≤ b ∧ b < w.heap.size := fun b hb => by
  rcases hb with rfl | rfl | rfl | hb
  · exact ⟨h.ge_.1, h.bd.lt⟩
  · exact ⟨h.ge_.2.1, h.bs.lt⟩
  · exact ⟨h.ge_.2.2.1, h.be.lt⟩
  · exact h.oq.own_ge b hb
end
end Go.Proofs.Ytdlbjilbdbjadaa
