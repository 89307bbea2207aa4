/- disk: Flush, Read. -/
import Derived.Test.YtdlbjilbdbjadaaDkW2
set_option linter.unusedSimpArgs false
set_option linter.unusedVariables false
namespace Go.Proofs.Ytdlbjilbdbjadaa
open Go.RowKit

def Dk.flush (s : Dk) : Dk := ⟨s.n, s.see, s.see, []⟩
theorem putAt_all {cur vs : List Value} (h : vs.length = cur.length) : putAt cur 0 vs = vs := by simp [putAt, h]
/-- all sectors copied from one block to another -/
theorem run_copy_all (w : World) (ty : TypeId) (g g' n : Nat) (a b : List Int) (ha : a.length = 64 * n) (hb : b.length = 64 * n) (k : Blk w g 79 (ic .u8 a).toArray) (k' : Blk w g' 79 (ic .u8 b).toArray) :
    (Builtin.copy_ #[66, 66] ty #[.slice (some ⟨g, 0, none⟩) n n, .slice (some ⟨g', 0, none⟩) n n]).run Try.prog w = .ok (goInt n) (w.setRow g (ic .u8 b).toArray) := by
  have h1 := run_copy_cells_n (P := Try.prog) w 66 66 ty 79 g 0 n n ⟨g', 0, none⟩ n n 64 _ _ (ic .u8 b) Try.underlying66 size_se k (by rw [ic_length, hb]; simp [Nat.min_def]; omega) (fun j v hv => by rw [add_mk, Nat.zero_add, k'.cell j, List.getElem?_toArray]; exact hv) (by rw [ic_length, List.size_toArray, ic_length]; omega) (ic_cell _ _)
  rw [putAt_all (by rw [ic_length, ic_length]; omega), show Nat.min n n = n from Nat.min_self n] at h1
  exact h1

set_option maxRecDepth 100000 in
theorem dflush_any {w : World} {base gd gs ge : Nat} {vq : Value} {s : Dk} (h : DkM w base gd gs ge vq s) :
    Calls Try.prog 21 #[.pointer (some ⟨gd, 0, none⟩)] w fun e w' => e = .returned (.tuple #[]) ∧ DkM w' base gd gs ge (.slice none 0 0) s.flush ∧ Mod (fun b => b = gd ∨ b = gs) w w' := by
  have c0 := h.bd.cell 0
  have c1 := h.bd.cell 1
  have hcp := fun ty => run_copy_all w.drew ty gs ge s.n s.sto s.see h.ok.l1 h.ok.l2 h.bs h.be
  go_enter Try.func21, Try.ntmps21
  go_wp2_with (fail)
  refine wp_still_tail 8 (by kernel_rfl) (by kernel_rfl) ?_
  simp only [List.take_succ_cons, List.take_zero, List.drop_succ_cons, List.drop_zero]
  repeat still_step
  refine wpStill_nil ?_
  go_upto_region 1 with (fail)
  clear hcp c0 c1
  have hm : Mod (· = gs) w (w.drew.setRow gs (ic .u8 s.see).toArray) := (Mod.refl (fun x => x = gs) w).drew.setRow (fun _ => rfl) _
  have ks : Blk (w.drew.setRow gs (ic .u8 s.see).toArray) gs 79 (ic .u8 s.see).toArray := Blk.setRow (w := w.drew) h.bs _
  generalize w.drew.setRow gs (ic .u8 s.see).toArray = w1 at *
  have kd := h.bd.mod hm h.ne.1
  have ke := h.be.mod hm (fun e => h.ne.2.2 e.symm)
  have c2 := kd.cell 2
  have f2 := kd.frozen 2
  go_wp2
  go_end0
  have hm2 : Mod (· = gd) w1 (w1.setCell ⟨gd, 2, none⟩ (.slice none 0 0)) := mod_put (Mod.refl _ _) (fun _ => rfl)
  have kd2 := kd.set_ 2 (.slice none 0 0)
  have hok := h.ok
  refine ⟨rfl, ⟨by simpa [Dk.flush] using kd2, ks.mod hm2 (fun e => h.ne.1 e.symm), ke.mod hm2 (fun e => h.ne.2.1 e.symm), OwnG.nil_ _ _ _ _ _ _, h.ne, fun b hb => (by cases hb), ⟨h.ge_.1, h.ge_.2.1, h.ge_.2.2.1, Nat.le_trans h.ge_.2.2.2 (Nat.le_trans hm.size hm2.size)⟩, ⟨hok.n0, hok.n1, hok.l2, hok.l2, hok.b2, hok.b2, fun x hx => (by cases hx)⟩⟩, ?_⟩
  exact (hm.mono (fun b h _ => .inr h)).trans (M' := (· = gd)) hm2 (fun b h _ => .inl h)
set_option maxRecDepth 100000 in
theorem dread_any {w : World} {base gd gs ge : Nat} {vq : Value} {s : Dk} (h : DkM w base gd gs ge vq s) {N : Nat} (hN : N < s.n) :
    Calls Try.prog 19 #[.pointer (some ⟨gd, 0, none⟩), .int .i64 (N : Int)] w fun e w' => ∃ v, e = .returned (.tuple #[v, .int .i64 0]) ∧ OwnI w' w.heap.size 5 .u8 v ((s.see.drop (64 * N)).take 64) ∧ Below w.heap.size w w' := by
  have c0 := h.bd.cell 0
  have c1 := h.bd.cell 1
  have g1 : decide ((N : Int) < 0) = false := decide_eq_false (by omega)
  have g2 : decide ((s.n : Int) ≤ (N : Int)) = false := decide_eq_false (by omega)
  have g3 : decide (s.n ≤ N) = false := decide_eq_false (by omega)
  have hl := h.ok.l2
  have hln : ((s.see.drop (64 * N)).take 64).length = 64 := by rw [List.length_take, List.length_drop]; omega
  have hrd : RdI w w.heap.size .u8 (some ⟨ge, N * 64, none⟩) ((s.see.drop (64 * N)).take 64) := ⟨by rw [ic_length]; omega, fun _ => ⟨_, rfl, h.be.lt, fun j u hu => by
    have h1 := h.be.seg (N * 64) 64 j u
    rw [ic_seg, Nat.mul_comm N 64] at h1
    rw [Nat.mul_comm N 64]
    exact h1 hu⟩⟩
  replace hl := Lib.hid hl
  replace hln := Lib.hid hln
  go_enter Try.func19, Try.ntmps19
  go_wp2_with (first
    | (at_builtin; (refine wpList_append_int _ rfl (.const (.slice none 0 0)) (.tmp 23) _ rfl w w.heap.size w.heap.size 5 .u8 1 Try.underlying36 info_u8 _ [] rfl (OwnI.nil_ _ _ _ _) w.heap.size (some ⟨ge, N * 64, none⟩) 64 64 ((s.see.drop (64 * N)).take 64) rfl hln.out.symm hrd (by rw [hln.out]; simp) (by omega) (by repeat (first | exact Below.refl _ _ | assumption | refine Below.drew ?_ | refine below_drewN ?_ _ | refine below_alloc ?_ _)) (Nat.le_refl _) (Nat.le_refl _) ?_); intro v1 w1 hown1 hbel1))
  go_ret2
  exact ⟨v1, rfl, hown1, hbel1⟩
end Go.Proofs.Ytdlbjilbdbjadaa
