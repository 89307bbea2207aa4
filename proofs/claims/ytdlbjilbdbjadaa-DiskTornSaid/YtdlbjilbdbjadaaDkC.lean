/- disk.Recorder in memory; Next, put. -/
import Derived.Test.YtdlbjilbdbjadaaDkR
import Derived.Test.YtdlbjilbdbjadaaOwnO
import Derived.Test.YtdlbjilbdbjadaaPgBytes
set_option linter.unusedSimpArgs false
set_option linter.unusedVariables false
namespace Go.Proofs.Ytdlbjilbdbjadaa
open Go.RowKit

structure Rc where
  next : Nat
  used : Nat
  rest : List Int
structure RkM (w : World) (base gd gs ge gr : Nat) (vq vr : Value) (s : Dk) (r : Rc) : Prop where
  dk : DkM w base gd gs ge vq s
  br : Blk w gr 73 #[.pointer (some ⟨gd, 0, none⟩), .int .i64 (r.next : Int), .int .i64 (r.used : Int), vr]
  or_ : OwnO w base 5 .u8 vr r.rest
  byt : byteB r.rest
  nr : gr ≠ gd ∧ gr ≠ gs ∧ gr ≠ ge ∧ vq.ownBlock ≠ some gr
  nv : ∀ b, vr.ownBlock = some b → b ≠ gd ∧ b ≠ gs ∧ b ≠ ge ∧ b ≠ gr ∧ vq.ownBlock ≠ some b
  gb : base ≤ gr
  qb : s.qs.length ≤ r.used ∧ r.used ≤ s.n
  nb : r.next ≤ 1000000
def rkF (gd gs ge gr : Nat) (vq vr : Value) (b : Nat) : Prop := dkF gd gs ge vq b ∨ b = gr ∨ vr.ownBlock = some b
section
variable {w w' : World} {base gd gs ge gr : Nat} {vq vr : Value} {s : Dk} {r : Rc} {M : Nat → Prop}
theorem OwnO.mod {v : Value} {e : TypeId} {k : IntKind} {l : List Int} (h : OwnO w base e k v l) (hm : Mod M w w') (hv : ∀ b, v.ownBlock = some b → ¬ M b) : OwnO w' base e k v l := h.keep fun g hg => hm.block g (h.lt g hg).2 (hv g hg)
theorem RkM.keep (h : RkM w base gd gs ge gr vq vr s r) (hm : Mod M w w') (hM : ∀ b, rkF gd gs ge gr vq vr b → ¬ M b) : RkM w' base gd gs ge gr vq vr s r where
  dk := h.dk.keep hm (fun b hb => hM b (.inl hb))
  br := h.br.mod hm (hM _ (.inr (.inl rfl)))
  or_ := h.or_.mod hm (fun b hb => hM b (.inr (.inr hb)))
  byt := h.byt
  nr := h.nr
  nv := h.nv
  gb := h.gb
  qb := h.qb
  nb := h.nb
theorem RkM.below (h : RkM w base gd gs ge gr vq vr s r) (hb : Below w.heap.size w w') : RkM w' base gd gs ge gr vq vr s r := h.keep (M := fun _ => False) (Mod.of_fresh hb) (fun _ _ h => h)
theorem RkM.drewN (h : RkM w base gd gs ge gr vq vr s r) (n : Nat) : RkM (w.drewN n) base gd gs ge gr vq vr s r := h.keep (M := fun _ => False) ((Mod.refl _ _).drewN n) (fun _ _ h => h)
theorem RkM.lt (h : RkM w base gd gs ge gr vq vr s r) : ∀ b, rkF gd gs ge gr vq vr b → base ≤ b ∧ b < w.heap.size := fun b hb => by
  rcases hb with hb | rfl | hb
  · exact h.dk.lt b hb
  · exact ⟨h.gb, h.br.lt⟩
  · exact h.or_.lt b hb
theorem rnext_any (h : RkM w base gd gs ge gr vq vr s r) : Calls Try.prog 9 #[.pointer (some ⟨gr, 0, none⟩)] w fun e w' => e = .returned (.int .i64 (r.next : Int)) ∧ w = w' := by
  have c1 := h.br.cell 1
  go_enter Try.func9, Try.ntmps9
  go_wp2
  go_ret
  exact ⟨rfl, rfl⟩
end
def rkC (gd gs ge gr : Nat) (vq : Value) (b : Nat) : Prop := dkF gd gs ge vq b ∨ b = gr
set_option maxRecDepth 100000 in
theorem rput_any {w : World} {base gd gs ge gr : Nat} {vq vr : Value} {s : Dk} {r : Rc} (h : RkM w base gd gs ge gr vq vr s r) (hu : r.used < s.n) (A : Option Addr) (c : Nat) (b : List Int) (hb : b.length = 64) (hbb : byteB b) (hr : RdI w w.heap.size .u8 A b) :
    Calls Try.prog 33 #[.pointer (some ⟨gr, 0, none⟩), .slice A 64 c] w fun e w' => e = .returned (.tuple #[]) ∧ ∃ vq', RkM w' base gd gs ge gr vq' vr (s.write r.used b) ⟨r.next, r.used + 1, r.rest⟩ ∧ Mod (rkC gd gs ge gr vq) w w' ∧ (∀ x, vq'.ownBlock = some x → vq.ownBlock = some x ∨ w.heap.size ≤ x) := by
  have c0 := h.br.cell 0
  have c2 := h.br.cell 2
  have hn1 := h.dk.ok.n1
  have hqb := h.qb
  have HW := dwrite_any (w := w.drew) (h.dk.drewN 1) hu A c b hb hbb (by omega) hr
  rw [hb] at HW
  replace HW := Lib.hid HW
  have HR := Lib.hid h
  clear h hr
  go_enter Try.func33, Try.ntmps33
  go_wp2_with (fail)
  refine wp_still_tail 9 (by kernel_rfl) (by kernel_rfl) ?_
  simp only [List.take_succ_cons, List.take_zero, List.drop_succ_cons, List.drop_zero]
  repeat still_step
  refine wpStill_nil ?_
  go_upto_region 1 with (first
    | (go_at_call 20; (with_reducible refine HW.out.mono ?_); rintro e w2 ⟨rfl, vq', hD2, hm2, hq2⟩))
  have h := HR.out
  have hm2' : Mod (dkF gd gs ge vq) w w2 := ⟨hm2.os, hm2.tape, hm2.output, hm2.size, hm2.block⟩
  have hnF : ¬ dkF gd gs ge vq gr := fun e => by
    rcases e with e | e | e | e
    · exact h.nr.1 e
    · exact h.nr.2.1 e
    · exact h.nr.2.2.1 e
    · exact h.nr.2.2.2 e
  have hnV : ∀ b, vr.ownBlock = some b → ¬ dkF gd gs ge vq b := fun b hb e => by
    obtain ⟨a1, a2, a3, a4, a5⟩ := h.nv b hb
    rcases e with e | e | e | e
    · exact a1 e
    · exact a2 e
    · exact a3 e
    · exact a5 e
  have kb2 := h.br.mod hm2' hnF
  have or2 := h.or_.mod hm2' hnV
  have c2' := kb2.cell 2
  have f2' := kb2.frozen 2
  have hl1 := h.br.lt
  have hl2 := h.or_.lt
  clear c0 c2 h
  go_wp2
  go_end0
  have h := HR.out
  have hms : Mod (· = gr) w2 (w2.setCell ⟨gr, 2, none⟩ (.int .i64 ((r.used : Int) + 1))) := mod_put (Mod.refl _ _) (fun _ => rfl)
  have kb3 := kb2.set_ 2 (.int .i64 ((r.used : Int) + 1))
  refine ⟨rfl, vq', ⟨hD2.keep hms (fun b hb e => ?_), by simpa using kb3, or2.mod hms (fun b hb e => (h.nv b hb).2.2.2.1 e), h.byt, ⟨h.nr.1, h.nr.2.1, h.nr.2.2.1, fun e => ?_⟩, fun b hb => ⟨(h.nv b hb).1, (h.nv b hb).2.1, (h.nv b hb).2.2.1, (h.nv b hb).2.2.2.1, fun e => ?_⟩, h.gb, ⟨?_, ?_⟩, h.nb⟩, (hm2'.mono (fun b h _ => .inl h)).trans (M' := (· = gr)) hms (fun b h _ => .inr h), hq2⟩
  · have h9 : b = gr := e
    subst h9
    rcases hb with hb | hb | hb | hb
    · exact h.nr.1 hb
    · exact h.nr.2.1 hb
    · exact h.nr.2.2.1 hb
    · rcases hq2 _ hb with e | e
      · exact h.nr.2.2.2 e
      · have h8 : w.heap.size ≤ b := e
        omega
  · rcases hq2 _ e with e | e
    · exact h.nr.2.2.2 e
    · have h8 : w.heap.size ≤ gr := e
      omega
  · rcases hq2 _ e with e | e
    · exact (h.nv b hb).2.2.2.2 e
    · have h8 : w.heap.size ≤ b := e
      have := (hl2 b hb).2
      omega
  · simp [Dk.write]; omega
  · show r.used + 1 ≤ s.n
    omega
end Go.Proofs.Ytdlbjilbdbjadaa
