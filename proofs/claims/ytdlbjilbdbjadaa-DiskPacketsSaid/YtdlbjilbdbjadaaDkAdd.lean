/- disk.Recorder.Add, where there is room. -/
import Derived.Test.YtdlbjilbdbjadaaDkRec
import Derived.Test.YtdlbjilbdbjadaaOwnO
import Derived.Test.YtdlbjilbdbjadaaPgBytes
set_option linter.unusedSimpArgs false
set_option linter.unusedVariables false
namespace Go.Proofs.Ytdlbjilbdbjadaa
open Go.RowKit

structure Rc where
  next : Nat
  used : Nat
  rest : List Int
structure RkM (w : World) (base gd gs ge gr : Nat) (vq vr : Value) (s : Dk) (r : Rc) : Prop where
  dk : DkM w base gd gs ge vq s
  br : Blk w gr 73 #[.pointer (some ⟨gd, 0, none⟩), .int .i64 (r.next : Int), .int .i64 (r.used : Int), vr]
  or_ : OwnO w base 5 .u8 vr r.rest
  byt : byteB r.rest
  nr : gr ≠ gd ∧ gr ≠ gs ∧ gr ≠ ge ∧ vq.ownBlock ≠ some gr
  nv : ∀ b, vr.ownBlock = some b → b ≠ gd ∧ b ≠ gs ∧ b ≠ ge ∧ b ≠ gr ∧ vq.ownBlock ≠ some b
  gb : base ≤ gr
  qb : s.qs.length ≤ r.used ∧ r.used ≤ s.n
  nb : r.next ≤ 1000000
def rkF (gd gs ge gr : Nat) (vq vr : Value) (b : Nat) : Prop := dkF gd gs ge vq b ∨ b = gr ∨ vr.ownBlock = some b
section
variable {w w' : World} {base gd gs ge gr : Nat} {vq vr : Value} {s : Dk} {r : Rc} {M : Nat → Prop}
theorem OwnO.mod {v : Value} {e : TypeId} {k : IntKind} {l : List Int} (h : OwnO w base e k v l) (hm : Mod M w w') (hv : ∀ b, v.ownBlock = some b → ¬ M b) : OwnO w' base e k v l := h.keep fun g hg => hm.block g (h.lt g hg).2 (hv g hg)
theorem RkM.keep (h : RkM w base gd gs ge gr vq vr s r) (hm : Mod M w w') (hM : ∀ b, rkF gd gs ge gr vq vr b → ¬ M b) : RkM w' base gd gs ge gr vq vr s r where
  dk := h.dk.keep hm (fun b hb => hM b (.inl hb))
  br := h.br.mod hm (hM _ (.inr (.inl rfl)))
  or_ := h.or_.mod hm (fun b hb => hM b (.inr (.inr hb)))
  byt := h.byt
  nr := h.nr
  nv := h.nv
  gb := h.gb
  qb := h.qb
  nb := h.nb
theorem RkM.below (h : RkM w base gd gs ge gr vq vr s r) (hb : Below w.heap.size w w') : RkM w' base gd gs ge gr vq vr s r := h.keep (M := fun _ => False) (Mod.of_fresh hb) (fun _ _ h => h)
theorem RkM.drewN (h : RkM w base gd gs ge gr vq vr s r) (n : Nat) : RkM (w.drewN n) base gd gs ge gr vq vr s r := h.keep (M := fun _ => False) ((Mod.refl _ _).drewN n) (fun _ _ h => h)
theorem RkM.lt (h : RkM w base gd gs ge gr vq vr s r) : ∀ b, rkF gd gs ge gr vq vr b → base ≤ b ∧ b < w.heap.size := fun b hb => by
  rcases hb with hb | rfl | hb
  · exact h.dk.lt b hb
  · exact ⟨h.gb, h.br.lt⟩
  · exact h.or_.lt b hb
theorem rnext_any (h : RkM w base gd gs ge gr vq vr s r) : Calls Try.prog 9 #[.pointer (some ⟨gr, 0, none⟩)] w fun e w' => e = .returned (.int .i64 (r.next : Int)) ∧ w = w' := by
  have c1 := h.br.cell 1
  go_enter Try.func9, Try.ntmps9
  go_wp2
  go_ret
  exact ⟨rfl, rfl⟩
end
def rkC (gd gs ge gr : Nat) (vq : Value) (b : Nat) : Prop := dkF gd gs ge vq b ∨ b = gr
set_option maxRecDepth 100000 in
theorem rput_any {w : World} {base gd gs ge gr : Nat} {vq vr : Value} {s : Dk} {r : Rc} (h : RkM w base gd gs ge gr vq vr s r) (hu : r.used < s.n) (A : Option Addr) (c : Nat) (b : List Int) (hb : b.length = 64) (hbb : byteB b) (hr : RdI w w.heap.size .u8 A b) :
    Calls Try.prog 33 #[.pointer (some ⟨gr, 0, none⟩), .slice A 64 c] w fun e w' => e = .returned (.tuple #[]) ∧ ∃ vq', RkM w' base gd gs ge gr vq' vr (s.write r.used b) ⟨r.next, r.used + 1, r.rest⟩ ∧ Mod (rkC gd gs ge gr vq) w w' ∧ (∀ x, vq'.ownBlock = some x → vq.ownBlock = some x ∨ w.heap.size ≤ x) := by
  have c0 := h.br.cell 0
  have c2 := h.br.cell 2
  have hn1 := h.dk.ok.n1
  have hqb := h.qb
  have HW := dwrite_any (w := w.drew) (h.dk.drewN 1) hu A c b hb hbb (by omega) hr
  rw [hb] at HW
  replace HW := Lib.hid HW
  have HR := Lib.hid h
  clear h hr
  go_enter Try.func33, Try.ntmps33
  go_wp2_with (fail)
  refine wp_still_tail 9 (by kernel_rfl) (by kernel_rfl) ?_
  simp only [List.take_succ_cons, List.take_zero, List.drop_succ_cons, List.drop_zero]
  repeat still_step
  refine wpStill_nil ?_
  go_upto_region 1 with (first
    | (go_at_call 20; (with_reducible refine HW.out.mono ?_); rintro e w2 ⟨rfl, vq', hD2, hm2, hq2⟩))
  have h := HR.out
  have hm2' : Mod (dkF gd gs ge vq) w w2 := ⟨hm2.os, hm2.tape, hm2.output, hm2.size, hm2.block⟩
  have hnF : ¬ dkF gd gs ge vq gr := fun e => by
    rcases e with e | e | e | e
    · exact h.nr.1 e
    · exact h.nr.2.1 e
    · exact h.nr.2.2.1 e
    · exact h.nr.2.2.2 e
  have hnV : ∀ b, vr.ownBlock = some b → ¬ dkF gd gs ge vq b := fun b hb e => by
    obtain ⟨a1, a2, a3, a4, a5⟩ := h.nv b hb
    rcases e with e | e | e | e
    · exact a1 e
    · exact a2 e
    · exact a3 e
    · exact a5 e
  have kb2 := h.br.mod hm2' hnF
  have or2 := h.or_.mod hm2' hnV
  have c2' := kb2.cell 2
  have f2' := kb2.frozen 2
  have hl1 := h.br.lt
  have hl2 := h.or_.lt
  clear c0 c2 h
  go_wp2
  go_end0
  have h := HR.out
  have hms : Mod (· = gr) w2 (w2.setCell ⟨gr, 2, none⟩ (.int .i64 ((r.used : Int) + 1))) := mod_put (Mod.refl _ _) (fun _ => rfl)
  have kb3 := kb2.set_ 2 (.int .i64 ((r.used : Int) + 1))
  refine ⟨rfl, vq', ⟨hD2.keep hms (fun b hb e => ?_), by simpa using kb3, or2.mod hms (fun b hb e => (h.nv b hb).2.2.2.1 e), h.byt, ⟨h.nr.1, h.nr.2.1, h.nr.2.2.1, fun e => ?_⟩, fun b hb => ⟨(h.nv b hb).1, (h.nv b hb).2.1, (h.nv b hb).2.2.1, (h.nv b hb).2.2.2.1, fun e => ?_⟩, h.gb, ⟨?_, ?_⟩, h.nb⟩, (hm2'.mono (fun b h _ => .inl h)).trans (M' := (· = gr)) hms (fun b h _ => .inr h), hq2⟩
  · have h9 : b = gr := e
    subst h9
    rcases hb with hb | hb | hb | hb
    · exact h.nr.1 hb
    · exact h.nr.2.1 hb
    · exact h.nr.2.2.1 hb
    · rcases hq2 _ hb with e | e
      · exact h.nr.2.2.2 e
      · have h8 : w.heap.size ≤ b := e
        omega
  · rcases hq2 _ e with e | e
    · exact h.nr.2.2.2 e
    · have h8 : w.heap.size ≤ gr := e
      omega
  · rcases hq2 _ e with e | e
    · exact (h.nv b hb).2.2.2.2 e
    · have h8 : w.heap.size ≤ b := e
      have := (hl2 b hb).2
      omega
  · simp [Dk.write]; omega
  · show r.used + 1 ≤ s.n
    omega
end Go.Proofs.Ytdlbjilbdbjadaa

namespace Go.Proofs.Ytdlbjilbdbjadaa
open Go.RowKit

/-- Whole sectors are written. -/
def drain : Nat → Dk → Nat → List Int → Dk × Nat × List Int
  | 0, s, u, l => (s, u, l)
  | k + 1, s, u, l => if 64 ≤ l.length then drain k (s.write u (l.take 64)) (u + 1) (l.drop 64) else (s, u, l)
def lenS : Value → Nat
  | .slice _ n _ => n
  | _ => 0
def lenC (w : World) (a : Addr) : Nat := match w.cell? a with | some (.slice _ n _) => n | _ => 0
theorem lenC_is {w : World} {a : Addr} {A : Option Addr} {n c : Nat} (h : w.cell? a = some (.slice A n c)) : lenC w a = n := by rw [lenC, h]
theorem RkM.setRest {w w' : World} {base gd gs ge gr : Nat} {vq vr v' : Value} {s : Dk} {r : Rc} {l' : List Int} (h : RkM w base gd gs ge gr vq vr s r) (hm : Mod (fun b => vr.ownBlock = some b) w w') (ho : OwnO w' base 5 .u8 v' l') (hb : byteB l') (hv : ∀ b, v'.ownBlock = some b → vr.ownBlock = some b ∨ w.heap.size ≤ b) :
    RkM (w'.setCell ⟨gr, 3, none⟩ v') base gd gs ge gr vq v' s ⟨r.next, r.used, l'⟩ := by
  have hms : Mod (· = gr) w' (w'.setCell ⟨gr, 3, none⟩ v') := mod_put (Mod.refl _ _) (fun _ => rfl)
  have hdl := h.dk.lt
  have hgl := h.br.lt
  have hnd : ∀ b, dkF gd gs ge vq b → ¬ vr.ownBlock = some b := fun b hb e => by
    obtain ⟨a1, a2, a3, a4, a5⟩ := h.nv b e
    rcases hb with hb | hb | hb | hb
    · exact a1 hb
    · exact a2 hb
    · exact a3 hb
    · exact a5 hb
  have hgd : ∀ b, dkF gd gs ge vq b → ¬ b = gr := fun b hb e => by
    subst e
    rcases hb with hb | hb | hb | hb
    · exact h.nr.1 hb
    · exact h.nr.2.1 hb
    · exact h.nr.2.2.1 hb
    · exact h.nr.2.2.2 hb
  have hvg : ∀ b, v'.ownBlock = some b → ¬ b = gr := fun b hb' e => by
    rcases hv b hb' with hv | hv
    · exact (h.nv b hv).2.2.2.1 e
    · omega
  refine ⟨(h.dk.keep hm hnd).keep hms hgd, ?_, ho.mod hms hvg, hb, h.nr, fun b hb' => ?_, h.gb, h.qb, h.nb⟩
  · have := (h.br.mod hm (fun e => (h.nv gr e).2.2.2.1 rfl)).set_ 3 v'
    simpa using this
  · rcases hv b hb' with hv | hv
    · exact h.nv b hv
    · have d1 := hdl gd (.inl rfl)
      have d2 := hdl gs (.inr (.inl rfl))
      have d3 := hdl ge (.inr (.inr (.inl rfl)))
      exact ⟨by omega, by omega, by omega, by omega, fun e => by have := (hdl b (.inr (.inr (.inr e)))).2; omega⟩
theorem write_n (s : Dk) (N : Nat) (b : List Int) : (s.write N b).n = s.n := rfl
set_option maxHeartbeats 4000000 in
set_option maxRecDepth 100000 in
theorem radd_any {w : World} {base gd gs ge gr : Nat} {vq vr : Value} {s : Dk} {r : Rc} (h : RkM w base gd gs ge gr vq vr s r) (p : Pg) (A : Option Addr) (c : Nat) (hw : p.wf) (hr : RdI w w.heap.size .u8 A p.body) (hE : pgE p = 0) (hg : p.guard = false) (hs : p.seq = (r.next : Int)) (hn : r.next < 1000000)
    (hsp : r.used * 64 + r.rest.length + (pgBytes p).length ≤ s.n * 64) (hpl : (pgBytes p).length ≤ 300) (hrl : r.rest.length ≤ 300) (hbb : byteB (pgBytes p)) :
    Calls Try.prog 12 #[.pointer (some ⟨gr, 0, none⟩), p.val A c] w fun e w' => e = .returned (.int .i64 0) ∧ ∃ vq' vr' s' u' l', drain ((r.rest ++ pgBytes p).length / 64) s r.used (r.rest ++ pgBytes p) = (s', u', l') ∧ RkM w' base gd gs ge gr vq' vr' s' ⟨r.next + 1, u', l'⟩ ∧ l'.length < 64 ∧
      Mod (rkF gd gs ge gr vq vr) w w' ∧ (∀ x, rkF gd gs ge gr vq' vr' x → rkF gd gs ge gr vq vr x ∨ w.heap.size ≤ x) := by
  have HB := pgbytes_any p A c hw
  have hPB : pgB p = pgBytes p := by rw [pgB, if_pos hE]
  rw [hE, hPB] at HB
  generalize pgBytes p = pb at *
  obtain ⟨p1, p2, p3, p4, p5⟩ := p
  simp only at hs hg hr
  subst hg hs
  simp only [Pg.val] at HB
  simp only [Pg.val]
  have kx := Blk.new w 38 #[.int .i64 (r.next : Int), .bool p2, .bool p3, .bool false, .slice A p5.length c]
  have bx := below_alloc (Below.refl w.heap.size w) (.cells #[.int .i64 (r.next : Int), .bool p2, .bool p3, .bool false, .slice A p5.length c] 38)
  have hrx := (hr.alloc (Nat.le_refl _) (.cells #[.int .i64 (r.next : Int), .bool p2, .bool p3, .bool false, .slice A p5.length c] 38)).more bx.size
  have HR := Lib.hid h
  clear hPB hE hr h
  go_enter Try.func12, Try.ntmps12
  go_upto_region 1 with (fail)
  generalize w.alloc (.cells #[.int .i64 (r.next : Int), .bool p2, .bool p3, .bool false, .slice A p5.length c] 38) = wx at *
  have HBx := Lib.hid (HB wx hrx)
  have x0 := kx.cell 0
  have x1 := kx.cell 1
  have x2 := kx.cell 2
  have x3 := kx.cell 3
  have x4 := kx.cell 4
  clear HB
  go_upto_region 2 with (first
    | (go_at_call 31; (with_reducible refine HBx.out.mono ?_); rintro e w2 ⟨v2, rfl, ho2, hb2⟩; obtain ⟨A2, cp2, rfl, hc2, hr2, hoo2⟩ := ho2.form))
  have bb2 := below_then bx hb2
  have hRk2 := HR.out.below bb2
  have kx2 := kx.below hb2 kx.lt
  clear x0 x1 x2 x3 x4
  have x0 := kx2.cell 0
  have x3 := kx2.cell 3
  have c1 := hRk2.br.cell 1
  go_wp2_with (fail)
  go_quiet (fail)
  have hRk := hRk2.drewN nq
  have bbq : Below w.heap.size w (w2.drewN nq) := below_drewN bb2 nq
  have hr2q : RdI (w2.drewN nq) (w2.drewN nq).heap.size .u8 A2 pb := hr2
  clear x0 x3 c1 kx2 hRk2 bb2 hr2 ho2 hb2 kx bx hrx HBx
  generalize w2.drewN nq = wq at *
  have HRk := Lib.hid hRk
  obtain ⟨Ar, cr, hvr, hcr, hrr⟩ := hRk.or_.form
  subst hvr
  have c0 := hRk.br.cell 0
  have c1 := hRk.br.cell 1
  have c2 := hRk.br.cell 2
  have c3 := hRk.br.cell 3
  have hn1 := hRk.dk.ok.n1
  have hqb := hRk.qb
  have HLen := Lib.hid (fun W (hW : Below wq.heap.size wq W) => dlen_any (hRk.dk.below hW))
  have a1 : IntKind.i64.wrap ((r.used : Int) * 64) = (r.used : Int) * 64 := IntWalk.i64_in _ (by omega)
  have a2 : IntKind.i64.wrap ((r.used : Int) * 64 + (r.rest.length : Int)) = (r.used : Int) * 64 + (r.rest.length : Int) := IntWalk.i64_in _ (by omega)
  have a3 : IntKind.i64.wrap ((r.used : Int) * 64 + (r.rest.length : Int) + (pb.length : Int)) = (r.used : Int) * 64 + (r.rest.length : Int) + (pb.length : Int) := IntWalk.i64_in _ (by omega)
  have a4 : IntKind.i64.wrap ((s.n : Int) * 64) = (s.n : Int) * 64 := IntWalk.i64_in _ (by omega)
  have a5 : decide ((s.n : Int) * 64 < (r.used : Int) * 64 + (r.rest.length : Int) + (pb.length : Int)) = false := decide_eq_false (by omega)
  clear hRk
  go_wp2_with (fail)
  refine wp_region_held_drew (S := (fun w' => Below wq.heap.size wq w')) (by kernel_rfl) ?_ (fun hHeld => ?_)
  focus exact (Below.refl _ _).drew
  refine wpAnyH_take (i := 0) (v := ?_) rfl (by kernel_rfl) (by kernel_rfl) (by kernel_rfl) (fun _ _ _ h => h) (Or.inl ⟨by kernel_rfl, ?_⟩) (by assumption) ?_
  rotate_left
  focus
    intro w9 hSw
    (try dsimp only at hSw)
    have zK : ∀ {a9 : Addr} {u9 : Value}, wq.cell? a9 = some u9 → w9.cell? a9 = some u9 := fun {a9} {u9} h9 => (hSw.cell (World.block_lt_of_cell? wq a9 h9)).trans h9
    have z0 := zK c2
    have z1 := zK c3
    have z2 := zK c0
    clear zK hSw
    go_simp
    (try with_reducible rfl)
  (try simp only [Act.put, List.getElem_toArray, List.getElem_cons_succ, List.getElem_cons_zero, List.setIfInBounds_toArray, List.set_cons_zero, List.set_cons_succ])
  refine wpAnyH_take (i := 1) (v := ?_) rfl (by kernel_rfl) (by kernel_rfl) (by kernel_rfl) (fun _ _ _ h => h) (Or.inl ⟨by kernel_rfl, ?_⟩) (by assumption) ?_
  rotate_left
  focus
    intro w9 hSw
    (try dsimp only at hSw)
    have zK : ∀ {a9 : Addr} {u9 : Value}, wq.cell? a9 = some u9 → w9.cell? a9 = some u9 := fun {a9} {u9} h9 => (hSw.cell (World.block_lt_of_cell? wq a9 h9)).trans h9
    have z0 := zK c2
    have z1 := zK c3
    have z2 := zK c0
    clear zK hSw
    go_simp
    (try with_reducible rfl)
  (try simp only [Act.put, List.getElem_toArray, List.getElem_cons_succ, List.getElem_cons_zero, List.setIfInBounds_toArray, List.set_cons_zero, List.set_cons_succ])
  refine wpAnyH_take (i := 2) (v := ?_) rfl (by kernel_rfl) (by kernel_rfl) (by kernel_rfl) (fun _ _ _ h => h) (Or.inl ⟨by kernel_rfl, ?_⟩) (by assumption) ?_
  rotate_left
  focus
    intro w9 hSw
    (try dsimp only at hSw)
    have zK : ∀ {a9 : Addr} {u9 : Value}, wq.cell? a9 = some u9 → w9.cell? a9 = some u9 := fun {a9} {u9} h9 => (hSw.cell (World.block_lt_of_cell? wq a9 h9)).trans h9
    have z0 := zK c2
    have z1 := zK c3
    have z2 := zK c0
    clear zK hSw
    go_simp
    (try with_reducible rfl)
  (try simp only [Act.put, List.getElem_toArray, List.getElem_cons_succ, List.getElem_cons_zero, List.setIfInBounds_toArray, List.set_cons_zero, List.set_cons_succ])
  refine wpAnyH_take (i := 3) (v := ?_) rfl (by kernel_rfl) (by kernel_rfl) (by kernel_rfl) (fun _ _ _ h => h) (Or.inl ⟨by kernel_rfl, ?_⟩) (by assumption) ?_
  rotate_left
  focus
    intro w9 hSw
    (try dsimp only at hSw)
    have zK : ∀ {a9 : Addr} {u9 : Value}, wq.cell? a9 = some u9 → w9.cell? a9 = some u9 := fun {a9} {u9} h9 => (hSw.cell (World.block_lt_of_cell? wq a9 h9)).trans h9
    have z0 := zK c2
    have z1 := zK c3
    have z2 := zK c0
    clear zK hSw
    go_simp
    (try with_reducible rfl)
  (try simp only [Act.put, List.getElem_toArray, List.getElem_cons_succ, List.getElem_cons_zero, List.setIfInBounds_toArray, List.set_cons_zero, List.set_cons_succ])
  refine wpAnyH_take (i := 4) (v := ?_) rfl (by kernel_rfl) (by kernel_rfl) (by kernel_rfl) (fun _ _ _ h => h) (Or.inl ⟨by kernel_rfl, ?_⟩) (by assumption) ?_
  rotate_left
  focus
    intro w9 hSw
    (try dsimp only at hSw)
    have zK : ∀ {a9 : Addr} {u9 : Value}, wq.cell? a9 = some u9 → w9.cell? a9 = some u9 := fun {a9} {u9} h9 => (hSw.cell (World.block_lt_of_cell? wq a9 h9)).trans h9
    have z0 := zK c2
    have z1 := zK c3
    have z2 := zK c0
    clear zK hSw
    go_simp
    (try with_reducible rfl)
  (try simp only [Act.put, List.getElem_toArray, List.getElem_cons_succ, List.getElem_cons_zero, List.setIfInBounds_toArray, List.set_cons_zero, List.set_cons_succ])
  refine wpAnyH_take (i := 5) (v := ?_) rfl (by kernel_rfl) (by kernel_rfl) (by kernel_rfl) (fun _ _ _ h => h) (Or.inl ⟨by kernel_rfl, ?_⟩) (by assumption) ?_
  rotate_left
  focus
    intro w9 hSw
    (try dsimp only at hSw)
    have zK : ∀ {a9 : Addr} {u9 : Value}, wq.cell? a9 = some u9 → w9.cell? a9 = some u9 := fun {a9} {u9} h9 => (hSw.cell (World.block_lt_of_cell? wq a9 h9)).trans h9
    have z0 := zK c2
    have z1 := zK c3
    have z2 := zK c0
    clear zK hSw
    go_simp
    (try with_reducible rfl)
  (try simp only [Act.put, List.getElem_toArray, List.getElem_cons_succ, List.getElem_cons_zero, List.setIfInBounds_toArray, List.set_cons_zero, List.set_cons_succ])
  refine wpAnyH_take (i := 6) (v := ?_) rfl (by kernel_rfl) (by kernel_rfl) (by kernel_rfl) (fun _ _ _ h => h) (Or.inl ⟨by kernel_rfl, ?_⟩) (by assumption) ?_
  rotate_left
  focus
    intro w9 hSw
    (try dsimp only at hSw)
    have zK : ∀ {a9 : Addr} {u9 : Value}, wq.cell? a9 = some u9 → w9.cell? a9 = some u9 := fun {a9} {u9} h9 => (hSw.cell (World.block_lt_of_cell? wq a9 h9)).trans h9
    have z0 := zK c2
    have z1 := zK c3
    have z2 := zK c0
    clear zK hSw
    go_simp
    (try with_reducible rfl)
  (try simp only [Act.put, List.getElem_toArray, List.getElem_cons_succ, List.getElem_cons_zero, List.setIfInBounds_toArray, List.set_cons_zero, List.set_cons_succ])
  refine wpAnyH_take (i := 7) (v := ?_) rfl (by kernel_rfl) (by kernel_rfl) (by kernel_rfl) (fun _ _ _ h => h) (Or.inl ⟨by kernel_rfl, ?_⟩) (by assumption) ?_
  rotate_left
  focus
    intro w9 hSw
    (try dsimp only at hSw)
    have zK : ∀ {a9 : Addr} {u9 : Value}, wq.cell? a9 = some u9 → w9.cell? a9 = some u9 := fun {a9} {u9} h9 => (hSw.cell (World.block_lt_of_cell? wq a9 h9)).trans h9
    have z0 := zK c2
    have z1 := zK c3
    have z2 := zK c0
    clear zK hSw
    go_simp
    (try with_reducible rfl)
  (try simp only [Act.put, List.getElem_toArray, List.getElem_cons_succ, List.getElem_cons_zero, List.setIfInBounds_toArray, List.set_cons_zero, List.set_cons_succ])
  refine wpAnyH_take (i := 8) (v := ?_) rfl (by kernel_rfl) (by kernel_rfl) (by kernel_rfl) (fun _ _ _ h => h) (Or.inl ⟨by kernel_rfl, ?_⟩) (by assumption) ?_
  rotate_left
  focus
    intro w9 hSw
    (try dsimp only at hSw)
    have zK : ∀ {a9 : Addr} {u9 : Value}, wq.cell? a9 = some u9 → w9.cell? a9 = some u9 := fun {a9} {u9} h9 => (hSw.cell (World.block_lt_of_cell? wq a9 h9)).trans h9
    have z0 := zK c2
    have z1 := zK c3
    have z2 := zK c0
    clear zK hSw
    go_simp
    (try with_reducible rfl)
  (try simp only [Act.put, List.getElem_toArray, List.getElem_cons_succ, List.getElem_cons_zero, List.setIfInBounds_toArray, List.set_cons_zero, List.set_cons_succ])
  refine wpAnyH_take (i := 9) (v := ?_) rfl (by kernel_rfl) (by kernel_rfl) (by kernel_rfl) (fun _ _ _ h => h) (Or.inl ⟨by kernel_rfl, ?_⟩) (by assumption) ?_
  rotate_left
  focus
    intro w9 hSw
    (try dsimp only at hSw)
    have zK : ∀ {a9 : Addr} {u9 : Value}, wq.cell? a9 = some u9 → w9.cell? a9 = some u9 := fun {a9} {u9} h9 => (hSw.cell (World.block_lt_of_cell? wq a9 h9)).trans h9
    have z0 := zK c2
    have z1 := zK c3
    have z2 := zK c0
    clear zK hSw
    go_simp
    (try with_reducible rfl)
  (try simp only [Act.put, List.getElem_toArray, List.getElem_cons_succ, List.getElem_cons_zero, List.setIfInBounds_toArray, List.set_cons_zero, List.set_cons_succ])
  refine wpAnyH_take (i := 10) (v := ?_) rfl (by kernel_rfl) (by kernel_rfl) (by kernel_rfl) (fun _ _ _ h => h) (Or.inl ⟨by kernel_rfl, ?_⟩) (by assumption) ?_
  rotate_left
  focus
    intro w9 hSw
    (try dsimp only at hSw)
    have zK : ∀ {a9 : Addr} {u9 : Value}, wq.cell? a9 = some u9 → w9.cell? a9 = some u9 := fun {a9} {u9} h9 => (hSw.cell (World.block_lt_of_cell? wq a9 h9)).trans h9
    have z0 := zK c2
    have z1 := zK c3
    have z2 := zK c0
    clear zK hSw
    go_simp
    (try with_reducible rfl)
  (try simp only [Act.put, List.getElem_toArray, List.getElem_cons_succ, List.getElem_cons_zero, List.setIfInBounds_toArray, List.set_cons_zero, List.set_cons_succ])
  refine wpAnyH_take (i := 11) (v := ?_) rfl (by kernel_rfl) (by kernel_rfl) (by kernel_rfl) (fun _ _ _ h => h) (Or.inl ⟨by kernel_rfl, ?_⟩) (by assumption) ?_
  rotate_left
  focus
    intro w9 hSw
    (try dsimp only at hSw)
    have zK : ∀ {a9 : Addr} {u9 : Value}, wq.cell? a9 = some u9 → w9.cell? a9 = some u9 := fun {a9} {u9} h9 => (hSw.cell (World.block_lt_of_cell? wq a9 h9)).trans h9
    have z0 := zK c2
    have z1 := zK c3
    have z2 := zK c0
    clear zK hSw
    go_simp
    (try with_reducible rfl)
  (try simp only [Act.put, List.getElem_toArray, List.getElem_cons_succ, List.getElem_cons_zero, List.setIfInBounds_toArray, List.set_cons_zero, List.set_cons_succ])
  refine wpAnyH_take (i := 12) (v := ?_) rfl (by kernel_rfl) (by kernel_rfl) (by kernel_rfl) (fun _ _ _ h => h) (Or.inl ⟨by kernel_rfl, ?_⟩) (by assumption) ?_
  rotate_left
  focus
    intro w9 hSw
    (try dsimp only at hSw)
    have zK : ∀ {a9 : Addr} {u9 : Value}, wq.cell? a9 = some u9 → w9.cell? a9 = some u9 := fun {a9} {u9} h9 => (hSw.cell (World.block_lt_of_cell? wq a9 h9)).trans h9
    have z0 := zK c2
    have z1 := zK c3
    have z2 := zK c0
    clear zK hSw
    go_simp
    (try with_reducible rfl)
  (try simp only [Act.put, List.getElem_toArray, List.getElem_cons_succ, List.getElem_cons_zero, List.setIfInBounds_toArray, List.set_cons_zero, List.set_cons_succ])
  refine wpAnyH_take (i := 13) (v := ?_) rfl (by kernel_rfl) (by kernel_rfl) (by kernel_rfl) (fun _ _ _ h => h) (Or.inl ⟨by kernel_rfl, ?_⟩) (by assumption) ?_
  rotate_left
  focus
    intro w9 hSw
    (try dsimp only at hSw)
    have zK : ∀ {a9 : Addr} {u9 : Value}, wq.cell? a9 = some u9 → w9.cell? a9 = some u9 := fun {a9} {u9} h9 => (hSw.cell (World.block_lt_of_cell? wq a9 h9)).trans h9
    have z0 := zK c2
    have z1 := zK c3
    have z2 := zK c0
    clear zK hSw
    go_simp
    (try with_reducible rfl)
  (try simp only [Act.put, List.getElem_toArray, List.getElem_cons_succ, List.getElem_cons_zero, List.setIfInBounds_toArray, List.set_cons_zero, List.set_cons_succ])
  refine wpAnyH_take (i := 14) (v := ?_) rfl (by kernel_rfl) (by kernel_rfl) (by kernel_rfl) (fun _ _ _ h => h) (Or.inl ⟨by kernel_rfl, ?_⟩) (by assumption) ?_
  rotate_left
  focus
    intro w9 hSw
    (try dsimp only at hSw)
    have zK : ∀ {a9 : Addr} {u9 : Value}, wq.cell? a9 = some u9 → w9.cell? a9 = some u9 := fun {a9} {u9} h9 => (hSw.cell (World.block_lt_of_cell? wq a9 h9)).trans h9
    have z0 := zK c2
    have z1 := zK c3
    have z2 := zK c0
    clear zK hSw
    go_simp
    (try with_reducible rfl)
  (try simp only [Act.put, List.getElem_toArray, List.getElem_cons_succ, List.getElem_cons_zero, List.setIfInBounds_toArray, List.set_cons_zero, List.set_cons_succ])
  refine wpAnyH_take (i := 15) (v := ?_) rfl (by kernel_rfl) (by kernel_rfl) (by kernel_rfl) (fun _ _ _ h => h) (Or.inl ⟨by kernel_rfl, ?_⟩) (by assumption) ?_
  rotate_left
  focus
    intro w9 hSw
    (try dsimp only at hSw)
    have zK : ∀ {a9 : Addr} {u9 : Value}, wq.cell? a9 = some u9 → w9.cell? a9 = some u9 := fun {a9} {u9} h9 => (hSw.cell (World.block_lt_of_cell? wq a9 h9)).trans h9
    have z0 := zK c2
    have z1 := zK c3
    have z2 := zK c0
    clear zK hSw
    go_simp
    (try with_reducible rfl)
  (try simp only [Act.put, List.getElem_toArray, List.getElem_cons_succ, List.getElem_cons_zero, List.setIfInBounds_toArray, List.set_cons_zero, List.set_cons_succ])
  refine wpAnyH_take (i := 16) (v := ?_) rfl (by kernel_rfl) (by kernel_rfl) (by kernel_rfl) (fun _ _ _ h => h) (Or.inl ⟨by kernel_rfl, ?_⟩) (by assumption) ?_
  rotate_left
  focus
    intro w9 hSw
    (try dsimp only at hSw)
    have zK : ∀ {a9 : Addr} {u9 : Value}, wq.cell? a9 = some u9 → w9.cell? a9 = some u9 := fun {a9} {u9} h9 => (hSw.cell (World.block_lt_of_cell? wq a9 h9)).trans h9
    have z0 := zK c2
    have z1 := zK c3
    have z2 := zK c0
    clear zK hSw
    go_simp
    (try with_reducible rfl)
  (try simp only [Act.put, List.getElem_toArray, List.getElem_cons_succ, List.getElem_cons_zero, List.setIfInBounds_toArray, List.set_cons_zero, List.set_cons_succ])
  refine wpAnyH_take (i := 17) (v := ?_) rfl (by kernel_rfl) (by kernel_rfl) (by kernel_rfl) (fun _ _ _ h => h) (Or.inl ⟨by kernel_rfl, ?_⟩) (by assumption) ?_
  rotate_left
  focus
    intro w9 hSw
    (try dsimp only at hSw)
    have zK : ∀ {a9 : Addr} {u9 : Value}, wq.cell? a9 = some u9 → w9.cell? a9 = some u9 := fun {a9} {u9} h9 => (hSw.cell (World.block_lt_of_cell? wq a9 h9)).trans h9
    have z0 := zK c2
    have z1 := zK c3
    have z2 := zK c0
    clear zK hSw
    go_simp
    (try with_reducible rfl)
  (try simp only [Act.put, List.getElem_toArray, List.getElem_cons_succ, List.getElem_cons_zero, List.setIfInBounds_toArray, List.set_cons_zero, List.set_cons_succ])
  refine wpAnyH_ready (rs := [18]) (by kernel_rfl) (by simp) (AllReadyH.cons rfl (fun K hK => ?_) AllReadyH.nil)
  go_simp
  go_at_call 32
  with_reducible refine (HLen.out _ (Below.refl _ _).drew).mono ?_
  rintro e w5 ⟨rfl, rfl⟩
  refine hK.out _ _ ?_ (fun hHeld => ?_)
  focus exact (Below.refl _ _).drew
  clear hK K
  (try simp only [Act.put, List.getElem_toArray, List.getElem_cons_succ, List.getElem_cons_zero, List.setIfInBounds_toArray, List.set_cons_zero, List.set_cons_succ])
  refine wpAnyH_take (i := 19) (v := ?_) rfl (by kernel_rfl) (by kernel_rfl) (by kernel_rfl) (fun _ _ _ h => h) (Or.inl ⟨by kernel_rfl, ?_⟩) (by assumption) ?_
  rotate_left
  focus
    intro w9 hSw
    (try dsimp only at hSw)
    go_simp
    (try with_reducible rfl)
  (try simp only [Act.put, List.getElem_toArray, List.getElem_cons_succ, List.getElem_cons_zero, List.setIfInBounds_toArray, List.set_cons_zero, List.set_cons_succ])
  refine wpAnyH_take (i := 20) (v := ?_) rfl (by kernel_rfl) (by kernel_rfl) (by kernel_rfl) (fun _ _ _ h => h) (Or.inl ⟨by kernel_rfl, ?_⟩) (by assumption) ?_
  rotate_left
  focus
    intro w9 hSw
    (try dsimp only at hSw)
    go_simp
    (try with_reducible rfl)
  (try simp only [Act.put, List.getElem_toArray, List.getElem_cons_succ, List.getElem_cons_zero, List.setIfInBounds_toArray, List.set_cons_zero, List.set_cons_succ])
  refine wpAnyH_done (by kernel_rfl) ?_ _
  (try simp only [Act.put, List.getElem_toArray, List.getElem_cons_succ, List.getElem_cons_zero, List.setIfInBounds_toArray, List.set_cons_zero, List.set_cons_succ])
  have HRk6 := Lib.hid (HRk.out.drewN 1)
  have bb6 : Below w.heap.size w wq.drew := bbq.drew
  have hr6 : RdI wq.drew wq.drew.heap.size .u8 A2 pb := hr2q
  have HRk6' : Hid (RkM wq.drew base gd gs ge gr vq (.slice Ar r.rest.length cr) s r) := HRk6
  clear c0 c1 c2 c3 a1 a2 a3 a4 a5 hHeld HRk HRk6 HLen hrr hr2q bbq
  go_upto_region 6 with (fail)
  generalize wq.drew = w6 at *
  have k6 := HRk6'.out.br
  have c3 := k6.cell 3
  go_upto_region 7 with (first
    | (at_builtin; (refine wpList_append_O _ rfl (.tmp 52) (.tmp 53) _ rfl base 5 .u8 1 Try.underlying36 info_u8 (.slice Ar r.rest.length cr) r.rest rfl HRk6'.out.or_ w6.heap.size A2 pb.length cp2 pb rfl rfl hr6 (by omega) (by omega) HRk6'.out.dk.ge_.2.2.2 ?_); intro v7 w7 ow7 hg7 hv7; have hM7 := Mod.of_grown (M := fun b => (Value.slice Ar r.rest.length cr).ownBlock = some b) hg7 (fun g e _ => e); have k7 := k6.mod hM7 (fun e => (HRk6'.out.nv gr e).2.2.2.1 rfl); have c3b := k7.cell 3; have f3b := k7.frozen 3; obtain ⟨A7, c7, rfl, hc7, _⟩ := ow7.form))
  have hR8 := HRk6'.out.setRest hM7 ow7 (HRk6'.out.byt.append hbb) (fun b hb => by
    rcases hv7 with e | e
    · exact .inl (e ▸ hb)
    · exact .inr (e b hb))
  have hms8 : Mod (· = gr) w7 (w7.setCell ⟨gr, 3, none⟩ (.slice A7 (r.rest ++ pb).length c7)) := mod_put (Mod.refl _ _) (fun _ => rfl)
  have hm8 : Mod (rkF gd gs ge gr vq (.slice Ar r.rest.length cr)) w (w7.setCell ⟨gr, 3, none⟩ (.slice A7 (r.rest ++ pb).length c7)) := ((Mod.of_fresh (M := rkF gd gs ge gr vq (.slice Ar r.rest.length cr)) bb6).trans (M' := fun b => (Value.slice Ar r.rest.length cr).ownBlock = some b) hM7 (fun b h _ => .inr (.inr h))).trans (M' := (· = gr)) hms8 (fun b h _ => .inr (.inl h))
  have hs6 := bb6.size
  have hv7' : ∀ b, (Value.slice A7 (r.rest ++ pb).length c7).ownBlock = some b → (Value.slice Ar r.rest.length cr).ownBlock = some b ∨ w.heap.size ≤ b := fun b hb => by
    rcases hv7 with e | e
    · exact .inl (by rw [← e]; exact hb)
    · have := e b hb
      exact .inr (by omega)
  simp only [List.length_append] at hR8 hm8 hv7' hms8 ow7 hv7
  (try simp only [List.length_append])
  have hLl : (r.rest ++ pb).length = r.rest.length + pb.length := List.length_append
  clear ow7 hv7 hms8 hc7 k7 c3b f3b
  generalize hLe : r.rest ++ pb = L at *
  replace hLe := Lib.hid hLe
  generalize w7.setCell ⟨gr, 3, none⟩ (.slice A7 (r.rest.length + pb.length) c7) = w8 at *
  have HR8 := Lib.hid hR8
  have HM8 := Lib.hid hm8
  have HV7 := Lib.hid hv7'
  have HLl := Lib.hid hLl
  clear hM7 hg7 hR8 hm8 hv7' hLl k6 c3 hr6
  go_loopw [] (fun wr => ∃ (k u' : Nat) (s' : Dk) (l' : List Int) (vq' vr' : Value), drain k s' u' l' = drain (L.length / 64) s r.used L ∧ l'.length / 64 = k ∧ RkM wr base gd gs ge gr vq' vr' s' ⟨r.next, u', l'⟩ ∧ s'.n = s.n ∧ u' * 64 + l'.length ≤ s.n * 64 ∧ l'.length ≤ 600 ∧
      Mod (rkF gd gs ge gr vq (.slice Ar r.rest.length cr)) w wr ∧ (∀ x, rkF gd gs ge gr vq' vr' x → rkF gd gs ge gr vq (.slice Ar r.rest.length cr) x ∨ w.heap.size ≤ x)) (fun wr => lenC wr ⟨gr, 3, none⟩)
  case atStart => exact ⟨_, r.used, s, L, vq, _, rfl, rfl, HR8.out, rfl, by have := HLl.out; omega, by have := HLl.out; omega, HM8.out, fun x hx => by
    rcases hx with hx | hx | hx
    · exact .inl (.inl hx)
    · exact .inl (.inr (.inl hx))
    · rcases HV7.out x hx with h | h
      · exact .inl (.inr (.inr h))
      · exact .inr h⟩
  case round =>
    obtain ⟨k, u', s', l', vq', vr', hdr, hk, hR, hsn, hsp', hl6, hm, hF⟩ := hrel
    obtain ⟨Al, cl, rfl, hcl, hrl'⟩ := hR.or_.form
    have c3 := hR.br.cell 3
    have hlC := lenC_is c3
    by_cases h64 : 64 ≤ l'.length
    · obtain ⟨A1, hrunh, hr1, _⟩ := hrl'.slice_h Try.underlying36 info_u8 (hh := 64) (c := cl) h64 hcl
      rw [show ((64 : Nat) : Int) = 64 from rfl] at hrunh
      have hl64 : (l'.take 64).length = 64 := by rw [List.length_take]; omega
      have hPut := rput_any hR (by rw [hsn]; show u' < s.n; omega) A1 cl (l'.take 64) hl64 (fun x hx => hR.byt x (List.mem_of_mem_take hx)) hr1
      obtain ⟨k1, rfl⟩ : ∃ k1, k = k1 + 1 := ⟨k - 1, by omega⟩
      rw [drain, if_pos h64] at hdr
      have hk1 : (l'.drop 64).length / 64 = k1 := by rw [List.length_drop]; omega
      have hls : ∀ b, (Value.slice Al l'.length cl).ownBlock = some b → b ≠ gr := fun b hb => (hR.nv b hb).2.2.2.1
      have hPut := Lib.hid hPut
      have hdr := Lib.hid hdr
      have hk1 := Lib.hid hk1
      have hl64 := Lib.hid hl64
      have hHR := Lib.hid hR
      have hHlC := Lib.hid hlC
      have hsw := hm.size
      clear hk hr1 hrl' hR hlC
      go_upto_region 9 with (first
        | (go_at_call 33; (with_reducible refine hPut.out.mono ?_); rintro e w9 ⟨rfl, vq9, hR9, hm9, hq9⟩))
      have c9 := hR9.br.cell 3
      have f9 := hR9.br.frozen 3
      obtain ⟨v10, hrunc, ho10, hvb⟩ := OwnO.cut (P := Try.prog) Try.underlying36 info_u8 hR9.or_ (n := 64) h64
      rw [show ((64 : Nat) : Int) = 64 from rfl] at hrunc
      obtain ⟨A10, c10, rfl, hc10, _⟩ := ho10.form
      have hHo := Lib.hid ho10
      have hHR9 := Lib.hid hR9
      clear hrunh c3
      go_wp2_with (fail)
      have hR11 := hHR9.out.setRest (Mod.refl _ _) hHo.out (fun x hx => hHR.out.byt x (List.mem_of_mem_drop hx)) (fun b hb => .inl (by rw [← hvb]; exact hb))
      have c11 := hR11.br.cell 3
      have hC11 := lenC_is c11
      have hms11 : Mod (· = gr) w9 (w9.setCell ⟨gr, 3, none⟩ (.slice A10 (l'.drop 64).length c10)) := mod_put (Mod.refl _ _) (fun _ => rfl)
      have hdl : (l'.drop 64).length = l'.length - 64 := List.length_drop
      have hm9' : Mod (rkF gd gs ge gr vq (.slice Ar r.rest.length cr)) w w9 := hm.trans (M' := rkC gd gs ge gr vq') hm9 (fun b h hb => by
        have h1 : rkF gd gs ge gr vq' (.slice Al l'.length cl) b := by
          rcases h with h | h
          · exact .inl h
          · exact .inr (.inl h)
        rcases hF b h1 with h | h
        · exact h
        · omega)
      have hm11 := hm9'.trans (M' := (· = gr)) hms11 (fun b h _ => .inr (.inl h))
      have hF11 : ∀ x, rkF gd gs ge gr vq9 (.slice A10 (l'.drop 64).length c10) x → rkF gd gs ge gr vq (.slice Ar r.rest.length cr) x ∨ w.heap.size ≤ x := fun x hx => by
        rcases hx with (hx | hx | hx | hx) | hx | hx
        · exact .inl (.inl (.inl hx))
        · exact .inl (.inl (.inr (.inl hx)))
        · exact .inl (.inl (.inr (.inr (.inl hx))))
        · rcases hq9 x hx with h | h
          · exact hF x (.inl (.inr (.inr (.inr h))))
          · exact .inr (by omega)
        · exact .inl (.inr (.inl hx))
        · exact hF x (.inr (.inr (by rw [← hvb]; exact hx)))
      (try simp only [hdl] at hR11 hC11 hm11 hms11 hF11)
      go_roundw
      case rel => exact ⟨k1, u' + 1, _, l'.drop 64, vq9, _, hdr.out, hk1.out, hR11, hsn, by omega, by omega, hm11, hF11⟩
      case measure => rw [hC11, hHlC.out]; omega
    · have hk0 : k = 0 := by omega
      subst hk0
      rw [drain] at hdr
      have c1 := hR.br.cell 1
      have f1 := hR.br.frozen 1
      have hdr := Lib.hid hdr
      have hHR := Lib.hid hR
      clear hR hlC
      go_wp2_with (fail)
      go_ret
      have hR := hHR.out
      have hms : Mod (· = gr) wr (wr.setCell ⟨gr, 1, none⟩ (.int .i64 ((r.next : Int) + 1))) := mod_put (Mod.refl _ _) (fun _ => rfl)
      have kb := hR.br.set_ 1 (.int .i64 ((r.next : Int) + 1))
      refine ⟨rfl, vq', _, s', u', l', (by have h9 := hdr.out.symm; rw [← hLe.out, List.length_append] at h9; exact h9), ⟨hR.dk.keep hms (fun b hb e => ?_), by simpa using kb, hR.or_.mod hms (fun b hb e => (hR.nv b hb).2.2.2.1 e), hR.byt, hR.nr, hR.nv, hR.gb, hR.qb, by show r.next + 1 ≤ 1000000; omega⟩, by omega, hm.trans (M' := (· = gr)) hms (fun b h _ => .inr (.inl h)), hF⟩
      have h9 : b = gr := e
      subst h9
      rcases hb with hb | hb | hb | hb
      · exact hR.nr.1 hb
      · exact hR.nr.2.1 hb
      · exact hR.nr.2.2.1 hb
      · exact hR.nr.2.2.2 hb
end Go.Proofs.Ytdlbjilbdbjadaa
