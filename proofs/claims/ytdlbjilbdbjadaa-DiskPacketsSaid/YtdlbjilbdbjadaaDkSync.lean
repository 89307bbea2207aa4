/- disk.Recorder.Sync. -/
import Derived.Test.YtdlbjilbdbjadaaDkAdd
import Derived.Test.YtdlbjilbdbjadaaDkRec
import Derived.Test.YtdlbjilbdbjadaaDkM
set_option linter.unusedSimpArgs false
set_option linter.unusedVariables false
namespace Go.Proofs.Ytdlbjilbdbjadaa
open Go.RowKit

theorem wpList_grow_int {P : Program} (w : World) {ops : Array Oper} {rest : List Oper} {o : Oper} {a : Act} {Q : Exit → Act → World → Prop} (hg : o.guard = none) (s x : Operand) (t : TypeId) (hop : o.op = Op.call { callee := Callee.builtin Builtin.append, args := #[s, x], argTypes := #[t, t] })
    (e : TypeId) (k : IntKind) (bytes : Nat) (ht : P.underlying t = some (.slice e)) (hi : (P.info? e).map (fun i => (i.zero, i.size, i.bytes)) = some (some (.int k 0), 1, bytes)) (hby : bytes ≤ 8)
    (A0 : Option Addr) (n cap B0 : Nat) (l0 : List Int) (hs : a.eval s = .slice A0 n cap) (hn0 : n = l0.length) (h0 : 0 < l0.length) (hr0 : RdI w B0 k A0 l0) (A : Option Addr) (m c B : Nat) (l' : List Int) (hx : a.eval x = .slice A m c) (hm : m = l'.length) (h1 : 0 < l'.length) (hr : RdI w B k A l')
    (hfull : cap < n + m) (hlen : l0.length + l'.length ≤ 1000000) (hK : ∀ v' w', OwnI w' w.heap.size e k v' (l0 ++ l') → Below w.heap.size w w' → wpList P ops Q rest (a.put o.dst v') w') : wpList P ops Q (o :: rest) a w := by
  obtain ⟨i0, hi0, hz0, hz1, hz2⟩ := info_parts hi
  obtain ⟨ad0, rfl, _, hc0⟩ := Rd.addr hr0 h0
  obtain ⟨ad, rfl, _, hc⟩ := Rd.addr hr h1
  subst hn0 hm
  refine wpList_append_grows w hg s x t hop e i0 (.int k 0) 1 bytes ht hi0 hz0 hz1 hz2 rfl (by omega) (some ad0) l0.length cap (ic k l0) hs (fun h => by cases h) (by rw [ic_length]; omega) (fun b hb j u hu => by injection hb with hb; subst hb; exact hc0 j u hu) ad l'.length c (ic k l') hx (by rw [ic_length]; omega) hc (ic_cell _ _) hfull (by simp only [maxLen]; omega) ?_ (fun v' w' r1 r2 => hK v' w' (by unfold OwnI; rw [List.length_append, ic_append]; exact r1) ⟨r2.os, r2.tape, r2.output, r2.size, fun j hj => r2.block j hj (by simp)⟩)
  calc (l0.length + l'.length) * bytes ≤ 1000000 * 8 := Nat.mul_le_mul hlen hby
    _ ≤ 140737488355328 := by omega

def zA64 : Array Value := (ic .u8 z64).toArray
def hdrB (n u : Nat) : List Int := [75, 82, 69, 67] ++ bg (n : Int) 4 ++ bg (u : Int) 4 ++ List.replicate 52 0
theorem hdrB_byte (n u : Nat) : byteB (hdrB n u) := fun x hx => by
  rcases List.mem_append.1 hx with hx | hx
  · rcases List.mem_append.1 hx with hx | hx
    · rcases List.mem_append.1 hx with hx | hx
      · simp at hx; omega
      · exact bg_bytes _ _ x hx
    · exact bg_bytes _ _ x hx
  · rw [(List.mem_replicate.1 hx).2]; omega
theorem hdrB_len (n u : Nat) : (hdrB n u).length = 64 := by simp [hdrB, bg_len]
def padB (l : List Int) : List Int := l ++ List.replicate (64 - l.length) 0
theorem padB_len {l : List Int} (h : l.length ≤ 64) : (padB l).length = 64 := by simp [padB]; omega
/-- What Sync leaves. -/
def syncU (r : Rc) : Nat := if r.rest = [] then r.used else r.used + 1
def syncD (s : Dk) (r : Rc) : Dk := (((if r.rest = [] then s else s.write r.used (padB r.rest)).flush).write 0 (hdrB r.next (syncU r))).flush
theorem make64 (W : World) : (Instr.makeSlice 36 (.int .i64 64) (.int .i64 64)).run Try.prog W = .ok (.slice (some ⟨W.heap.size, 0, none⟩) 64 64) (W.alloc (.cells zA64 5)) := by
  have h := run_make_ints (P := Try.prog) W 36 Try.underlying36 info_u8 (by omega) .i64 64 64 (Nat.le_refl _) (by omega)
  have e : Array.replicate 64 (Value.int .u8 0) = zA64 := ic_rep 64
  rw [e] at h
  exact h
theorem big4_slice (n : Nat) (h : n < 4294967296) (w : World) : Calls Try.prog 34 #[.int .u64 (n : Int), .int .i64 4] w fun e w' => ∃ A c, e = .returned (.slice A 4 c) ∧ 4 ≤ c ∧ RdI w' w'.heap.size .u8 A (bg (n : Int) 4) ∧ Below w.heap.size w w' := by
  refine (big_any (n : Int) (by omega) (by omega) 4 (by omega) (by omega) w).mono ?_
  rintro e w' ⟨v, rfl, ho, hb⟩
  rw [show min (4 : Int).toNat 8 = 4 from rfl] at ho
  obtain ⟨A, c, rfl, hc, hr, _⟩ := ho.form
  rw [bg_len] at hc ⊢
  exact ⟨A, c, rfl, hc, hr, hb⟩
theorem RkM.disk {w w' : World} {base gd gs ge gr : Nat} {vq vr vq' : Value} {s s' : Dk} {r : Rc} (h : RkM w base gd gs ge gr vq vr s r) (hD : DkM w' base gd gs ge vq' s') (hm : Mod (dkF gd gs ge vq) w w') (hq : ∀ x, vq'.ownBlock = some x → vq.ownBlock = some x ∨ w.heap.size ≤ x) (hn : s'.n = s.n) (hqs : s'.qs.length ≤ r.used) : RkM w' base gd gs ge gr vq' vr s' r := by
  have hl1 := h.br.lt
  have hl2 := h.or_.lt
  refine ⟨hD, h.br.mod hm (fun e => ?_), h.or_.mod hm (fun b hb e => ?_), h.byt, ⟨h.nr.1, h.nr.2.1, h.nr.2.2.1, fun e => ?_⟩, fun b hb => ⟨(h.nv b hb).1, (h.nv b hb).2.1, (h.nv b hb).2.2.1, (h.nv b hb).2.2.2.1, fun e => ?_⟩, h.gb, ⟨hqs, by rw [hn]; exact h.qb.2⟩, h.nb⟩
  · rcases e with e | e | e | e
    · exact h.nr.1 e
    · exact h.nr.2.1 e
    · exact h.nr.2.2.1 e
    · exact h.nr.2.2.2 e
  · obtain ⟨a1, a2, a3, a4, a5⟩ := h.nv b hb
    rcases e with e | e | e | e
    · exact a1 e
    · exact a2 e
    · exact a3 e
    · exact a5 e
  · rcases hq _ e with e | e
    · exact h.nr.2.2.2 e
    · omega
  · rcases hq _ e with e | e
    · exact (h.nv b hb).2.2.2.2 e
    · have := (hl2 b hb).2; omega
set_option maxHeartbeats 4000000 in
set_option maxRecDepth 100000 in
theorem rsync_any {w : World} {base gd gs ge gr : Nat} {vq vr : Value} {s : Dk} {r : Rc} (h : RkM w base gd gs ge gr vq vr s r) (hl : r.rest.length < 64) (hu : r.rest ≠ [] → r.used < s.n) :
    Calls Try.prog 13 #[.pointer (some ⟨gr, 0, none⟩)] w fun e w' => e = .returned (.tuple #[]) ∧ ∃ vr', RkM w' base gd gs ge gr (.slice none 0 0) vr' (syncD s r) ⟨r.next, syncU r, []⟩ ∧ Mod (rkF gd gs ge gr vq vr) w w' ∧ (∀ x, vr'.ownBlock = some x → vr.ownBlock = some x ∨ w.heap.size ≤ x) := by
  obtain ⟨Ar, cr, rfl, hcr, hrr⟩ := h.or_.form
  have HR := Lib.hid h
  have c3 := h.br.cell 3
  have hmk := make64
  have hnb := h.nb
  have hn1 := h.dk.ok.n1
  have hqb := h.qb
  clear h
  go_enter Try.func13, Try.ntmps13
  go_upto_if 9 with (fail)
  generalize hB : decide (0 < r.rest.length) = B
  replace hB := Lib.hid hB
  go_cut [] (fun wc => ∃ vq1 vr1, RkM wc base gd gs ge gr vq1 vr1 (if r.rest = [] then s else s.write r.used (padB r.rest)) ⟨r.next, syncU r, []⟩ ∧ Mod (rkF gd gs ge gr vq (.slice Ar r.rest.length cr)) w wc ∧ (∀ x, vq1.ownBlock = some x → vq.ownBlock = some x ∨ w.heap.size ≤ x) ∧ (∀ x, vr1.ownBlock = some x → (Value.slice Ar r.rest.length cr).ownBlock = some x ∨ w.heap.size ≤ x))
  case first =>
    cases B with
    | false =>
      have hl0 : r.rest.length = 0 := by have := of_decide_eq_false hB.out; omega
      have hre : r.rest = [] := List.eq_nil_of_length_eq_zero hl0
      have hres := HR.out
      have hU : syncU r = r.used := by rw [syncU, if_pos hre]
      have hl0' := Lib.hid hl0
      have hre' := Lib.hid hre
      clear hl0 hre
      go_wp2_with (fail)
      go_meet
      refine ⟨vq, _, ?_, Mod.refl _ _, fun x h => .inl h, fun x h => .inl h⟩
      rw [if_pos hre'.out, hU]
      have : (⟨r.next, r.used, []⟩ : Rc) = r := by rw [← hre'.out]
      rw [this]; exact hres
    | true =>
      have hlp : 0 < r.rest.length := of_decide_eq_true hB.out
      have hre : r.rest ≠ [] := List.length_pos_iff.1 hlp
      have hre' := Lib.hid hre
      have hU := Lib.hid (show syncU r = r.used + 1 by rw [syncU, if_neg hre])
      clear hre
      go_upto_region 2 with (fail)
      clear hmk
      have kb := Blk.new w 5 zA64
      have bb := below_alloc (Below.refl w.heap.size w) (.cells zA64 5)
      generalize w.alloc (.cells zA64 5) = w1 at *
      have hR1 := HR.out.below bb
      obtain ⟨ad, rfl, _, hcell⟩ := Rd.addr hrr hlp
      have e1 : putAt (ic .u8 z64) 0 (ic .u8 r.rest) = ic .u8 (padB r.rest) := by
        rw [putAt_ic]
        congr 1
        show z64.take 0 ++ r.rest ++ z64.drop (0 + r.rest.length) = padB r.rest
        rw [List.take_zero, List.nil_append, Nat.zero_add, z64, List.drop_replicate]
        rfl
      have hcp : ∀ ty, (Builtin.copy_ #[36, 36] ty #[.slice (some ⟨w.heap.size, 0, none⟩) 64 64, .slice (some ad) r.rest.length cr]).run Try.prog w1 = .ok (goInt r.rest.length) (w1.setRow w.heap.size (ic .u8 (padB r.rest)).toArray) := fun ty => by
        have hmin : Nat.min r.rest.length 64 = r.rest.length := Nat.min_eq_left (by omega)
        have h1 := run_copy_row Try.prog w1 36 36 ty 5 w.heap.size 0 64 64 ad r.rest.length cr _ _ (ic .u8 r.rest) Try.underlying36 (by kernel_rfl) kb (by rw [ic_length, hmin]) (fun j v hv => (bb.cell (World.block_lt_of_cell? w _ (hcell j v hv))).trans (hcell j v hv)) (by rw [ic_length, zA64, List.size_toArray, ic_length, z64_len]; omega) (ic_cell _ _)
        rw [ic_length] at h1
        rw [h1, ← e1]
        simp [putAt, zA64, ic_length]
      have c3b := hR1.br.cell 3
      have hHR1 := Lib.hid hR1
      clear hR1 c3
      go_upto_region 3 with (fail)
      clear hcp e1
      have kb2 := kb.setRow (ic .u8 (padB r.rest)).toArray
      have m2 : Mod (· = w.heap.size) w1 (w1.setRow w.heap.size (ic .u8 (padB r.rest)).toArray) := (Mod.refl (fun x => x = w.heap.size) w1).setRow (fun _ => rfl) _
      have hgb : w.heap.size < w1.heap.size := kb.lt
      have hR2 := hHR1.out.keep m2 (fun b hb e => by
        have h8 := (HR.out.lt b hb).2
        have h9 : b = w.heap.size := e
        omega)
      have hpl : (padB r.rest).length = 64 := padB_len (by omega)
      generalize w1.setRow w.heap.size (ic .u8 (padB r.rest)).toArray = w2 at *
      have hrp : RdI w2 w2.heap.size .u8 (some ⟨w.heap.size, 0, none⟩) (padB r.rest) := ⟨by rw [ic_length]; omega, fun _ => ⟨_, rfl, kb2.lt, fun j u hu => by rw [add_mk, Nat.zero_add, kb2.cell j, List.getElem?_toArray]; exact hu⟩⟩
      have hPut := Lib.hid (rput_any hR2 (hu hre'.out) (some ⟨w.heap.size, 0, none⟩) 64 (padB r.rest) hpl (fun x hx => by
        rcases List.mem_append.1 hx with hx | hx
        · exact HR.out.byt x hx
        · rw [(List.mem_replicate.1 hx).2]; omega) hrp)
      have hm02 : Mod (fun _ => False) w w2 := (Mod.of_fresh (M := fun _ => False) bb).trans (M' := (· = w.heap.size)) m2 (fun b e hb => by subst e; exact absurd hb (Nat.lt_irrefl _))
      clear kb kb2 bb m2 hrp c3b hcell
      go_upto_region 4 with (first
        | (go_at_call 33; (with_reducible refine hPut.out.mono ?_); rintro e w4 ⟨rfl, vq4, hR4, hm4, hq4⟩))
      have c4 := hR4.br.cell 3
      have f4 := hR4.br.frozen 3
      have hHR4 := Lib.hid hR4
      go_wp2_with (fail)
      go_meet
      have hR5 := hHR4.out.setRest (Mod.refl _ _) (OwnO.nil_ _ base 5 .u8) (fun x hx => by cases hx) (fun b hb => by cases hb)
      have hms : Mod (· = gr) w4 (w4.setCell ⟨gr, 3, none⟩ (.slice none 0 0)) := mod_put (Mod.refl _ _) (fun _ => rfl)
      refine ⟨vq4, .slice none 0 0, ?_, ((hm02.mono (fun b h _ => h.elim)).trans (M' := rkC gd gs ge gr vq) hm4 (fun b h _ => ?_)).trans (M' := (· = gr)) hms (fun b h _ => .inr (.inl h)), fun x hx => ?_, fun x hx => (by cases hx)⟩
      · rw [if_neg hre'.out, hU.out]; exact hR5
      · rcases h with h | h
        · exact .inl h
        · exact .inr (.inl h)
      · rcases hq4 x hx with h | h
        · exact .inl h
        · exact .inr (by have := hm02.size; omega)
  case rest =>
    obtain ⟨vq1, vr1, hR, hm, hq1, hv1⟩ := hcut
    have hSD : syncD s r = (((if r.rest = [] then s else s.write r.used (padB r.rest)).flush).write 0 (hdrB r.next (syncU r))).flush := rfl
    have hs1n : (if r.rest = [] then s else s.write r.used (padB r.rest)).n = s.n := by split <;> rfl
    generalize (if r.rest = [] then s else s.write r.used (padB r.rest)) = s1 at *
    generalize hU1 : syncU r = u1 at *
    replace hU1 := Lib.hid hU1
    have hSD' := Lib.hid hSD
    have hs1n := Lib.hid hs1n
    have hFl := Lib.hid (dflush_any hR.dk)
    have hqb1 := hR.qb
    have hn11 := hR.dk.ok.n1
    have c0 := hR.br.cell 0
    have hHR := Lib.hid hR
    have hmC := Lib.hid hm
    have hswc := hm.size
    clear hSD hR hm hB c3 hrr hmk
    go_upto_region 6 with (first
      | (go_at_call 21; (with_reducible refine hFl.out.mono ?_); rintro e w5 ⟨rfl, hD5, hm5⟩))
    have hR5 := hHR.out.disk hD5 (hm5.mono (fun b h _ => by rcases h with h | h; exact .inl h; exact .inr (.inl h))) (fun x hx => by cases hx) rfl (by simp [Dk.flush])
    have hm5' := hmC.out.trans (M' := fun b => b = gd ∨ b = gs) hm5 (fun b h _ => by rcases h with h | h; exact .inl (.inl h); exact .inl (.inr (.inl h)))
    have c1 := hR5.br.cell 1
    have hHR5 := Lib.hid hR5
    have hHm5 := Lib.hid hm5'
    have hsw5 := hm5.size
    have kc := fun (w : World) (C : Array Value) (n c : Nat) => Lib.run_convert_bytes_const (P := Try.prog) w 36 5 C n c Try.underlying36 Try.underlying5
    have wn : IntKind.u64.wrap (r.next : Int) = (r.next : Int) := by rw [IntKind.wrap_u64]; omega
    have wu : IntKind.u64.wrap (u1 : Int) = (u1 : Int) := by rw [IntKind.wrap_u64]; omega
    have HB1 := Lib.hid (fun W => big4_slice r.next (by omega) W)
    have HB2 := Lib.hid (fun W => big4_slice u1 (by omega) W)
    have hlit := RdI.litG w5 .u8 [75, 82, 69, 67] #[.int .u8 75, .int .u8 82, .int .u8 69, .int .u8 67] 5 (4, 5) rfl
    have bl := below_alloc (Below.refl w5.heap.size w5) (.cells #[.int .u8 75, .int .u8 82, .int .u8 69, .int .u8 67] 5 (4, 5))
    have hsl : (w5.alloc (.cells #[.int .u8 75, .int .u8 82, .int .u8 69, .int .u8 67] 5 (4, 5))).heap.size = w5.heap.size + 1 := by simp
    have hls1 : w5.heap.size + 1 ≤ (w5.alloc (.cells #[.int .u8 75, .int .u8 82, .int .u8 69, .int .u8 67] 5 (4, 5))).heap.size := by simp
    have c1l := hR5.below bl |>.br.cell 1
    clear hR5 hD5 hm5 hm5' hsl c0 hFl
    go_upto_region 7 with (first
      | (go_at_call 34; (with_reducible refine (HB1.out _).mono ?_); rintro e w7 ⟨A7, c7, rfl, hc7, hr7, hb7⟩; have hl7 := hlit.below hb7 hls1)
      | (at_builtin; (refine wpList_grow_int w7 rfl (.tmp 29) (.tmp 35) _ rfl 5 .u8 1 Try.underlying36 info_u8 (by omega) (some ⟨w5.heap.size, 0, none⟩) 4 4 _ [75, 82, 69, 67] rfl rfl (by simp) hl7 A7 4 c7 _ (bg (r.next : Int) 4) rfl (bg_len _ _).symm (by rw [bg_len]; omega) hr7 (by omega) (by rw [bg_len]; simp) ?_); intro v8 w8 ho8 hb8))
    have b58 : Below w5.heap.size w5 w8 := below_then (below_then bl hb7) hb8
    obtain ⟨A8, c8, hv8, hc8, _⟩ := ho8.form
    rw [show (([75, 82, 69, 67] : List Int) ++ bg (r.next : Int) 4).length = 8 by simp [bg_len]] at hv8
    subst hv8
    have hs57 : w5.heap.size ≤ w7.heap.size := by have := bl.size; have := hb7.size; omega
    have c2 := (hHR5.out.below b58).br.cell 2
    have ho8h := Lib.hid (ho8.base_ hs57)
    clear c1 c1l hlit hls1 bl hb7 hr7 hl7 hb8 ho8 kc
    go_upto_region 8 with (first
      | (go_at_call 34; (with_reducible refine (HB2.out _).mono ?_); rintro e w9 ⟨A9, c9, rfl, hc9, hr9, hb9⟩; have ho9 := ho8h.out.below hb9; have b59 := below_then b58 hb9; have hs59 := b59.size)
      | (at_builtin; (refine wpList_append_int _ rfl (.tmp 37) (.tmp 43) _ rfl w5 w5.heap.size w5.heap.size 5 .u8 1 Try.underlying36 info_u8 _ ([75, 82, 69, 67] ++ bg (r.next : Int) 4) rfl ho9 _ A9 4 c9 (bg (u1 : Int) 4) rfl (bg_len _ _).symm hr9 (by simp [bg_len]) (by omega) b59 (Nat.le_refl _) hs59 ?_); intro v10 w10 ho10 hb10))
    obtain ⟨A10, c10, hv10, hc10, _⟩ := ho10.form
    rw [show (([75, 82, 69, 67] : List Int) ++ bg (r.next : Int) 4 ++ bg (u1 : Int) 4).length = 12 by simp [bg_len]] at hv10
    subst hv10
    have ho10h := Lib.hid ho10
    have hs510 := hb10.size
    clear ho9 b59 hs59 hb9 hr9 ho10 c2
    go_upto_region 9 with (first
      | (at_builtin; (refine wpList_append_zeros rfl (.tmp 45) (.tmp 48) _ _ rfl w10 w5.heap.size 5 .u8 1 Try.underlying36 Try.underlying3 info_u8 (by omega) (.slice A10 12 c10) ([75, 82, 69, 67] ++ bg (r.next : Int) 4 ++ bg (u1 : Int) 4) rfl ho10h.out (by simp) 52 rfl (by omega) (by simp [bg_len]) hs510 ?_); intro v11 w11 ho11 hg11 hv11))
    obtain ⟨A11, c11, hv11e, hc11, hr11, _⟩ := ho11.form
    have hlen11 := hdrB_len r.next u1
    rw [show (([75, 82, 69, 67] : List Int) ++ bg (r.next : Int) 4 ++ bg (u1 : Int) 4 ++ List.replicate 52 0) = hdrB r.next u1 from rfl] at hv11e hc11 hr11
    rw [hlen11] at hv11e hc11
    subst hv11e
    have hg11' : w10.grownBy w11 (Value.slice A10 12 c10).ownBlock := hg11
    have b511 : Below w5.heap.size w5 w11 := hb10.trans (Below.grown (Below.refl w10.heap.size w10 |>.mono hs510) hg11' hs510 (fun b hb => (World.ownsRow.lt ho10h.out b hb).1))
    have hR11 := hHR5.out.below b511
    have c0 := hR11.br.cell 0
    have HW := dwrite_any hR11.dk (N := 0) (by have := hR11.dk.ok.n0; omega) A11 c11 (hdrB r.next u1) hlen11 (hdrB_byte _ _) (by simp [Dk.flush]) hr11
    rw [hlen11, show ((0 : Nat) : Int) = 0 from rfl] at HW
    replace HW := Lib.hid HW
    have hHR11 := Lib.hid hR11
    clear ho11 hr11 hg11 hg11' hR11 hlen11 hv11 hb10
    go_upto_region 10 with (first
      | (go_at_call 20; (with_reducible refine HW.out.mono ?_); rintro e w12 ⟨rfl, vq12, hD12, hm12, hq12⟩))
    have hbr12 := hHR11.out.br.mod hm12 (fun e => by
      rcases e with e | e | e | e
      · exact hHR11.out.nr.1 e
      · exact hHR11.out.nr.2.1 e
      · exact hHR11.out.nr.2.2.1 e
      · exact hHR11.out.nr.2.2.2 e)
    have c0 := hbr12.cell 0
    have hF2 := Lib.hid (dflush_any hD12)
    clear hD12
    go_wp2_with (first
      | (go_at_call 21; (with_reducible refine hF2.out.mono ?_); rintro e w13 ⟨rfl, hD13, hm13⟩))
    go_end0
    have hm1113 : Mod (dkF gd gs ge (.slice none 0 0)) w11 w13 := hm12.trans (M' := fun b => b = gd ∨ b = gs) hm13 (fun b h _ => by rcases h with h | h; exact .inl h; exact .inr (.inl h))
    have hR13 := hHR11.out.disk hD13 hm1113 (fun x hx => by cases hx) rfl (by simp [Dk.flush])
    refine ⟨rfl, vr1, ?_, (hHm5.out.trans (M' := fun _ => False) (Mod.of_fresh b511) (fun b h _ => h.elim)).trans (M' := dkF gd gs ge (.slice none 0 0)) hm1113 (fun b h _ => ?_), hv1⟩
    · rw [hSD'.out, hU1.out]; exact hR13
    · rcases h with h | h | h | h
      · exact .inl (.inl h)
      · exact .inl (.inr (.inl h))
      · exact .inl (.inr (.inr (.inl h)))
      · cases h
end Go.Proofs.Ytdlbjilbdbjadaa
