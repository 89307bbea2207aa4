/- A recorder whose disk holds pages: Add, Sync, Crash, Recover. -/
import Derived.Test.YtdlbjilbdbjadaaDkKnown
import Derived.Test.YtdlbjilbdbjadaaTapePg
import Derived.Test.YtdlbjilbdbjadaaPgSame
set_option linter.unusedSimpArgs false
set_option linter.unusedVariables false
namespace Go.Proofs.Ytdlbjilbdbjadaa
open Go.RowKit

theorem OwnG.upto {α : Type} {R : Rel α} {size : Nat} {e : TypeId} {w : World} {base : Nat} {D : Nat → Prop} {A : Option Addr} {n c : Nat} {xs : List α} (g : R.Good size) (h : OwnG R size e w base D (.slice A n c) xs) {k : Nat} (hk : k ≤ xs.length) : OwnG R size e w base D (.slice A k c) (xs.take k) := by
  obtain ⟨cells, ⟨hl, ho⟩, hc⟩ := h
  have hkl : (xs.take k).length = k := by rw [List.length_take]; omega
  have hle : k * size ≤ xs.length * size := Nat.mul_le_mul_right _ hk
  refine ⟨cells.take (k * size), ⟨by rw [List.length_take, hkl, hl]; omega, ?_⟩, ⟨by rw [List.length_take, hkl, hl]; omega, fun j hj => ?_⟩⟩
  · rw [hkl]
    rcases ho with ⟨hv, h0⟩ | ⟨gg, cap, cur, hv, hb, hh, hn, hm, hs, ht⟩
    · simp only [Value.slice.injEq] at hv
      obtain ⟨rfl, rfl, rfl⟩ := hv
      exact .inl ⟨by have : k = 0 := by omega
                     rw [this], by omega⟩
    · simp only [Value.slice.injEq] at hv
      obtain ⟨rfl, rfl, rfl⟩ := hv
      refine .inr ⟨gg, c, cur, rfl, hb, hh, by omega, hm, hs, ?_⟩
      rw [← ht, List.take_take, Nat.min_eq_left hle]
  · have hjk : j < k := by rw [hkl] at hj; exact hj
    have h1 := hc.2 j (by omega)
    rw [List.getElem_take]
    have e1 : ((cells.take (k * size)).drop (j * size)).take size = (cells.drop (j * size)).take size := by
      have h2 : j * size + size ≤ k * size := by rw [← Nat.succ_mul]; exact Nat.mul_le_mul_right _ hjk
      rw [List.drop_take, List.take_take, Nat.min_eq_left (by omega)]
    rw [e1]
    exact g.weak h1 (fun b hb _ => by
      refine ⟨hb.1, fun e' => hb.2 ?_⟩
      cases A with
      | none => simp [Value.ownBlock] at e'
      | some ad => simpa [Value.ownBlock] using e')
theorem TapeB.modD {w w' : World} {B g : Nat} {M : Nat → Prop} (h : TapeB w B g) (hm : Mod M w w') (hn : ¬ M g) (hB : ∀ b, M b → B ≤ b) : TapeB w' B g := by
  have hlt := h.lt
  obtain ⟨A, l, c, at_, h1, h2, h3, h4, h5, h6, h7⟩ := h
  exact ⟨A, l, c, at_, h1.mod hm hn, h2, h3, h4, h5.below (hm.below (B := B) (by omega) hB) (Nat.le_refl _), h6, h7⟩
/-- '[:k]' of it. -/
theorem OwnG.upto_run {P : Program} {α : Type} {R : Rel α} {size : Nat} {t e : TypeId} {z : Option Value} {b : Nat} (ht : P.underlying t = some (.slice e)) (hi : (P.info? e).map (fun i => (i.zero, i.size, i.bytes)) = some (z, size, b))
    {w : World} {base : Nat} {D : Nat → Prop} {A : Option Addr} {c : Nat} {xs : List α} (g : R.Good size) (h : OwnG R size e w base D (.slice A xs.length c) xs) {k : Nat} (hk : k ≤ xs.length) :
    ∀ w' : World, (Instr.slice t (.slice A xs.length c) none (some (.int .i64 (k : Int))) none).run P w' = .ok (.slice A k c) w' := fun w' => by
  obtain ⟨he, ht'⟩ := elem_of ht
  obtain ⟨A', c', hv, hc, _, _⟩ := h.form g
  simp only [Value.slice.injEq] at hv
  obtain ⟨rfl, _, rfl⟩ := hv
  rw [run_slice_h w' t A xs.length c ht' .i64 k (by omega) (by omega), he, sizeOf_run hi]
  cases A with
  | none => simp [sliced]
  | some ad => simp [sliced, Addr.add]
structure Sd (w0 w : World) (gt base : Nat) (F : Nat → Prop) (va : Value) (added : List Pg) (D : Nat → Prop) : Prop where
  tp : TapeB w w0.heap.size gt
  tb : gt < base
  Fb : ∀ b, F b → base ≤ b ∧ b < w.heap.size
  ad : OwnG PgR 5 38 w base D va added
  vn : ∀ b, va.ownBlock = some b → ¬ F b
  Dn : ∀ b, D b → base ≤ b ∧ b < w.heap.size ∧ ¬ F b
section
variable {w0 w w' : World} {gt base : Nat} {F F' : Nat → Prop} {va : Value} {added : List Pg} {D : Nat → Prop}
theorem Sd.disk (h : Sd w0 w gt base F va added D) (hm : Mod F w w') (hF : ∀ x, F' x → F x ∨ w.heap.size ≤ x) (hlt : ∀ x, F' x → base ≤ x ∧ x < w'.heap.size) : Sd w0 w' gt base F' va added D where
  tp := h.tp.modD hm (fun e => by have := (h.Fb _ e).1; have := h.tb; omega) (fun b hb => by have := (h.Fb b hb).1; have := h.tb; have := h.tp.ge; omega)
  tb := h.tb
  Fb := hlt
  ad := h.ad.keep PgR.good hm (fun b hb _ => (h.Dn b hb).2.2) h.vn
  vn := fun b hb e => by
    rcases hF b e with e | e
    · exact h.vn b hb e
    · have := (h.ad.own_ge b hb).2; omega
  Dn := fun b hb => ⟨(h.Dn b hb).1, Nat.lt_of_lt_of_le (h.Dn b hb).2.1 hm.size, fun e => by
    rcases hF b e with e | e
    · exact (h.Dn b hb).2.2 e
    · have := (h.Dn b hb).2.1; omega⟩
theorem Sd.fresh (h : Sd w0 w gt base F va added D) (hb : Below w.heap.size w w') : Sd w0 w' gt base F va added D :=
  h.disk ((Mod.of_fresh (M := fun _ => False) hb).mono (fun _ h _ => h.elim)) (fun x hx => .inl hx) (fun x hx => ⟨(h.Fb x hx).1, Nat.lt_of_lt_of_le (h.Fb x hx).2 hb.size⟩)
theorem Sd.tape (h : Sd w0 w gt base F va added D) (ht : TapeB w' w0.heap.size gt) (hg : w.grownBy w' (some gt)) : Sd w0 w' gt base F va added D where
  tp := ht
  tb := h.tb
  Fb := fun b hb => ⟨(h.Fb b hb).1, Nat.lt_of_lt_of_le (h.Fb b hb).2 hg.size⟩
  ad := h.ad.keep PgR.good (M := (· = gt)) (Mod.of_only hg (fun _ => rfl)) (fun b hb _ e => by have := (h.Dn b hb).1; have := h.tb; omega) (fun b hb e => by have := (h.ad.own_ge b hb).1; have := h.tb; omega)
  vn := h.vn
  Dn := fun b hb => ⟨(h.Dn b hb).1, Nat.lt_of_lt_of_le (h.Dn b hb).2.1 hg.size, (h.Dn b hb).2.2⟩
theorem Sd.push (h : Sd w0 w gt base F va added D) {va' : Value} {added' : List Pg} {D' : Nat → Prop} (hm : Mod (fun b => va.ownBlock = some b) w w') (ho : OwnG PgR 5 38 w' base D' va' added') (hv : ∀ b, va'.ownBlock = some b → va.ownBlock = some b ∨ w.heap.size ≤ b) (hD : ∀ b, D' b → base ≤ b ∧ b < w'.heap.size ∧ ¬ F b) : Sd w0 w' gt base F va' added' D' where
  tp := h.tp.modD hm (fun e => by have := (h.ad.own_ge _ e).1; have := h.tb; omega) (fun b hb => by have := (h.ad.own_ge b hb).1; have := h.tb; have := h.tp.ge; omega)
  tb := h.tb
  Fb := fun b hb => ⟨(h.Fb b hb).1, Nat.lt_of_lt_of_le (h.Fb b hb).2 hm.size⟩
  ad := ho
  vn := fun b hb e => by
    rcases hv b hb with hv | hv
    · exact h.vn b hv e
    · have := (h.Fb b e).2; omega
  Dn := hD
theorem Sd.cut {A : Option Addr} {n c : Nat} (h : Sd w0 w gt base F (.slice A n c) added D) {k : Nat} (hk : k ≤ added.length) : Sd w0 w gt base F (.slice A k c) (added.take k) D where
  tp := h.tp
  tb := h.tb
  Fb := h.Fb
  ad := h.ad.upto PgR.good hk
  vn := fun b hb => h.vn b (by
    cases A with
    | none => cases hb
    | some ad => exact hb)
  Dn := h.Dn
end
theorem rk_tape {w w' : World} {base gd gs ge gr gt : Nat} {vq vr : Value} {s : Dk} {r : Rc} (h : RkM w base gd gs ge gr vq vr s r) (hg : w.grownBy w' (some gt)) (hb : gt < base) : RkM w' base gd gs ge gr vq vr s r :=
  h.keep (M := (· = gt)) (Mod.of_only hg (fun _ => rfl)) (fun b hb' e => by have := (h.lt b hb').1; omega)
end Go.Proofs.Ytdlbjilbdbjadaa

namespace Go.Proofs.Ytdlbjilbdbjadaa
open Go.RowKit

theorem pgGood_of {k : Nat} {f1 f2 : Bool} {pb : List Int} (hk : k ≤ 1000000) (h1 : 1 ≤ pb.length) (h2 : pb.length ≤ 252) (hb : byteB pb) : PgGood ⟨(k : Int), f1, f2, false, pb⟩ k := by
  have h3 : mostB false = 252 := rfl
  refine ⟨decide_eq_true ⟨?_, ?_, h1, ?_⟩, rfl, rfl, ⟨⟨?_, ?_⟩, ?_, hb⟩⟩
  · show (0 : Int) ≤ (k : Int); omega
  · show (k : Int) ≤ 2147483647; omega
  · show (pb.length : Int) ≤ mostB false; rw [h3]; omega
  · show (-9223372036854775808 : Int) ≤ (k : Int); omega
  · show (k : Int) ≤ 9223372036854775807; omega
  · show pb.length ≤ 140737488355328; omega
section
variable {w : World} {base gd gs ge gr : Nat} {vq vr : Value} {s : Dk} {r : Rc} {H C : List Int} {U : Nat} {sure pend : List Pg}
theorem radd_log (h : RkM w base gd gs ge gr vq vr s r) (hL : LogI s r H C U sure pend) {f1 f2 : Bool} {pb : List Int} {A : Option Addr} {c : Nat} (h1 : 1 ≤ pb.length) (h2 : pb.length ≤ 252) (hb : byteB pb) (hr : RdI w w.heap.size .u8 A pb) (hn : r.next < 1000000) (hsp : r.used * 64 + r.rest.length + 264 ≤ s.n * 64) :
    Calls Try.prog 12 #[.pointer (some ⟨gr, 0, none⟩), .agg #[.int .i64 (r.next : Int), .bool f1, .bool f2, .bool false, .slice A pb.length c]] w fun e w' => e = .returned (.int .i64 0) ∧ ∃ vq' vr' s' r', LogI s' r' H C U sure (pend ++ [⟨(r.next : Int), f1, f2, false, pb⟩]) ∧ r'.next = r.next + 1 ∧ s'.n = s.n ∧
      r'.used * 64 + r'.rest.length = r.used * 64 + r.rest.length + pb.length + 12 ∧ RkM w' base gd gs ge gr vq' vr' s' r' ∧ Mod (rkF gd gs ge gr vq vr) w w' ∧ (∀ x, rkF gd gs ge gr vq' vr' x → rkF gd gs ge gr vq vr x ∨ w.heap.size ≤ x) := by
  have hg := pgGood_of (k := r.next) (f1 := f1) (f2 := f2) (by omega) h1 h2 hb
  have hpl := pgBytes_len ⟨(r.next : Int), f1, f2, false, pb⟩
  simp only at hpl
  have hrl := hL.rl
  have hA := radd_any h ⟨(r.next : Int), f1, f2, false, pb⟩ A c hg.wf hr (by rw [pgE, if_pos hg.ok]) rfl rfl hn (by omega) (by omega) (by omega) (pgBytes_byte hg)
  refine hA.mono ?_
  rintro e w' ⟨rfl, vq', vr', s', u', l', hd, hR, hl, hm, hF⟩
  obtain ⟨a1, a2, a3⟩ := log_add hL hg (by rw [List.length_append]; omega) hd hl
  exact ⟨rfl, vq', vr', s', _, a1, rfl, a3, by show u' * 64 + l'.length = _; omega, hR, hm, hF⟩
theorem rsync_log (h : RkM w base gd gs ge gr vq vr s r) (hL : LogI s r H C U sure pend) (hroom : r.used * 64 + r.rest.length ≤ s.n * 64) :
    Calls Try.prog 13 #[.pointer (some ⟨gr, 0, none⟩)] w fun e w' => e = .returned (.tuple #[]) ∧ ∃ vr' s' r' H' C' U', LogI s' r' H' C' U' (sure ++ pend) [] ∧ r'.next = r.next ∧ s'.n = s.n ∧ r'.used * 64 + r'.rest.length ≤ r.used * 64 + r.rest.length + 63 ∧
      RkM w' base gd gs ge gr (.slice none 0 0) vr' s' r' ∧ Mod (rkF gd gs ge gr vq vr) w w' ∧ (∀ x, rkF gd gs ge gr (.slice none 0 0) vr' x → rkF gd gs ge gr vq vr x ∨ w.heap.size ≤ x) := by
  have hnb := h.nb
  have hn1 := h.dk.ok.n1
  have hu : r.rest ≠ [] → r.used < s.n := fun hne => by
    have := List.length_pos_iff.2 hne
    omega
  have hS := rsync_any h hL.rl hu
  refine hS.mono ?_
  rintro e w' ⟨rfl, vr', hR, hm, hF⟩
  obtain ⟨a1, a2, a3⟩ := log_sync hL hu (by omega) hn1
  refine ⟨rfl, vr', _, _, _, _, _, a1, rfl, a2, by show syncU r * 64 + 0 ≤ _; omega, hR, hm, fun x hx => ?_⟩
  rcases hx with (hx | hx | hx | hx) | hx | hx
  · exact .inl (.inl (.inl hx))
  · exact .inl (.inl (.inr (.inl hx)))
  · exact .inl (.inl (.inr (.inr (.inl hx))))
  · cases hx
  · exact .inl (.inr (.inl hx))
  · rcases hF x hx with h | h
    · exact .inl (.inr (.inr h))
    · exact .inr h
theorem dcrash_log (h : DkM w base gd gs ge vq s) (hL : LogI s r H C U sure pend) (hq : s.qs.length ≤ 1000000) (Ak : Option Addr) (ck : Nat) (kept : List Int) (hb : ∀ x ∈ kept, i64B x) (hc : kept.length ≤ ck) {B : Nat} (hr : RdI w B .i64 Ak kept) (hB : B ≤ base) :
    Calls Try.prog 14 #[.pointer (some ⟨gd, 0, none⟩), .slice Ak kept.length ck] w fun e w' => e = .returned (.tuple #[]) ∧ ∃ s', LogI s' ⟨sure.length, U, []⟩ H C U sure [] ∧ s'.n = s.n ∧ s'.qs = [] ∧ DkM w' base gd gs ge (.slice none 0 0) s' ∧ Mod (dkF gd gs ge vq) w w' := by
  refine (dcrash_any h hq Ak ck kept hb hc hr hB).mono ?_
  rintro e w' ⟨rfl, hD, hm⟩
  refine ⟨rfl, _, log_crash hL kept, rfl, rfl, hD, hm.mono (fun b hb _ => ?_)⟩
  rcases hb with hb | hb | hb
  · exact .inl hb
  · exact .inr (.inl hb)
  · exact .inr (.inr (.inl hb))
theorem recover_log (h : DkM w base gd gs ge vq s) (G : Good s sure U) :
    Calls Try.prog 15 #[.pointer (some ⟨gd, 0, none⟩)] w fun e w' => ∃ A c, e = .returned (.tuple #[.slice A sure.length c, .int .i64 0]) ∧ RdPg w' (fun b => w.heap.size ≤ b ∧ b < w'.heap.size) A sure ∧ OwnG PgR 5 38 w' w.heap.size (fun b => w.heap.size ≤ b ∧ b < w'.heap.size) (.slice A sure.length c) sure ∧ Below w.heap.size w w' := by
  refine (recover_any h G.hdr G.u1 G.un G.lies G.len).mono ?_
  rintro e w' ⟨v, rfl, ho, hb⟩
  obtain ⟨A, c, rfl, hc, hr, hA⟩ := ho.form PgR.good
  refine ⟨A, c, rfl, ?_, ho, hb⟩
  exact hr.weak PgR.good (fun b hb _ => by
    rcases hb with hb | hb
    · exact hb.1
    · exact hA b hb)
end
end Go.Proofs.Ytdlbjilbdbjadaa
