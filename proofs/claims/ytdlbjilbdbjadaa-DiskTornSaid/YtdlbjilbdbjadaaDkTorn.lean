/- A recorder's disk, written while something else is torn. -/
import Derived.Test.YtdlbjilbdbjadaaTapePgs
import Derived.Test.YtdlbjilbdbjadaaOwnEmp
set_option linter.unusedSimpArgs false
set_option linter.unusedVariables false
namespace Go.Proofs.Ytdlbjilbdbjadaa
open Go.RowKit

section
variable {w : World} {base gd gs ge gr : Nat} {vq vr : Value} {s : Dk} {r : Rc} {H C : List Int} {U : Nat} {sure pend : List Pg}
theorem radd_pg (h : RkM w base gd gs ge gr vq vr s r) (hL : LogI s r H C U sure pend) {p : Pg} (hg : PgGood p r.next) {A : Option Addr} {c : Nat} (hr : RdI w w.heap.size .u8 A p.body) (hn : r.next < 1000000) (hsp : r.used * 64 + r.rest.length + 264 ≤ s.n * 64) :
    Calls Try.prog 12 #[.pointer (some ⟨gr, 0, none⟩), .agg #[.int .i64 p.seq, .bool p.first, .bool p.last, .bool p.guard, .slice A p.body.length c]] w fun e w' => e = .returned (.int .i64 0) ∧ ∃ vq' vr' s' r', LogI s' r' H C U sure (pend ++ [p]) ∧ r'.next = r.next + 1 ∧ s'.n = s.n ∧
      r'.used * 64 + r'.rest.length ≤ r.used * 64 + r.rest.length + 264 ∧ RkM w' base gd gs ge gr vq' vr' s' r' ∧ Mod (rkF gd gs ge gr vq vr) w w' ∧ (∀ x, rkF gd gs ge gr vq' vr' x → rkF gd gs ge gr vq vr x ∨ w.heap.size ≤ x) := by
  have hsh := hg.short
  have hpl := pgBytes_len p
  have hrl := hL.rl
  have hA := radd_any h p A c hg.wf hr (by rw [pgE, if_pos hg.ok]) hg.g hg.seq hn (by omega) (by omega) (by omega) (pgBytes_byte hg)
  refine hA.mono ?_
  rintro e w' ⟨rfl, vq', vr', s', u', l', hd, hR, hl, hm, hF⟩
  obtain ⟨a1, a2, a3⟩ := log_add hL hg (by rw [List.length_append]; omega) hd hl
  exact ⟨rfl, vq', vr', s', _, a1, rfl, a3, by show u' * 64 + l'.length ≤ _; omega, hR, hm, hF⟩
theorem rsync_logX (h : RkM w base gd gs ge gr vq vr s r) (hL : LogI s r H C U sure pend) (hroom : r.used * 64 + r.rest.length ≤ s.n * 64) :
    Calls Try.prog 13 #[.pointer (some ⟨gr, 0, none⟩)] w fun e w' => e = .returned (.tuple #[]) ∧ ∃ vr' s' r' H' C' U', LogI s' r' H' C' U' (sure ++ pend) [] ∧ (∃ X, C' = C ++ X) ∧ r'.next = r.next ∧ s'.n = s.n ∧ s'.qs = [] ∧ r'.used * 64 + r'.rest.length ≤ r.used * 64 + r.rest.length + 63 ∧
      RkM w' base gd gs ge gr (.slice none 0 0) vr' s' r' ∧ Mod (rkF gd gs ge gr vq vr) w w' ∧ (∀ x, rkF gd gs ge gr (.slice none 0 0) vr' x → rkF gd gs ge gr vq vr x ∨ w.heap.size ≤ x) := by
  have hnb := h.nb
  have hn1 := h.dk.ok.n1
  have hu : r.rest ≠ [] → r.used < s.n := fun hne => by
    have := List.length_pos_iff.2 hne
    omega
  have hS := rsync_any h hL.rl hu
  refine hS.mono ?_
  rintro e w' ⟨rfl, vr', hR, hm, hF⟩
  obtain ⟨a1, a2, a3⟩ := log_sync hL hu (by omega) hn1
  refine ⟨rfl, vr', _, _, _, _, _, a1, ⟨_, rfl⟩, rfl, a2, rfl, by show syncU r * 64 + 0 ≤ _; omega, hR, hm, fun x hx => ?_⟩
  rcases hx with (hx | hx | hx | hx) | hx | hx
  · exact .inl (.inl (.inl hx))
  · exact .inl (.inl (.inr (.inl hx)))
  · exact .inl (.inl (.inr (.inr (.inl hx))))
  · cases hx
  · exact .inl (.inr (.inl hx))
  · rcases hF x hx with h | h
    · exact .inl (.inr (.inr h))
    · exact .inr h
theorem LogI.sec0 (h : LogI s r H C U sure pend) : (s.see.drop (64 * 0)).take 64 = H := by
  have h1 := congrArg (List.take 64) h.head
  have := h.u1
  rw [List.take_take, Nat.min_eq_left (by omega), ← h.hl, List.take_left] at h1
  rw [Nat.mul_zero, List.drop_zero, ← h.hl]
  exact h1
theorem dread0_log (h : DkM w base gd gs ge vq s) (hL : LogI s r H C U sure pend) :
    Calls Try.prog 19 #[.pointer (some ⟨gd, 0, none⟩), .int .i64 0] w fun e w' => ∃ A c, e = .returned (.tuple #[.slice A 64 c, .int .i64 0]) ∧ RdS w' (fun b => w.heap.size ≤ b ∧ b < w'.heap.size) .u8 A H ∧ byteB H ∧ Below w.heap.size w w' := by
  have hn := h.ok.n0
  have hR := dread_any h (N := 0) (by omega)
  have hb : byteB H := fun x hx => by
    rw [← hL.sec0] at hx
    exact h.ok.b2 x (List.mem_of_mem_drop (List.mem_of_mem_take hx))
  rw [hL.sec0] at hR
  refine hR.mono ?_
  rintro e w' ⟨v, rfl, ho, hbe⟩
  obtain ⟨A, c, rfl, _⟩ := ho.form
  obtain ⟨_, _, hr⟩ := ho.rds
  rw [hL.hl]
  exact ⟨A, c, rfl, hr.weak (fun b hb _ => ⟨hb.1, hb.2.1⟩), hb, hbe⟩
theorem dwrite0 (h : DkM w base gd gs ge vq s) {A : Option Addr} {c : Nat} {b : List Int} (hb : b.length = 64) (hbb : byteB b) (hq : s.qs.length ≤ 1000000) (hr : RdI w w.heap.size .u8 A b) :
    Calls Try.prog 20 #[.pointer (some ⟨gd, 0, none⟩), .int .i64 0, .slice A 64 c] w fun e w' => e = .returned (.int .i64 0) ∧ ∃ vq', DkM w' base gd gs ge vq' (s.write 0 b) ∧ Mod (dkF gd gs ge vq) w w' ∧ (∀ x, dkF gd gs ge vq' x → dkF gd gs ge vq x ∨ w.heap.size ≤ x) := by
  have hn := h.ok.n0
  have hW := dwrite_any h (N := 0) (by omega) A c b hb hbb hq hr
  rw [hb] at hW
  refine hW.mono ?_
  rintro e w' ⟨rfl, vq', hD, hm, hF⟩
  refine ⟨rfl, vq', hD, hm, fun x hx => ?_⟩
  rcases hx with hx | hx | hx | hx
  · exact .inl (.inl hx)
  · exact .inl (.inr (.inl hx))
  · exact .inl (.inr (.inr (.inl hx)))
  · rcases hF x hx with h | h
    · exact .inl (.inr (.inr (.inr h)))
    · exact .inr h
end
theorem hdr_12 {a b : List Int} {P U : Nat} (h : Hdr a P U) (e12 : b.take 12 = a.take 12) : Hdr b P U := by
  have e4 : b.take 4 = a.take 4 := by
    have := congrArg (List.take 4) e12
    rw [List.take_take, List.take_take] at this
    exact this
  rcases h with ⟨h1, h2, h3⟩ | ⟨h1, h2, h3⟩
  · exact .inl ⟨by rw [e12]; exact h1, h2, h3⟩
  · exact .inr ⟨by rw [e4]; exact h1, h2, h3⟩
/-- The last write of a Sync is torn. -/
theorem torn_good {s2 : Dk} {r2 : Rc} {H2 C2 H C X : List Int} {U2 U : Nat} {a c : List Pg} (h2 : LogI s2 r2 H2 C2 U2 (a ++ c) []) (hl : H.length = 64) (cl : C.length = 64 * (U - 1)) (u1 : 1 ≤ U) (hd : Hdr H a.length U) (laid : Laid C a) (hX : C2 = C ++ X) (hn : (a ++ c).length ≤ 100000) (way : Nat) (hw : way ≤ 2) :
    Good ((((s2.write 0 H).flush).write 0 H2).crash [(way : Int)]) (if way = 0 then a else a ++ c) (if way = 0 then U else U2) := by
  have hcl2 := h2.cl
  have u12 := h2.u1
  have hl2 := h2.hl
  have hU : U ≤ U2 := by rw [hX, List.length_append, cl] at hcl2; omega
  have un2 : U2 ≤ s2.n := Nat.le_trans h2.uu h2.un
  have e0 : ∀ (l x y : List Int), x.length ≤ 64 → y.length = 64 → l.take (64 * U2) = y ++ C2 → (updB l 0 x).take (64 * U2) = (x ++ y.drop x.length) ++ C2 := fun l x y hx hy e => by
    rw [updB_first (by omega), e, List.drop_append_of_le_length (by omega), List.append_assoc]
  have e1 := e0 s2.see H H2 (by omega) hl2 h2.head
  have d2 : H2.drop 64 = [] := List.drop_eq_nil_of_le (by omega)
  have d1 : H.drop 64 = [] := List.drop_eq_nil_of_le (by omega)
  rw [hl, d2, List.append_nil] at e1
  rw [List.length_append] at hn
  rcases (by omega : way = 0 ∨ way = 1 ∨ way = 2) with rfl | rfl | rfl
  · rw [if_pos rfl, if_pos rfl]
    have hs : ((((s2.write 0 H).flush).write 0 H2).crash [((0 : Nat) : Int)]).see = updB s2.see 0 H := rfl
    refine good_of hl cl u1 (Nat.le_trans hU un2) hd laid ?_ (by omega)
    rw [hs]
    have := congrArg (List.take (64 * U)) e1
    rw [List.take_take, Nat.min_eq_left (by omega), hX, ← List.append_assoc] at this
    rw [this, List.take_append_of_le_length (by rw [List.length_append]; omega), List.take_of_length_le (by rw [List.length_append]; omega)]
  · rw [if_neg (by omega), if_neg (by omega)]
    have hs : ((((s2.write 0 H).flush).write 0 H2).crash [((1 : Nat) : Int)]).see = updB (updB s2.see 0 H) 0 H2 := rfl
    refine good_of hl2 hcl2 u12 un2 h2.hd h2.laid ?_ (by rw [List.length_append]; exact hn)
    rw [hs]
    have := e0 (updB s2.see 0 H) H2 H (by omega) hl e1
    rw [hl2, d1, List.append_nil] at this
    exact this
  · rw [if_neg (by omega), if_neg (by omega)]
    have hs : ((((s2.write 0 H).flush).write 0 H2).crash [((2 : Nat) : Int)]).see = updB (updB s2.see 0 H) 0 (H2.take 32) := rfl
    have h32 : (H2.take 32).length = 32 := by rw [List.length_take]; omega
    refine good_of (H := H2.take 32 ++ H.drop 32) (by rw [List.length_append, h32, List.length_drop]; omega) hcl2 u12 un2 (hdr_12 h2.hd (by rw [List.take_append_of_le_length (by omega), List.take_take]; rfl)) h2.laid ?_ (by rw [List.length_append]; exact hn)
    rw [hs]
    have := e0 (updB s2.see 0 H) (H2.take 32) H (by omega) hl e1
    rw [h32] at this
    exact this
section
variable {w0 w w' : World} {gt base : Nat} {F : Nat → Prop} {va : Value} {added : List Pg} {D : Nat → Prop}
theorem Sd.fill (h : Sd w0 w gt base F va added D) (ht : TapeB w' w0.heap.size gt) (hg : w.grownBy w' (some gt)) {v : Value} {ps : List Pg} (ho : OwnG PgR 5 38 w' w.heap.size (fun b => w.heap.size ≤ b ∧ b < w'.heap.size) v ps) (hb : base ≤ w.heap.size) : Sd w0 w' gt base F v ps (fun b => w.heap.size ≤ b ∧ b < w'.heap.size) where
  tp := ht
  tb := h.tb
  Fb := (h.tape ht hg).Fb
  ad := ho.base_ hb
  vn := fun b hb e => by have := (ho.own_ge b hb).1; have := (h.Fb b e).2; omega
  Dn := fun b hb' => ⟨by have := hb'.1; omega, hb'.2, fun e => by have := (h.Fb b e).2; have := hb'.1; omega⟩
theorem Sd.rd {A : Option Addr} {n c : Nat} (h : Sd w0 w gt base F (.slice A n c) added D) : n = added.length ∧ n ≤ c ∧ RdPg w (fun b => base ≤ b ∧ b < w.heap.size ∧ ¬ F b) A added := by
  obtain ⟨A', c', hv, hc, hr, ho⟩ := h.ad.form PgR.good
  simp only [Value.slice.injEq] at hv
  obtain ⟨rfl, rfl, rfl⟩ := hv
  refine ⟨rfl, hc, hr.weak PgR.good (fun b hb _ => ?_)⟩
  rcases hb with hb | hb
  · exact h.Dn b hb.1
  · exact ⟨(ho b hb).1, (ho b hb).2, h.vn b hb⟩
end
theorem RdS.one (w : World) (k : IntKind) (x : Int) (e : TypeId) : RdS (w.alloc (.cells #[.int k x] e)) (fun b => b = w.heap.size) k (some ⟨w.heap.size, 0, none⟩) [x] := by
  obtain ⟨h1, h2⟩ := RdI.one w k x e
  refine ⟨h1, fun hn => ?_⟩
  obtain ⟨ad, he, hb, hc⟩ := h2 hn
  obtain rfl := Option.some.inj he
  exact ⟨_, rfl, rfl, hc⟩
theorem dkF_nil {gd gs ge x : Nat} {vq : Value} (h : dkF gd gs ge (.slice none 0 0) x) : dkF gd gs ge vq x := by
  rcases h with hx | hx | hx | hx
  · exact .inl hx
  · exact .inr (.inl hx)
  · exact .inr (.inr (.inl hx))
  · cases hx
end Go.Proofs.Ytdlbjilbdbjadaa
