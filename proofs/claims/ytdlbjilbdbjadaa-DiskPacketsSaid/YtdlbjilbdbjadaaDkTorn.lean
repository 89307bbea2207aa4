/- A recorder's disk, written while something else is torn. -/
import Derived.Test.YtdlbjilbdbjadaaDkLog
import Derived.Test.YtdlbjilbdbjadaaOwnEmp
set_option linter.unusedSimpArgs false
set_option linter.unusedVariables false
namespace Go.Proofs.Ytdlbjilbdbjadaa
open Go.RowKit

theorem PgGood.short {p : Pg} {k : Nat} (h : PgGood p k) : 1 ≤ p.body.length ∧ p.body.length ≤ 252 := by
  have h1 := of_decide_eq_true h.ok
  have h2 : mostB p.guard = 252 := by rw [h.g]; rfl
  omega
set_option maxHeartbeats 8000000 in
set_option maxRecDepth 100000 in
theorem tapepgs_any {w : World} {B g : Nat} (h : TapeB w B g) (n0 : Nat) (hn0 : n0 ≤ 1000) (m : Nat) (m1 : m ≤ 1000) :
    Calls Try.prog 18 #[.pointer (some ⟨g, 0, none⟩), .int .i64 (n0 : Int), .int .i64 (m : Int)] w fun e w' => ∃ v ps, e = .returned v ∧ ps.length ≤ m ∧ (∀ i (hi : i < ps.length), PgGood ps[i] (n0 + i)) ∧
      OwnG PgR 5 38 w' w.heap.size (fun b => w.heap.size ≤ b ∧ b < w'.heap.size) v ps ∧ TapeB w' B g ∧ w.grownBy w' (some g) := by
  have HNm := Lib.hid (next_any h ((m : Int) + 1) (by omega) (by omega))
  have HPg := Lib.hid (fun W (hW : TapeB W B g) (s : Int) => tapepage_any hW s)
  have hgl := h.lt
  have hBg := h.ge
  clear h
  go_enter Try.func18, Try.ntmps18
  go_wp2_with (first
    | (go_at_call 10; (with_reducible refine HNm.out.mono ?_); rintro e w2 ⟨N, rfl, hr2, hT2, hg2⟩))
  have hNm : N ≤ m := by omega
  clear hr2 HNm
  go_loopw [7, 8] (fun v i wr => ∃ (l : List Pg), l.length ≤ N ∧ i = .int .i64 ((N : Int) - (l.length : Int)) ∧ (∀ i (hi : i < l.length), PgGood l[i] (n0 + i)) ∧
    OwnG PgR 5 38 wr w.heap.size (fun b => w.heap.size ≤ b ∧ b < wr.heap.size) v l ∧ TapeB wr B g ∧ w.grownBy wr (some g)) (fun _ i _ => (intOf i).toNat)
  case atStart => exact ⟨[], Nat.zero_le _, by simp, fun i hi => absurd hi (by simp), OwnG.nil_ _ _ _ _ _ _, hT2, hg2⟩
  case round =>
    obtain ⟨l, hl, rfl, hpk, hown, hTr, hgw⟩ := hrel
    have hpk' := Lib.hid hpk
    clear hpk hT2 hg2
    have hszr := hgw.size
    by_cases hlt : l.length < N
    · have hp : decide (0 < (N : Int) - (l.length : Int)) = true := by simp; omega
      obtain ⟨A0, c0, rfl, hc0, _, hob0⟩ := hown.form PgR.good
      obtain ⟨k, hk⟩ : ∃ k, n0 + l.length = k := ⟨_, rfl⟩
      have q0 : IntKind.i64.wrap ((n0 : Int) + (l.length : Int)) = (k : Int) := by rw [IntWalk.i64_in _ (by omega)]; omega
      have HP := HPg.out _ hTr (k : Int)
      simp only [Pg.val] at HP
      replace HP := Lib.hid HP
      have ho := Lib.hid hown
      clear hown
      have hk' := Lib.hid hk
      clear hk
      go_wp2_with (first
        | (go_at_call 11; (with_reducible refine HP.out.mono ?_); rintro e w6 ⟨f1, f2, pb, A6, c6, rfl, hp1, hp2, hpB, ho6, hT6, hg6⟩; have hs6 := hg6.size; obtain ⟨_, hc6, hr6⟩ := ho6.rds; have hown6 := ho.out.keep PgR.good (M := (· = g)) (Mod.of_only hg6 (fun _ => rfl)) (fun b hb _ => (show ¬ b = g from (by have := hb.1; omega))) (fun b hb => (show ¬ b = g from (by have := hob0 b hb; omega))); have hrx : RdS w6 (fun b => wr.heap.size ≤ b ∧ b < w6.heap.size) .u8 A6 pb := hr6.weak (fun b hb _ => ⟨hb.1, hb.2.1⟩); have hgood := pgGood_of (k := k) (f1 := f1) (f2 := f2) (by have := hk'.out; omega) hp1 hp2 hpB; have hhg := Lib.hid hgood; clear hgood)
        | (at_builtin; (refine wpList_push_G (v := .slice A0 l.length c0) rfl (.tmp 17) (.tmp 24) _ rfl PgR.good w6 (.agg #[.int .i64 0, .bool false, .bool false, .bool false, .slice none 0 0]) 40 Try.underlying30 info_pg rfl (by omega) rfl hown6 (fun b => wr.heap.size ≤ b ∧ b < w6.heap.size) _ 1 [.int .i64 (k : Int), .bool f1, .bool f2, .bool false, .slice A6 pb.length c6] ⟨(k : Int), f1, f2, false, pb⟩ rfl rfl (show PgR _ _ _ _ from ⟨A6, c6, rfl, hc6, hrx, hhg.out.wf⟩) (fun b => w.heap.size ≤ b ∧ b ≤ w6.heap.size) (fun b hb _ => ⟨hb.1, by have := hb.2; omega⟩) (fun b hb _ => ⟨by have := hb.1; omega, by have := hb.2; omega⟩) (fun b hb h => by have := (hob0 b hb).2; have := h.1; omega) (fun b hb => hb.2) ⟨by omega, Nat.le_refl _⟩ (by omega) (by omega) ?_); intro v7 w7 ow7 hg7 hv7))
      have hg7' : w6.grownBy w7 (Value.ownBlock _) := only_trans (only_alloc (only_refl _ _) _) hg7
      have hM7 : Mod (fun b => w.heap.size ≤ b) w6 w7 := Mod.of_grown hg7' (fun x hx _ => (hob0 x hx).1)
      have hbe7 : Below w.heap.size w6 w7 := hM7.below (by omega) (fun b hb => hb)
      have hT7 := hT6.below hbe7 hgl
      have hgw7 := only_then_below (only_trans hgw hg6) hbe7 (Nat.le_refl _)
      have hs7 := hg7.size
      simp at hs7
      go_roundw
      case rel =>
        refine ⟨l ++ [⟨(k : Int), f1, f2, false, pb⟩], by rw [List.length_append]; simp; omega, by first | (rw [List.length_append]; go_num) | (simp; omega), fun i hi => ?_, ow7.weak PgR.good (fun b hb hl9 => ⟨hb.1, hl9⟩), hT7, hgw7⟩
        rw [List.length_append] at hi
        by_cases hil : i < l.length
        · rw [List.getElem_append_left hil]; exact hpk'.out i hil
        · have : i = l.length := by simp at hi; omega
          subst this
          rw [List.getElem_append_right (Nat.le_refl _)]
          simp only [Nat.sub_self, List.getElem_cons_zero, hk'.out]
          exact hhg.out
      case measure => simp [intOf]; omega
    · have hp : decide (0 < (N : Int) - (l.length : Int)) = false := by simp; omega
      go_wp2
      go_ret
      exact ⟨_, l, rfl, by omega, hpk'.out, hown, hTr, hgw⟩
end Go.Proofs.Ytdlbjilbdbjadaa

namespace Go.Proofs.Ytdlbjilbdbjadaa
open Go.RowKit

section
variable {w : World} {base gd gs ge gr : Nat} {vq vr : Value} {s : Dk} {r : Rc} {H C : List Int} {U : Nat} {sure pend : List Pg}
theorem radd_pg (h : RkM w base gd gs ge gr vq vr s r) (hL : LogI s r H C U sure pend) {p : Pg} (hg : PgGood p r.next) {A : Option Addr} {c : Nat} (hr : RdI w w.heap.size .u8 A p.body) (hn : r.next < 1000000) (hsp : r.used * 64 + r.rest.length + 264 ≤ s.n * 64) :
    Calls Try.prog 12 #[.pointer (some ⟨gr, 0, none⟩), .agg #[.int .i64 p.seq, .bool p.first, .bool p.last, .bool p.guard, .slice A p.body.length c]] w fun e w' => e = .returned (.int .i64 0) ∧ ∃ vq' vr' s' r', LogI s' r' H C U sure (pend ++ [p]) ∧ r'.next = r.next + 1 ∧ s'.n = s.n ∧
      r'.used * 64 + r'.rest.length ≤ r.used * 64 + r.rest.length + 264 ∧ RkM w' base gd gs ge gr vq' vr' s' r' ∧ Mod (rkF gd gs ge gr vq vr) w w' ∧ (∀ x, rkF gd gs ge gr vq' vr' x → rkF gd gs ge gr vq vr x ∨ w.heap.size ≤ x) := by
  have hsh := hg.short
  have hpl := pgBytes_len p
  have hrl := hL.rl
  have hA := radd_any h p A c hg.wf hr (by rw [pgE, if_pos hg.ok]) hg.g hg.seq hn (by omega) (by omega) (by omega) (pgBytes_byte hg)
  refine hA.mono ?_
  rintro e w' ⟨rfl, vq', vr', s', u', l', hd, hR, hl, hm, hF⟩
  obtain ⟨a1, a2, a3⟩ := log_add hL hg (by rw [List.length_append]; omega) hd hl
  exact ⟨rfl, vq', vr', s', _, a1, rfl, a3, by show u' * 64 + l'.length ≤ _; omega, hR, hm, hF⟩
theorem rsync_logX (h : RkM w base gd gs ge gr vq vr s r) (hL : LogI s r H C U sure pend) (hroom : r.used * 64 + r.rest.length ≤ s.n * 64) :
    Calls Try.prog 13 #[.pointer (some ⟨gr, 0, none⟩)] w fun e w' => e = .returned (.tuple #[]) ∧ ∃ vr' s' r' H' C' U', LogI s' r' H' C' U' (sure ++ pend) [] ∧ (∃ X, C' = C ++ X) ∧ r'.next = r.next ∧ s'.n = s.n ∧ s'.qs = [] ∧ r'.used * 64 + r'.rest.length ≤ r.used * 64 + r.rest.length + 63 ∧
      RkM w' base gd gs ge gr (.slice none 0 0) vr' s' r' ∧ Mod (rkF gd gs ge gr vq vr) w w' ∧ (∀ x, rkF gd gs ge gr (.slice none 0 0) vr' x → rkF gd gs ge gr vq vr x ∨ w.heap.size ≤ x) := by
  have hnb := h.nb
  have hn1 := h.dk.ok.n1
  have hu : r.rest ≠ [] → r.used < s.n := fun hne => by
    have := List.length_pos_iff.2 hne
    omega
  have hS := rsync_any h hL.rl hu
  refine hS.mono ?_
  rintro e w' ⟨rfl, vr', hR, hm, hF⟩
  obtain ⟨a1, a2, a3⟩ := log_sync hL hu (by omega) hn1
  refine ⟨rfl, vr', _, _, _, _, _, a1, ⟨_, rfl⟩, rfl, a2, rfl, by show syncU r * 64 + 0 ≤ _; omega, hR, hm, fun x hx => ?_⟩
  rcases hx with (hx | hx | hx | hx) | hx | hx
  · exact .inl (.inl (.inl hx))
  · exact .inl (.inl (.inr (.inl hx)))
  · exact .inl (.inl (.inr (.inr (.inl hx))))
  · cases hx
  · exact .inl (.inr (.inl hx))
  · rcases hF x hx with h | h
    · exact .inl (.inr (.inr h))
    · exact .inr h
theorem LogI.sec0 (h : LogI s r H C U sure pend) : (s.see.drop (64 * 0)).take 64 = H := by
  have h1 := congrArg (List.take 64) h.head
  have := h.u1
  rw [List.take_take, Nat.min_eq_left (by omega), ← h.hl, List.take_left] at h1
  rw [Nat.mul_zero, List.drop_zero, ← h.hl]
  exact h1
theorem dread0_log (h : DkM w base gd gs ge vq s) (hL : LogI s r H C U sure pend) :
    Calls Try.prog 19 #[.pointer (some ⟨gd, 0, none⟩), .int .i64 0] w fun e w' => ∃ A c, e = .returned (.tuple #[.slice A 64 c, .int .i64 0]) ∧ RdS w' (fun b => w.heap.size ≤ b ∧ b < w'.heap.size) .u8 A H ∧ byteB H ∧ Below w.heap.size w w' := by
  have hn := h.ok.n0
  have hR := dread_any h (N := 0) (by omega)
  have hb : byteB H := fun x hx => by
    rw [← hL.sec0] at hx
    exact h.ok.b2 x (List.mem_of_mem_drop (List.mem_of_mem_take hx))
  rw [hL.sec0] at hR
  refine hR.mono ?_
  rintro e w' ⟨v, rfl, ho, hbe⟩
  obtain ⟨A, c, rfl, _⟩ := ho.form
  obtain ⟨_, _, hr⟩ := ho.rds
  rw [hL.hl]
  exact ⟨A, c, rfl, hr.weak (fun b hb _ => ⟨hb.1, hb.2.1⟩), hb, hbe⟩
theorem dwrite0 (h : DkM w base gd gs ge vq s) {A : Option Addr} {c : Nat} {b : List Int} (hb : b.length = 64) (hbb : byteB b) (hq : s.qs.length ≤ 1000000) (hr : RdI w w.heap.size .u8 A b) :
    Calls Try.prog 20 #[.pointer (some ⟨gd, 0, none⟩), .int .i64 0, .slice A 64 c] w fun e w' => e = .returned (.int .i64 0) ∧ ∃ vq', DkM w' base gd gs ge vq' (s.write 0 b) ∧ Mod (dkF gd gs ge vq) w w' ∧ (∀ x, dkF gd gs ge vq' x → dkF gd gs ge vq x ∨ w.heap.size ≤ x) := by
  have hn := h.ok.n0
  have hW := dwrite_any h (N := 0) (by omega) A c b hb hbb hq hr
  rw [hb] at hW
  refine hW.mono ?_
  rintro e w' ⟨rfl, vq', hD, hm, hF⟩
  refine ⟨rfl, vq', hD, hm, fun x hx => ?_⟩
  rcases hx with hx | hx | hx | hx
  · exact .inl (.inl hx)
  · exact .inl (.inr (.inl hx))
  · exact .inl (.inr (.inr (.inl hx)))
  · rcases hF x hx with h | h
    · exact .inl (.inr (.inr (.inr h)))
    · exact .inr h
end
theorem hdr_12 {a b : List Int} {P U : Nat} (h : Hdr a P U) (e12 : b.take 12 = a.take 12) : Hdr b P U := by
  have e4 : b.take 4 = a.take 4 := by
    have := congrArg (List.take 4) e12
    rw [List.take_take, List.take_take] at this
    exact this
  rcases h with ⟨h1, h2, h3⟩ | ⟨h1, h2, h3⟩
  · exact .inl ⟨by rw [e12]; exact h1, h2, h3⟩
  · exact .inr ⟨by rw [e4]; exact h1, h2, h3⟩
/-- The last write of a Sync is torn. -/
theorem torn_good {s2 : Dk} {r2 : Rc} {H2 C2 H C X : List Int} {U2 U : Nat} {a c : List Pg} (h2 : LogI s2 r2 H2 C2 U2 (a ++ c) []) (hl : H.length = 64) (cl : C.length = 64 * (U - 1)) (u1 : 1 ≤ U) (hd : Hdr H a.length U) (laid : Laid C a) (hX : C2 = C ++ X) (hn : (a ++ c).length ≤ 100000) (way : Nat) (hw : way ≤ 2) :
    Good ((((s2.write 0 H).flush).write 0 H2).crash [(way : Int)]) (if way = 0 then a else a ++ c) (if way = 0 then U else U2) := by
  have hcl2 := h2.cl
  have u12 := h2.u1
  have hl2 := h2.hl
  have hU : U ≤ U2 := by rw [hX, List.length_append, cl] at hcl2; omega
  have un2 : U2 ≤ s2.n := Nat.le_trans h2.uu h2.un
  have e0 : ∀ (l x y : List Int), x.length ≤ 64 → y.length = 64 → l.take (64 * U2) = y ++ C2 → (updB l 0 x).take (64 * U2) = (x ++ y.drop x.length) ++ C2 := fun l x y hx hy e => by
    rw [updB_first (by omega), e, List.drop_append_of_le_length (by omega), List.append_assoc]
  have e1 := e0 s2.see H H2 (by omega) hl2 h2.head
  have d2 : H2.drop 64 = [] := List.drop_eq_nil_of_le (by omega)
  have d1 : H.drop 64 = [] := List.drop_eq_nil_of_le (by omega)
  rw [hl, d2, List.append_nil] at e1
  rw [List.length_append] at hn
  rcases (by omega : way = 0 ∨ way = 1 ∨ way = 2) with rfl | rfl | rfl
  · rw [if_pos rfl, if_pos rfl]
    have hs : ((((s2.write 0 H).flush).write 0 H2).crash [((0 : Nat) : Int)]).see = updB s2.see 0 H := rfl
    refine good_of hl cl u1 (Nat.le_trans hU un2) hd laid ?_ (by omega)
    rw [hs]
    have := congrArg (List.take (64 * U)) e1
    rw [List.take_take, Nat.min_eq_left (by omega), hX, ← List.append_assoc] at this
    rw [this, List.take_append_of_le_length (by rw [List.length_append]; omega), List.take_of_length_le (by rw [List.length_append]; omega)]
  · rw [if_neg (by omega), if_neg (by omega)]
    have hs : ((((s2.write 0 H).flush).write 0 H2).crash [((1 : Nat) : Int)]).see = updB (updB s2.see 0 H) 0 H2 := rfl
    refine good_of hl2 hcl2 u12 un2 h2.hd h2.laid ?_ (by rw [List.length_append]; exact hn)
    rw [hs]
    have := e0 (updB s2.see 0 H) H2 H (by omega) hl e1
    rw [hl2, d1, List.append_nil] at this
    exact this
  · rw [if_neg (by omega), if_neg (by omega)]
    have hs : ((((s2.write 0 H).flush).write 0 H2).crash [((2 : Nat) : Int)]).see = updB (updB s2.see 0 H) 0 (H2.take 32) := rfl
    have h32 : (H2.take 32).length = 32 := by rw [List.length_take]; omega
    refine good_of (H := H2.take 32 ++ H.drop 32) (by rw [List.length_append, h32, List.length_drop]; omega) hcl2 u12 un2 (hdr_12 h2.hd (by rw [List.take_append_of_le_length (by omega), List.take_take]; rfl)) h2.laid ?_ (by rw [List.length_append]; exact hn)
    rw [hs]
    have := e0 (updB s2.see 0 H) (H2.take 32) H (by omega) hl e1
    rw [h32] at this
    exact this
section
variable {w0 w w' : World} {gt base : Nat} {F : Nat → Prop} {va : Value} {added : List Pg} {D : Nat → Prop}
theorem Sd.fill (h : Sd w0 w gt base F va added D) (ht : TapeB w' w0.heap.size gt) (hg : w.grownBy w' (some gt)) {v : Value} {ps : List Pg} (ho : OwnG PgR 5 38 w' w.heap.size (fun b => w.heap.size ≤ b ∧ b < w'.heap.size) v ps) (hb : base ≤ w.heap.size) : Sd w0 w' gt base F v ps (fun b => w.heap.size ≤ b ∧ b < w'.heap.size) where
  tp := ht
  tb := h.tb
  Fb := (h.tape ht hg).Fb
  ad := ho.base_ hb
  vn := fun b hb e => by have := (ho.own_ge b hb).1; have := (h.Fb b e).2; omega
  Dn := fun b hb' => ⟨by have := hb'.1; omega, hb'.2, fun e => by have := (h.Fb b e).2; have := hb'.1; omega⟩
theorem Sd.rd {A : Option Addr} {n c : Nat} (h : Sd w0 w gt base F (.slice A n c) added D) : n = added.length ∧ n ≤ c ∧ RdPg w (fun b => base ≤ b ∧ b < w.heap.size ∧ ¬ F b) A added := by
  obtain ⟨A', c', hv, hc, hr, ho⟩ := h.ad.form PgR.good
  simp only [Value.slice.injEq] at hv
  obtain ⟨rfl, rfl, rfl⟩ := hv
  refine ⟨rfl, hc, hr.weak PgR.good (fun b hb _ => ?_)⟩
  rcases hb with hb | hb
  · exact h.Dn b hb.1
  · exact ⟨(ho b hb).1, (ho b hb).2, h.vn b hb⟩
end
theorem RdS.one (w : World) (k : IntKind) (x : Int) (e : TypeId) : RdS (w.alloc (.cells #[.int k x] e)) (fun b => b = w.heap.size) k (some ⟨w.heap.size, 0, none⟩) [x] := by
  obtain ⟨h1, h2⟩ := RdI.one w k x e
  refine ⟨h1, fun hn => ?_⟩
  obtain ⟨ad, he, hb, hc⟩ := h2 hn
  obtain rfl := Option.some.inj he
  exact ⟨_, rfl, rfl, hc⟩
theorem dkF_nil {gd gs ge x : Nat} {vq : Value} (h : dkF gd gs ge (.slice none 0 0) x) : dkF gd gs ge vq x := by
  rcases h with hx | hx | hx | hx
  · exact .inl hx
  · exact .inr (.inl hx)
  · exact .inr (.inr (.inl hx))
  · cases hx
end Go.Proofs.Ytdlbjilbdbjadaa
