/- A recorder whose disk holds pages: Add, Sync, Crash, Recover. -/
import Derived.Test.YtdlbjilbdbjadaaDkCrM
set_option linter.unusedSimpArgs false
set_option linter.unusedVariables false
namespace Go.Proofs.Ytdlbjilbdbjadaa
open Go.RowKit

theorem pgGood_of {k : Nat} {f1 f2 : Bool} {pb : List Int} (hk : k ≤ 1000000) (h1 : 1 ≤ pb.length) (h2 : pb.length ≤ 252) (hb : byteB pb) : PgGood ⟨(k : Int), f1, f2, false, pb⟩ k := by
  have h3 : mostB false = 252 := rfl
  refine ⟨decide_eq_true ⟨?_, ?_, h1, ?_⟩, rfl, rfl, ⟨⟨?_, ?_⟩, ?_, hb⟩⟩
  · show (0 : Int) ≤ (k : Int); omega
  · show (k : Int) ≤ 2147483647; omega
  · show (pb.length : Int) ≤ mostB false; rw [h3]; omega
  · show (-9223372036854775808 : Int) ≤ (k : Int); omega
  · show (k : Int) ≤ 9223372036854775807; omega
  · show pb.length ≤ 140737488355328; omega
section
variable {w : World} {base gd gs ge gr : Nat} {vq vr : Value} {s : Dk} {r : Rc} {H C : List Int} {U : Nat} {sure pend : List Pg}
theorem radd_log (h : RkM w base gd gs ge gr vq vr s r) (hL : LogI s r H C U sure pend) {f1 f2 : Bool} {pb : List Int} {A : Option Addr} {c : Nat} (h1 : 1 ≤ pb.length) (h2 : pb.length ≤ 252) (hb : byteB pb) (hr : RdI w w.heap.size .u8 A pb) (hn : r.next < 1000000) (hsp : r.used * 64 + r.rest.length + 264 ≤ s.n * 64) :
    Calls Try.prog 12 #[.pointer (some ⟨gr, 0, none⟩), .agg #[.int .i64 (r.next : Int), .bool f1, .bool f2, .bool false, .slice A pb.length c]] w fun e w' => e = .returned (.int .i64 0) ∧ ∃ vq' vr' s' r', LogI s' r' H C U sure (pend ++ [⟨(r.next : Int), f1, f2, false, pb⟩]) ∧ r'.next = r.next + 1 ∧ s'.n = s.n ∧
      r'.used * 64 + r'.rest.length = r.used * 64 + r.rest.length + pb.length + 12 ∧ RkM w' base gd gs ge gr vq' vr' s' r' ∧ Mod (rkF gd gs ge gr vq vr) w w' ∧ (∀ x, rkF gd gs ge gr vq' vr' x → rkF gd gs ge gr vq vr x ∨ w.heap.size ≤ x) := by
  have hg := pgGood_of (k := r.next) (f1 := f1) (f2 := f2) (by omega) h1 h2 hb
  have hpl := pgBytes_len ⟨(r.next : Int), f1, f2, false, pb⟩
  simp only at hpl
  have hrl := hL.rl
  have hA := radd_any h ⟨(r.next : Int), f1, f2, false, pb⟩ A c hg.wf hr (by rw [pgE, if_pos hg.ok]) rfl rfl hn (by omega) (by omega) (by omega) (pgBytes_byte hg)
  refine hA.mono ?_
  rintro e w' ⟨rfl, vq', vr', s', u', l', hd, hR, hl, hm, hF⟩
  obtain ⟨a1, a2, a3⟩ := log_add hL hg (by rw [List.length_append]; omega) hd hl
  exact ⟨rfl, vq', vr', s', _, a1, rfl, a3, by show u' * 64 + l'.length = _; omega, hR, hm, hF⟩
theorem rsync_log (h : RkM w base gd gs ge gr vq vr s r) (hL : LogI s r H C U sure pend) (hroom : r.used * 64 + r.rest.length ≤ s.n * 64) :
    Calls Try.prog 13 #[.pointer (some ⟨gr, 0, none⟩)] w fun e w' => e = .returned (.tuple #[]) ∧ ∃ vr' s' r' H' C' U', LogI s' r' H' C' U' (sure ++ pend) [] ∧ r'.next = r.next ∧ s'.n = s.n ∧ r'.used * 64 + r'.rest.length ≤ r.used * 64 + r.rest.length + 63 ∧
      RkM w' base gd gs ge gr (.slice none 0 0) vr' s' r' ∧ Mod (rkF gd gs ge gr vq vr) w w' ∧ (∀ x, rkF gd gs ge gr (.slice none 0 0) vr' x → rkF gd gs ge gr vq vr x ∨ w.heap.size ≤ x) := by
  have hnb := h.nb
  have hn1 := h.dk.ok.n1
  have hu : r.rest ≠ [] → r.used < s.n := fun hne => by
    have := List.length_pos_iff.2 hne
    omega
  have hS := rsync_any h hL.rl hu
  refine hS.mono ?_
  rintro e w' ⟨rfl, vr', hR, hm, hF⟩
  obtain ⟨a1, a2, a3⟩ := log_sync hL hu (by omega) hn1
  refine ⟨rfl, vr', _, _, _, _, _, a1, rfl, a2, by show syncU r * 64 + 0 ≤ _; omega, hR, hm, fun x hx => ?_⟩
  rcases hx with (hx | hx | hx | hx) | hx | hx
  · exact .inl (.inl (.inl hx))
  · exact .inl (.inl (.inr (.inl hx)))
  · exact .inl (.inl (.inr (.inr (.inl hx))))
  · cases hx
  · exact .inl (.inr (.inl hx))
  · rcases hF x hx with h | h
    · exact .inl (.inr (.inr h))
    · exact .inr h
theorem dcrash_log (h : DkM w base gd gs ge vq s) (hL : LogI s r H C U sure pend) (hq : s.qs.length ≤ 1000000) (Ak : Option Addr) (ck : Nat) (kept : List Int) (hb : ∀ x ∈ kept, i64B x) (hc : kept.length ≤ ck) {B : Nat} (hr : RdI w B .i64 Ak kept) (hB : B ≤ base) :
    Calls Try.prog 14 #[.pointer (some ⟨gd, 0, none⟩), .slice Ak kept.length ck] w fun e w' => e = .returned (.tuple #[]) ∧ ∃ s', LogI s' ⟨sure.length, U, []⟩ H C U sure [] ∧ s'.n = s.n ∧ s'.qs = [] ∧ DkM w' base gd gs ge (.slice none 0 0) s' ∧ Mod (dkF gd gs ge vq) w w' := by
  refine (dcrash_any h hq Ak ck kept hb hc hr hB).mono ?_
  rintro e w' ⟨rfl, hD, hm⟩
  refine ⟨rfl, _, log_crash hL kept, rfl, rfl, hD, hm.mono (fun b hb _ => ?_)⟩
  rcases hb with hb | hb | hb
  · exact .inl hb
  · exact .inr (.inl hb)
  · exact .inr (.inr (.inl hb))
theorem recover_log (h : DkM w base gd gs ge vq s) (G : Good s sure U) :
    Calls Try.prog 15 #[.pointer (some ⟨gd, 0, none⟩)] w fun e w' => ∃ A c, e = .returned (.tuple #[.slice A sure.length c, .int .i64 0]) ∧ RdPg w' (fun b => w.heap.size ≤ b ∧ b < w'.heap.size) A sure ∧ OwnG PgR 5 38 w' w.heap.size (fun b => w.heap.size ≤ b ∧ b < w'.heap.size) (.slice A sure.length c) sure ∧ Below w.heap.size w w' := by
  refine (recover_any h G.hdr G.u1 G.un G.lies G.len).mono ?_
  rintro e w' ⟨v, rfl, ho, hb⟩
  obtain ⟨A, c, rfl, hc, hr, hA⟩ := ho.form PgR.good
  refine ⟨A, c, rfl, ?_, ho, hb⟩
  exact hr.weak PgR.good (fun b hb _ => by
    rcases hb with hb | hb
    · exact hb.1
    · exact hA b hb)
end
end Go.Proofs.Ytdlbjilbdbjadaa
