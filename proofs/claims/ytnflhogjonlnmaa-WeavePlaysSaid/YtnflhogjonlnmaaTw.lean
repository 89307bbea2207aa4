/- Both Weavers side by side: the program's and the reference's. -/
import Derived.Test.YtnflhogjonlnmaaWvPut
import Derived.Test.YtnflhogjonlnmaaRWvPut
import Derived.Test.YtnflhogjonlnmaaRWvTake
set_option linter.unusedSimpArgs false
set_option linter.unusedVariables false
namespace Go.Proofs.Ytnflhogjonlnmaa
open Go.RowKit

abbrev Nw (w0 : World) (b : Nat) : Prop := w0.heap.size ≤ b
structure TwF (w0 w : World) (gv gx : Nat) (s x : Wv) (F D F' D' : Nat → Prop) : Prop where
  pv : WvR w F D gv s
  rx : RWvR w F' D' gx x
  f0 : ∀ b, F b → w0.heap.size ≤ b
  f1 : ∀ b, F' b → w0.heap.size ≤ b
  fd : ∀ b, F b → ¬ F' b ∧ ¬ D' b
  df : ∀ b, F' b → ¬ D b
def TwM (w0 w : World) (gv gx : Nat) (s x : Wv) : Prop := ∃ F D F' D', TwF w0 w gv gx s x F D F' D'
/-- beside a packet just taken of the program's -/
def TwT (w0 w : World) (gv gx : Nat) (s x : Wv) (A : Option Addr) (l : List Int) : Prop := ∃ F D F' D', TwF w0 w gv gx s x F D F' D' ∧ RdS w D .u8 A l
section
variable {w0 w w' : World} {gv gx : Nat} {s x : Wv} {F D F' D' : Nat → Prop} {A : Option Addr} {l : List Int}
theorem TwF.below (h : TwF w0 w gv gx s x F D F' D') (hb : Below w.heap.size w w') : TwF w0 w' gv gx s x F D F' D' := { h with pv := h.pv.below hb, rx := h.rx.below hb }
theorem TwM.below (h : TwM w0 w gv gx s x) (hb : Below w.heap.size w w') : TwM w0 w' gv gx s x := by
  obtain ⟨F, D, F', D', h⟩ := h
  exact ⟨F, D, F', D', h.below hb⟩
theorem TwM.drewN (h : TwM w0 w gv gx s x) (n : Nat) : TwM w0 (w.drewN n) gv gx s x := h.below (below_drewN (Below.refl _ _) n)
theorem TwT.below (h : TwT w0 w gv gx s x A l) (hb : Below w.heap.size w w') : TwT w0 w' gv gx s x A l := by
  obtain ⟨F, D, F', D', h, hr⟩ := h
  exact ⟨F, D, F', D', h.below hb, hr.keep (M := fun _ => False) (Mod.of_fresh hb) (fun _ _ _ h => h)⟩
theorem TwF.low (h : TwF w0 w gv gx s x F D F' D') : w0.heap.size ≤ w.heap.size := by
  obtain ⟨gq, vs, h1, h2, h3⟩ := h.pv
  have := h.f0 _ h2.gF.2.1
  have := h1.lt
  omega
theorem TwM.low (h : TwM w0 w gv gx s x) : w0.heap.size ≤ w.heap.size := by obtain ⟨_, _, _, _, h⟩ := h; exact h.low
theorem TwM.oks (h : TwM w0 w gv gx s x) : s.ok 0 ∧ x.ok (-1) := by obtain ⟨_, _, _, _, h⟩ := h; exact ⟨h.pv.ok, h.rx.ok⟩
theorem TwF.prog (h : TwF w0 w gv gx s x F D F' D') {s' : Wv} {F1 D1 : Nat → Prop} (hp : WvR w' F1 D1 gv s') (hF : ∀ b, F1 b → F b ∨ w.heap.size ≤ b) (hD : ∀ b, D1 b → D b ∨ w.heap.size ≤ b) (hm : Mod F w w') : TwF w0 w' gv gx s' x F1 D1 F' D' where
  pv := hp
  rx := h.rx.keep hm (fun b hb hf => (h.fd b hf).1 hb) (fun b hb hf => (h.fd b hf).2 hb)
  f0 := fun b hb => by
    rcases hF b hb with h1 | h1
    · exact h.f0 b h1
    · have := h.low; omega
  f1 := h.f1
  fd := fun b hb => by
    rcases hF b hb with h1 | h1
    · exact h.fd b h1
    · exact ⟨fun h2 => by have := h.rx.Flt b h2; omega, fun h2 => by have := (h.rx.Dlt b h2).1; omega⟩
  df := fun b hb h2 => by
    rcases hD b h2 with h1 | h1
    · exact h.df b hb h1
    · have := h.rx.Flt b hb; omega
theorem TwF.refr (h : TwF w0 w gv gx s x F D F' D') {x' : Wv} {F1 D1 : Nat → Prop} (hp : RWvR w' F1 D1 gx x') (hF : ∀ b, F1 b → F' b ∨ w.heap.size ≤ b) (hD : ∀ b, D1 b → D' b ∨ w.heap.size ≤ b) (hm : Mod F' w w') : TwF w0 w' gv gx s x' F D F1 D1 where
  pv := h.pv.keep hm (fun b hb hf => (h.fd b hb).1 hf) (fun b hb hf => h.df b hf hb)
  rx := hp
  f0 := h.f0
  f1 := fun b hb => by
    rcases hF b hb with h1 | h1
    · exact h.f1 b h1
    · have := h.low; omega
  fd := fun b hb => ⟨fun h2 => by
    rcases hF b h2 with h1 | h1
    · exact (h.fd b hb).1 h1
    · have := h.pv.Flt b hb; omega, fun h2 => by
    rcases hD b h2 with h1 | h1
    · exact (h.fd b hb).2 h1
    · have := h.pv.Flt b hb; omega⟩
  df := fun b hb h2 => by
    rcases hF b hb with h1 | h1
    · exact h.df b h1 h2
    · have := (h.pv.Dlt b h2).1; omega
theorem tw_put (h : TwM w0 w gv gx s x) (p : Pk) (A : Option Addr) (c : Nat) (hw : p.wf) (hr : RdI w w.heap.size .u8 A p.data) :
    Calls Try.prog 18 #[.pointer (some ⟨gv, 0, none⟩), p.val A c] w fun e w' => e = .returned (.int .i64 (s.putE p)) ∧ TwM w0 w' gv gx (s.put p) x ∧ Mod (Nw w0) w w' := by
  obtain ⟨F, D, F', D', h⟩ := h
  refine (wput_any h.pv p A c hw hr).mono ?_
  rintro e w' ⟨F1, D1, he, hr1, _, hF, _, hD, hm⟩
  exact ⟨he, ⟨F1, D1, F', D', h.prog hr1 hF hD hm⟩, hm.mono (fun b hb _ => h.f0 b hb)⟩
theorem tw_rput (h : TwM w0 w gv gx s x) (p : Pk) (A : Option Addr) (c : Nat) (hw : p.wf) (hr : RdI w w.heap.size .u8 A p.data) :
    Calls Try.prog 36 #[.pointer (some ⟨gx, 0, none⟩), p.val A c] w fun e w' => e = .returned (.int .i64 (x.putE p)) ∧ TwM w0 w' gv gx s (x.put p) ∧ Mod (Nw w0) w w' := by
  obtain ⟨F, D, F', D', h⟩ := h
  refine (rwput_any h.rx p A c hw hr).mono ?_
  rintro e w' ⟨F1, D1, he, hr1, _, hF, _, hD, hm⟩
  exact ⟨he, ⟨F, D, F1, D1, h.refr hr1 hF hD hm⟩, hm.mono (fun b hb _ => h.f1 b hb)⟩
theorem tw_end (h : TwM w0 w gv gx s x) (n : Int) :
    Calls Try.prog 26 #[.pointer (some ⟨gv, 0, none⟩), .int .i64 n] w fun e w' => e = .returned (.tuple #[]) ∧ TwM w0 w' gv gx (s.stop n) x ∧ Mod (Nw w0) w w' := by
  obtain ⟨F, D, F', D', h⟩ := h
  refine (wend_any h.pv n).mono ?_
  rintro e w' ⟨he, hr1, hm⟩
  exact ⟨he, ⟨F, D, F', D', h.prog hr1 (fun _ h => .inl h) (fun _ h => .inl h) hm⟩, hm.mono (fun b hb _ => h.f0 b hb)⟩
theorem tw_rend (h : TwM w0 w gv gx s x) (n : Int) :
    Calls Try.prog 37 #[.pointer (some ⟨gx, 0, none⟩), .int .i64 n] w fun e w' => e = .returned (.tuple #[]) ∧ TwM w0 w' gv gx s (x.stop n) ∧ Mod (Nw w0) w w' := by
  obtain ⟨F, D, F', D', h⟩ := h
  refine (rwend_any h.rx n).mono ?_
  rintro e w' ⟨he, hr1, hm⟩
  exact ⟨he, ⟨F, D, F', D', h.refr hr1 (fun _ h => .inl h) (fun _ h => .inl h) hm⟩, hm.mono (fun b hb _ => h.f1 b hb)⟩
theorem tw_waits (h : TwM w0 w gv gx s x) (n : Int) :
    Calls Try.prog 19 #[.pointer (some ⟨gv, 0, none⟩), .int .i64 n] w fun e w' => e = .returned (.int .i64 (s.waits n)) ∧ w = w' := by
  obtain ⟨F, D, F', D', h⟩ := h
  exact wwaits_any h.pv n
theorem tw_rwaits (h : TwM w0 w gv gx s x) (n : Int) :
    Calls Try.prog 39 #[.pointer (some ⟨gx, 0, none⟩), .int .i64 n] w fun e w' => e = .returned (.int .i64 (x.waits n)) ∧ w = w' := by
  obtain ⟨F, D, F', D', h⟩ := h
  exact rwwaits_any h.rx n
theorem tw_late (h : TwM w0 w gv gx s x) :
    Calls Try.prog 28 #[.pointer (some ⟨gv, 0, none⟩)] w fun e w' => e = .returned (.int .i64 s.late) ∧ w = w' := by
  obtain ⟨F, D, F', D', h⟩ := h
  exact wlate_any h.pv
theorem tw_rlate (h : TwM w0 w gv gx s x) :
    Calls Try.prog 40 #[.pointer (some ⟨gx, 0, none⟩)] w fun e w' => e = .returned (.int .i64 x.late) ∧ w = w' := by
  obtain ⟨F, D, F', D', h⟩ := h
  exact rwlate_any h.rx
theorem tw_take (h : TwM w0 w gv gx s x) (hl0 : 0 ≤ s.late) (hl1 : s.late ≤ 4611686018427387904) {q : Pk} (hq : s.take.1.getD pz = q) :
    Calls Try.prog 20 #[.pointer (some ⟨gv, 0, none⟩)] w fun e w' => ∃ A c, e = .returned (.tuple #[q.val A c, .bool s.take.1.isSome]) ∧ TwT w0 w' gv gx s.take.2 x A q.data ∧ q.data.length ≤ c ∧ q.wf ∧ Mod (Nw w0) w w' := by
  subst hq
  obtain ⟨F, D, F', D', h⟩ := h
  refine (wtake_any h.pv hl0 hl1).mono ?_
  rintro e w' ⟨F1, A, c, he, hr1, _, hF, hm, hrd, hc, hwf⟩
  exact ⟨A, c, he, ⟨F1, D, F', D', h.prog hr1 hF (fun _ h => .inl h) hm, hrd⟩, hc, hwf, hm.mono (fun b hb _ => h.f0 b hb)⟩
theorem tw_rtake (h : TwT w0 w gv gx s x A l) (hl0 : 0 ≤ x.late) (hl1 : x.late ≤ 4611686018427387904) {q : Pk} (hq : x.take.1.getD pz = q) :
    Calls Try.prog 38 #[.pointer (some ⟨gx, 0, none⟩)] w fun e w' => ∃ A' c', e = .returned (.tuple #[q.val A' c', .bool x.take.1.isSome]) ∧ TwM w0 w' gv gx s x.take.2 ∧ RdI w' w'.heap.size .u8 A l ∧ RdI w' w'.heap.size .u8 A' q.data ∧ q.data.length ≤ c' ∧ q.wf ∧ Mod (Nw w0) w w' := by
  subst hq
  obtain ⟨F, D, F', D', h, hrl⟩ := h
  refine (rwtake_any h.rx hl0 hl1).mono ?_
  rintro e w' ⟨F1, A', c', he, hr1, _, hF, hm, hrd, hc, hwf⟩
  exact ⟨A', c', he, ⟨F, D, F1, D', h.refr hr1 hF (fun _ h => .inl h) hm⟩, (hrl.keep hm (fun b hb _ hf => h.df b hf hb)).top, hrd.top, hc, hwf, hm.mono (fun b hb _ => h.f1 b hb)⟩
end
/-- .. and a block of the call's own, laid since. -/
def TwB (w0 w : World) (gv gx : Nat) (s x : Wv) (A : Option Addr) (l : List Int) (g : Nat) : Prop := ∃ F D F' D', TwF w0 w gv gx s x F D F' D' ∧ RdS w D .u8 A l ∧ ¬ F' g
theorem TwT.box {w0 w : World} {gv gx : Nat} {s x : Wv} {A : Option Addr} {l : List Int} (h : TwT w0 w gv gx s x A l) (o : Obj) : TwB w0 (w.alloc o) gv gx s x A l w.heap.size := by
  obtain ⟨F, D, F', D', h, hr⟩ := h
  have hb : Below w.heap.size w (w.alloc o) := below_alloc (Below.refl _ _) o
  exact ⟨F, D, F', D', h.below hb, hr.keep (M := fun _ => False) (Mod.of_fresh hb) (fun _ _ _ h => h), fun hf => by have := h.rx.Flt _ hf; omega⟩
theorem tw_rtakeB {w0 w : World} {gv gx : Nat} {s x : Wv} {A : Option Addr} {l : List Int} {g : Nat} (h : TwB w0 w gv gx s x A l g) (hl0 : 0 ≤ x.late) (hl1 : x.late ≤ 4611686018427387904) {q : Pk} (hq : x.take.1.getD pz = q) :
    Calls Try.prog 38 #[.pointer (some ⟨gx, 0, none⟩)] w fun e w' => ∃ A' c', e = .returned (.tuple #[q.val A' c', .bool x.take.1.isSome]) ∧ TwM w0 w' gv gx s x.take.2 ∧ RdI w' w'.heap.size .u8 A l ∧ RdI w' w'.heap.size .u8 A' q.data ∧ q.data.length ≤ c' ∧ q.wf ∧ Mod (fun b => Nw w0 b ∧ b ≠ g) w w' := by
  subst hq
  obtain ⟨F, D, F', D', h, hrl, hg⟩ := h
  refine (rwtake_any h.rx hl0 hl1).mono ?_
  rintro e w' ⟨F1, A', c', he, hr1, _, hF, hm, hrd, hc, hwf⟩
  exact ⟨A', c', he, ⟨F, D, F1, D', h.refr hr1 hF (fun _ h => .inl h) hm⟩, (hrl.keep hm (fun b hb _ hf => h.df b hf hb)).top, hrd.top, hc, hwf, hm.mono (fun b hb _ => ⟨h.f1 b hb, fun e => hg (e ▸ hb)⟩)⟩
/-- They are alike but for the greatest time told, which begins at 0 and at -1. -/
structure Sim (s x : Wv) : Prop where
  most : s.most = x.most
  qs : s.qs = x.qs
  late : s.late = x.late
  top : s.top = max x.top 0
theorem Sim.putE {s x : Wv} (h : Sim s x) (p : Pk) : s.putE p = x.putE p := by unfold Wv.putE; rw [h.qs]
theorem Sim.put {s x : Wv} (h : Sim s x) (p : Pk) : Sim (s.put p) (x.put p) := by
  unfold Wv.put
  rw [h.putE p]
  split
  · exact ⟨h.most, by simp only [h.qs], h.late, h.top⟩
  · exact h
theorem Sim.stop {s x : Wv} (h : Sim s x) (n : Int) : Sim (s.stop n) (x.stop n) := by
  unfold Wv.stop
  rw [h.qs]
  split
  · exact ⟨h.most, rfl, h.late, h.top⟩
  · exact h
theorem Sim.waits {s x : Wv} (h : Sim s x) (n : Int) : s.waits n = x.waits n := by unfold Wv.waits; rw [h.qs]
theorem Sim.take {s x : Wv} (h : Sim s x) (hx : x.ok (-1)) : s.take.1 = x.take.1 ∧ Sim s.take.2 x.take.2 := by
  by_cases h0 : firstQ (x.qs.map Qu.wait) < 0
  · rw [take_none h0, take_none (s := s) (by rw [h.qs]; exact h0)]
    exact ⟨rfl, h⟩
  · obtain ⟨i, hi⟩ := Int.eq_ofNat_of_zero_le (show 0 ≤ firstQ (x.qs.map Qu.wait) by omega)
    obtain ⟨hil, p, l, hw⟩ := firstQ_at hi
    have hp := (hx.qAt hil).at_ p (by rw [hw]; exact List.mem_cons_self ..)
    obtain ⟨sm, sq, st, sl⟩ := s
    obtain ⟨h1, h2, h3, h4⟩ := h
    simp only at h1 h2 h3 h4
    subst h1 h2 h3 h4
    cases hg : goB x.qs x.most p.at_ i with
    | false =>
      rw [take_wait hi hil hw hg, take_wait (s := ⟨x.most, x.qs, max x.top 0, x.late⟩) hi hil hw hg]
      exact ⟨rfl, rfl, rfl, rfl, rfl⟩
    | true =>
      rw [take_some hi hil hw hg, take_some (s := ⟨x.most, x.qs, max x.top 0, x.late⟩) hi hil hw hg]
      refine ⟨rfl, rfl, rfl, ?_, ?_⟩
      · simp only
        split <;> split <;> omega
      · simp only
        omega
theorem Wv.take_late {s : Wv} : s.take.2.late ≤ s.late + 1 ∧ s.late ≤ s.take.2.late := by
  rw [Wv.take]
  split
  · simp only; omega
  · split
    · simp only; split <;> omega
    · simp only; omega
theorem Wv.put_late (s : Wv) (p : Pk) : (s.put p).late = s.late := by unfold Wv.put; split <;> rfl
theorem Wv.stop_late (s : Wv) (n : Int) : (s.stop n).late = s.late := by unfold Wv.stop; split <;> rfl
theorem Wv.put_len (s : Wv) (p : Pk) : (s.put p).qs.length = s.qs.length := by unfold Wv.put; split <;> simp
end Go.Proofs.Ytnflhogjonlnmaa
