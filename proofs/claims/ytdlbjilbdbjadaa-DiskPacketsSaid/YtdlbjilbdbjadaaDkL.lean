/- What a recorder's disk holds (plain). -/
import Derived.Test.YtdlbjilbdbjadaaDkSync
set_option linter.unusedSimpArgs false
set_option linter.unusedVariables false
namespace Go.Proofs.Ytdlbjilbdbjadaa
open Go.RowKit

/-- What is recovered. -/
structure Good (s : Dk) (ps : List Pg) (U : Nat) : Prop where
  hdr : Hdr s.see ps.length U
  u1 : 1 ≤ U
  un : U ≤ s.n
  lies : Lies ((s.see.drop 64).take (64 * (U - 1))) 0 0 ps
  len : ps.length ≤ 100000
set_option maxRecDepth 100000 in
theorem start_any {w : World} {base gd gs ge : Nat} {vq : Value} {s : Dk} (h : DkM w base gd gs ge vq s) {ps : List Pg} {U : Nat} (hG : Good s ps U) (hq : s.qs.length ≤ U) :
    Calls Try.prog 8 #[.pointer (some ⟨gd, 0, none⟩)] w fun e w' => ∃ gr, e = .returned (.tuple #[.pointer (some ⟨gr, 0, none⟩), .int .i64 0]) ∧ w.heap.size ≤ gr ∧ RkM w' base gd gs ge gr vq (.slice none 0 0) s ⟨ps.length, U, []⟩ ∧ Below w.heap.size w w' := by
  have HRe := Lib.hid (recover_any h hG.hdr hG.u1 hG.un hG.lies hG.len)
  have HDu := Lib.hid (fun W (hW : Below w.heap.size w W) => durable_any (h.below hW) hG.hdr)
  have HD := Lib.hid h
  have hpl := hG.len
  have hun := hG.un
  clear h
  go_enter Try.func8, Try.ntmps8
  go_upto_region 5 with (first
    | (go_at_call 15; (with_reducible refine HRe.out.mono ?_); rintro e w1 ⟨v1, rfl, ho1, hb1⟩; obtain ⟨A1, c1, rfl, hc1, _, _⟩ := ho1.form PgR.good)
    | (go_at_call 29; (with_reducible refine (HDu.out _ hb1).mono ?_); rintro e w2 ⟨rfl, hb2⟩))
  have bb2 := below_then hb1 hb2
  have hD2 := HD.out.below bb2
  have hdl := hD2.lt
  go_wp2_with (fail)
  go_ret2
  have kx := Blk.new w2 73 #[.pointer (some ⟨gd, 0, none⟩), .int .i64 (ps.length : Int), .int .i64 (U : Int), .slice none 0 0]
  have bx := below_alloc (Below.refl w2.heap.size w2) (.cells #[.pointer (some ⟨gd, 0, none⟩), .int .i64 (ps.length : Int), .int .i64 (U : Int), .slice none 0 0] 73)
  have hgd := (hdl gd (.inl rfl)).2
  have hgs := (hdl gs (.inr (.inl rfl))).2
  have hge := (hdl ge (.inr (.inr (.inl rfl)))).2
  refine ⟨w2.heap.size, rfl, bb2.size, ⟨hD2.below bx, kx, OwnO.nil_ _ _ _ _, fun x hx => (by cases hx), ⟨by omega, by omega, by omega, fun e => by have := (hdl _ (.inr (.inr (.inr e)))).2; omega⟩, fun b hb => (by cases hb), hD2.ge_.2.2.2, ⟨hq, hun⟩, by show ps.length ≤ 1000000; omega⟩, below_alloc bb2 _⟩
end Go.Proofs.Ytdlbjilbdbjadaa

namespace Go.Proofs.Ytdlbjilbdbjadaa
open Go.RowKit

theorem pgBytes_len (p : Pg) : (pgBytes p).length = p.body.length + 12 := by
  rw [pgBytes, List.length_append, pgHead_len, bg_len]
/-- A page that may be recorded. -/
structure PgGood (p : Pg) (k : Nat) : Prop where
  ok : pgOk p = true
  g : p.guard = false
  seq : p.seq = (k : Int)
  wf : p.wf
theorem lies_pages {b : List Int} : ∀ (qs : List Pg) (o k : Nat) (r : List Int) (Q : List Pg), (∀ i (h : i < qs.length), PgGood qs[i] (k + i)) → b.drop o = qs.flatMap pgBytes ++ r → Lies b (o + (qs.flatMap pgBytes).length) (k + qs.length) Q → Lies b o k (qs ++ Q)
  | [], o, k, r, Q, _, _, h => by simpa using h
  | p :: qs, o, k, r, Q, hp, hd, h => by
    have h0 := hp 0 (by simp)
    simp only [List.getElem_cons_zero, Nat.add_zero] at h0
    rw [List.flatMap_cons, List.append_assoc] at hd
    obtain ⟨e1, e2, e3⟩ := rd_back h0.ok (qs.flatMap pgBytes ++ r)
    have hl := pgBytes_len p
    have hlen : (b.drop o).length = (pgBytes p).length + (qs.flatMap pgBytes ++ r).length := by rw [hd, List.length_append]
    rw [List.length_drop] at hlen
    refine Lies.page (by omega) (by rw [hd]; exact e1) (by rw [hd]; exact e2) h0.seq (by rw [hd]; exact e3) (by omega) h0.wf ?_
    refine lies_pages qs _ (k + 1) r Q (fun i hi => ?_) ?_ ?_
    · have := hp (i + 1) (by simpa using hi)
      rw [List.getElem_cons_succ] at this
      rw [show k + 1 + i = k + (i + 1) by omega]
      exact this
    · rw [show o + p.body.length + 12 = o + (pgBytes p).length by omega, ← List.drop_drop, hd, List.drop_left]
    · rw [List.flatMap_cons, List.length_append] at h
      rw [show o + p.body.length + 12 + (qs.flatMap pgBytes).length = o + ((pgBytes p).length + (qs.flatMap pgBytes).length) by omega, show k + 1 + qs.length = k + (p :: qs).length by simp; omega]
      exact h
/-- bytes and zeros up to a whole sector -/
def padM (l : List Int) : List Int := l ++ List.replicate ((64 - l.length % 64) % 64) 0
theorem padM_len (l : List Int) : (padM l).length % 64 = 0 ∧ l.length ≤ (padM l).length ∧ (padM l).length < l.length + 64 := by
  simp only [padM, List.length_append, List.length_replicate]; omega
structure Laid (C : List Int) (ps : List Pg) : Prop where
  len : C.length % 64 = 0
  ext : ∀ (D : List Int) (Q : List Pg), Lies (C ++ D) C.length ps.length Q → Lies (C ++ D) 0 0 (ps ++ Q)
theorem Laid.nil_ : Laid [] [] := ⟨rfl, fun D Q h => by simpa using h⟩
theorem Laid.lies {C : List Int} {ps : List Pg} (h : Laid C ps) : Lies C 0 0 ps := by
  have := h.ext [] [] (Lies.done _ _)
  simpa using this
theorem rdE_zero {x : List Int} (h : x.getD 0 0 = 0) : rdE x ≠ 0 := by
  rw [rdE_eq]
  split
  · omega
  · rw [if_pos (by rw [h]; simp)]; omega
theorem Laid.snoc {C : List Int} {ps qs : List Pg} (h : Laid C ps) (hq : ∀ i (hi : i < qs.length), PgGood qs[i] (ps.length + i)) : Laid (C ++ padM (qs.flatMap pgBytes)) (ps ++ qs) := by
  have hl := h.len
  have hp := padM_len (qs.flatMap pgBytes)
  refine ⟨by rw [List.length_append]; omega, fun D Q hQ => ?_⟩
  rw [List.append_assoc] at hQ ⊢
  rw [List.append_assoc]
  refine h.ext _ _ (lies_pages qs C.length ps.length (List.replicate ((64 - (qs.flatMap pgBytes).length % 64) % 64) 0 ++ D) Q hq (by rw [List.drop_left]; simp [padM]) ?_)
  rw [List.length_append, List.length_append] at hQ
  by_cases h0 : (qs.flatMap pgBytes).length % 64 = 0
  · have e : (padM (qs.flatMap pgBytes)).length = (qs.flatMap pgBytes).length := by
      simp only [padM, List.length_append, List.length_replicate]; omega
    rw [e] at hQ
    exact hQ
  · cases Q with
    | nil => exact Lies.done _ _
    | cons q Q =>
      have hlt : C.length + (qs.flatMap pgBytes).length < (C ++ (padM (qs.flatMap pgBytes) ++ D)).length := by
        rw [List.length_append, List.length_append]
        simp only [padM, List.length_append, List.length_replicate]; omega
      refine Lies.skip hlt (rdE_zero ?_) ?_
      · rw [List.getD_eq_getElem?_getD, List.getElem?_drop, List.getElem?_append_right (by omega), padM, List.append_assoc, List.getElem?_append_right (by omega), List.getElem?_append_left (by rw [List.length_replicate]; omega), List.getElem?_replicate]
        split <;> rfl
      · rw [show (C.length + (qs.flatMap pgBytes).length) / 64 + 1 = (C.length + (padM (qs.flatMap pgBytes)).length) / 64 by
          simp only [padM, List.length_append, List.length_replicate]; omega]
        rw [show (C.length + (padM (qs.flatMap pgBytes)).length) / 64 * 64 = C.length + (padM (qs.flatMap pgBytes)).length by omega]
        exact hQ
structure LogI (s : Dk) (r : Rc) (H C : List Int) (U : Nat) (sure pend : List Pg) : Prop where
  hl : H.length = 64
  cl : C.length = 64 * (U - 1)
  u1 : 1 ≤ U
  uu : U ≤ r.used
  un : r.used ≤ s.n
  hd : Hdr H sure.length U
  laid : Laid C sure
  see : s.see.take (64 * r.used) ++ r.rest = H ++ C ++ pend.flatMap pgBytes
  sto : s.sto.take (64 * U) = H ++ C
  l1 : s.see.length = 64 * s.n
  l2 : s.sto.length = 64 * s.n
  q : ∀ x ∈ s.qs, U ≤ x.1 ∧ x.1 < s.n ∧ x.2.length = 64
  next : r.next = sure.length + pend.length
  ok : ∀ i (h : i < pend.length), PgGood pend[i] (sure.length + i)
  rl : r.rest.length < 64
theorem hdr_take {a b : List Int} {P U : Nat} (h : Hdr a P U) (hab : b.take 64 = a) (ha : a.length = 64) : Hdr b P U := by
  have e12 : b.take 12 = a.take 12 := by rw [← hab, List.take_take]; rfl
  have e4 : b.take 4 = a.take 4 := by rw [← hab, List.take_take]; rfl
  rcases h with ⟨h1, h2, h3⟩ | ⟨h1, h2, h3⟩
  · exact .inl ⟨by rw [e12]; exact h1, h2, h3⟩
  · exact .inr ⟨by rw [e4]; exact h1, h2, h3⟩
theorem good_of {s : Dk} {H C : List Int} {U : Nat} {sure : List Pg} (hl : H.length = 64) (cl : C.length = 64 * (U - 1)) (u1 : 1 ≤ U) (un : U ≤ s.n) (hd : Hdr H sure.length U) (laid : Laid C sure) (hs : s.see.take (64 * U) = H ++ C) (hn : sure.length ≤ 100000) : Good s sure U := by
  refine ⟨hdr_take hd ?_ hl, u1, un, ?_, hn⟩
  · have := congrArg (List.take 64) hs
    rw [List.take_take, Nat.min_eq_left (by omega), ← hl, List.take_left] at this
    rw [← hl]; exact this
  · have := congrArg (List.drop 64) hs
    rw [List.drop_take, ← hl, List.drop_left, hl] at this
    rw [show 64 * (U - 1) = 64 * U - 64 by omega, this]
    exact laid.lies
section
variable {s : Dk} {r : Rc} {H C : List Int} {U : Nat} {sure pend : List Pg}
theorem LogI.head (h : LogI s r H C U sure pend) : s.see.take (64 * U) = H ++ C := by
  have h1 := congrArg (List.take (64 * U)) h.see
  have hl := h.hl
  have hc := h.cl
  have hu := h.u1
  have huu := h.uu
  have hun := h.un
  have hl1 := h.l1
  rw [List.take_append_of_le_length (by rw [List.length_take]; omega), List.take_take, Nat.min_eq_left (by omega), List.take_append_of_le_length (by rw [List.length_append]; omega)] at h1
  rw [h1]
  exact List.take_of_length_le (by rw [List.length_append]; omega)
theorem LogI.good (h : LogI s r H C U sure pend) (hn : sure.length ≤ 100000) : Good s sure U := good_of h.hl h.cl h.u1 (Nat.le_trans h.uu h.un) h.hd h.laid h.head hn
/-- the bytes used -/
theorem LogI.used_len (h : LogI s r H C U sure pend) : 64 * r.used + r.rest.length = 64 * U + (pend.flatMap pgBytes).length := by
  have h1 := congrArg List.length h.see
  have := h.hl
  have := h.cl
  have := h.u1
  have := h.un
  have := h.l1
  simp only [List.length_append, List.length_take] at h1
  omega
theorem updB_take {l b : List Int} {o : Nat} (h : o + b.length ≤ l.length) : (updB l o b).take (o + b.length) = l.take o ++ b := by
  rw [updB, List.take_append_of_le_length (by rw [List.length_append, List.length_take]; omega), List.take_of_length_le (by rw [List.length_append, List.length_take]; omega)]
theorem updB_low {l b : List Int} {o m : Nat} (h : m ≤ o) (hl : o ≤ l.length) : (updB l o b).take m = l.take m := by
  rw [updB, List.append_assoc, List.take_append_of_le_length (by rw [List.length_take]; omega), List.take_take, Nat.min_eq_left h]
/-- Whole sectors are written. -/
theorem drain_log : ∀ (k : Nat) (s : Dk) (u : Nat) (l : List Int) (U : Nat), s.see.length = 64 * s.n → u * 64 + l.length ≤ s.n * 64 → U ≤ u → (∀ x ∈ s.qs, U ≤ x.1 ∧ x.1 < s.n ∧ x.2.length = 64) →
    ∀ s' u' l', drain k s u l = (s', u', l') → s'.n = s.n ∧ s'.sto = s.sto ∧ s'.see.length = 64 * s.n ∧ s'.see.take (64 * u') ++ l' = s.see.take (64 * u) ++ l ∧ u ≤ u' ∧ u' * 64 + l'.length = u * 64 + l.length ∧ (∀ x ∈ s'.qs, U ≤ x.1 ∧ x.1 < s.n ∧ x.2.length = 64)
  | 0, s, u, l, U, h1, h2, h3, hq, s', u', l', e => by
    rw [drain] at e
    obtain ⟨rfl, rfl, rfl⟩ : s = s' ∧ u = u' ∧ l = l' := by simpa using e
    exact ⟨rfl, rfl, h1, rfl, Nat.le_refl _, rfl, hq⟩
  | k + 1, s, u, l, U, h1, h2, h3, hq, s', u', l', e => by
    rw [drain] at e
    split at e
    · rename_i h64
      have hl : (l.take 64).length = 64 := by rw [List.length_take]; omega
      have hub : u < s.n := by omega
      obtain ⟨a1, a2, a3, a4, a5, a6, a7⟩ := drain_log k (s.write u (l.take 64)) (u + 1) (l.drop 64) U (by rw [Dk.write, updB_len (by omega)]; exact h1) (by rw [List.length_drop]; show (u + 1) * 64 + (l.length - 64) ≤ s.n * 64; omega) (by omega) (fun x hx => by
        rcases List.mem_append.1 hx with hx | hx
        · exact hq x hx
        · rw [List.mem_singleton] at hx; subst hx; exact ⟨h3, hub, hl⟩) s' u' l' e
      refine ⟨a1, a2, a3, ?_, by omega, by rw [List.length_drop] at a6; omega, a7⟩
      rw [a4]
      have e2 : (s.write u (l.take 64)).see.take (64 * (u + 1)) = s.see.take (64 * u) ++ l.take 64 := by
        have := updB_take (l := s.see) (b := l.take 64) (o := 64 * u) (by omega)
        rw [hl] at this
        rw [show 64 * (u + 1) = 64 * u + 64 by omega]
        exact this
      rw [e2, List.append_assoc, List.take_append_drop]
    · obtain ⟨rfl, rfl, rfl⟩ : s = s' ∧ u = u' ∧ l = l' := by simpa using e
      exact ⟨rfl, rfl, h1, rfl, Nat.le_refl _, rfl, hq⟩
theorem log_add (h : LogI s r H C U sure pend) {p : Pg} (hp : PgGood p r.next) (hsp : r.used * 64 + (r.rest ++ pgBytes p).length ≤ s.n * 64) {k : Nat} {s' : Dk} {u' : Nat} {l' : List Int} (hd : drain k s r.used (r.rest ++ pgBytes p) = (s', u', l')) (hl : l'.length < 64) :
    LogI s' ⟨r.next + 1, u', l'⟩ H C U sure (pend ++ [p]) ∧ u' * 64 + l'.length = r.used * 64 + r.rest.length + (pgBytes p).length ∧ s'.n = s.n := by
  obtain ⟨a1, a2, a3, a4, a5, a6, a7⟩ := drain_log k s r.used (r.rest ++ pgBytes p) U h.l1 hsp h.uu h.q s' u' l' hd
  rw [List.length_append] at a6 hsp
  have hnx := h.next
  have huu := h.uu
  refine ⟨⟨h.hl, h.cl, h.u1, by show U ≤ u'; omega, by rw [a1]; show u' ≤ s.n; omega, h.hd, h.laid, ?_, by rw [a2]; exact h.sto, by rw [a1]; exact a3, by rw [a1, a2]; exact h.l2, by rw [a1]; exact a7, by show r.next + 1 = _; rw [List.length_append, List.length_singleton]; omega, fun i hi => ?_, hl⟩, by omega, a1⟩
  · show s'.see.take (64 * u') ++ l' = _
    rw [a4, ← List.append_assoc, h.see, List.flatMap_append, ← List.append_assoc]
    simp
  · by_cases hip : i < pend.length
    · rw [List.getElem_append_left hip]; exact h.ok i hip
    · rw [List.length_append, List.length_singleton] at hi
      have : i = pend.length := by omega
      subst this
      rw [List.getElem_append_right (Nat.le_refl _)]
      simp only [Nat.sub_self, List.getElem_cons_zero]
      rw [← hnx]; exact hp
theorem crs_low {kept : List Int} {U n : Nat} : ∀ (q : List (Nat × List Int)) (i : Nat) (sto : List Int), sto.length = 64 * n → (∀ x ∈ q, U ≤ x.1 ∧ x.1 < n ∧ x.2.length = 64) → (crs kept i q sto).take (64 * U) = sto.take (64 * U) ∧ (crs kept i q sto).length = 64 * n
  | [], i, sto, hl, _ => by rw [crs]; exact ⟨rfl, hl⟩
  | (N, b) :: q, i, sto, hl, hq => by
    obtain ⟨h1, h2, h3⟩ := hq (N, b) (List.mem_cons_self ..)
    simp only at h1 h2 h3
    rw [crs]
    split
    · have hb32 : (b.take 32).length ≤ 64 := by rw [List.length_take]; omega
      have key : ∀ c : List Int, c.length ≤ 64 → (updB sto (64 * N) c).take (64 * U) = sto.take (64 * U) ∧ (updB sto (64 * N) c).length = 64 * n := fun c hc => ⟨updB_low (by omega) (by omega), by rw [updB_len (by omega)]; exact hl⟩
      have hx : ∀ c : List Int, c.take (64 * U) = sto.take (64 * U) ∧ c.length = 64 * n → (crs kept (i + 1) q c).take (64 * U) = sto.take (64 * U) ∧ (crs kept (i + 1) q c).length = 64 * n := fun c hc => by
        obtain ⟨a, b⟩ := crs_low q (i + 1) c hc.2 (fun x hx => hq x (List.mem_cons_of_mem _ hx))
        exact ⟨a.trans hc.1, b⟩
      split
      · exact hx _ (key b (by omega))
      · split
        · exact hx _ (key _ hb32)
        · exact hx _ ⟨rfl, hl⟩
    · exact ⟨rfl, hl⟩
theorem updB_first {l b : List Int} {m : Nat} (hb : b.length ≤ m) : (updB l 0 b).take m = b ++ (l.take m).drop b.length := by
  rw [updB, List.take_zero, List.nil_append, Nat.zero_add, List.take_append, List.take_of_length_le hb, List.drop_take]
theorem log_sync (h : LogI s r H C U sure pend) (hroom : r.rest ≠ [] → r.used < s.n) (hnx : r.next < 4294967296) (hn : s.n ≤ 1024) :
    LogI (syncD s r) ⟨r.next, syncU r, []⟩ (hdrB r.next (syncU r)) (C ++ padM (pend.flatMap pgBytes)) (syncU r) (sure ++ pend) [] ∧ (syncD s r).n = s.n ∧ syncU r * 64 ≤ r.used * 64 + r.rest.length + 63 := by
  have hul := h.used_len
  have hcl := h.cl
  have hHl := h.hl
  have hu1 := h.u1
  have huu := h.uu
  have hun := h.un
  have hl1 := h.l1
  have hrl := h.rl
  have hlaid := h.laid.snoc h.ok
  have hsee := h.see
  generalize hB : pend.flatMap pgBytes = B at *
  obtain ⟨s1, hs1⟩ : ∃ s1, s1 = if r.rest = [] then s else s.write r.used (padB r.rest) := ⟨_, rfl⟩
  have hSD : syncD s r = ((s1.flush).write 0 (hdrB r.next (syncU r))).flush := by rw [hs1]; rfl
  have key : s1.see.take (64 * syncU r) = H ++ C ++ padM B ∧ s1.see.length = 64 * s.n ∧ s1.n = s.n ∧ syncU r ≤ s.n ∧ syncU r * 64 ≤ r.used * 64 + r.rest.length + 63 ∧ 1 ≤ syncU r := by
    by_cases hre : r.rest = []
    · rw [hs1, if_pos hre, syncU, if_pos hre]
      rw [hre] at hsee hul
      simp only [List.append_nil, List.length_nil, Nat.add_zero] at hsee hul
      refine ⟨?_, hl1, rfl, hun, by omega, by omega⟩
      rw [hsee]
      have : (64 - B.length % 64) % 64 = 0 := by omega
      rw [padM, this, List.replicate_zero, List.append_nil]
    · have hu := hroom hre
      have hlp : 0 < r.rest.length := List.length_pos_iff.2 hre
      rw [hs1, if_neg hre, syncU, if_neg hre]
      have hpl : (padB r.rest).length = 64 := padB_len (by omega)
      refine ⟨?_, by rw [Dk.write, updB_len (by omega)]; exact hl1, rfl, by omega, by omega, by omega⟩
      have e := updB_take (l := s.see) (b := padB r.rest) (o := 64 * r.used) (by omega)
      rw [hpl] at e
      show (updB s.see (64 * r.used) (padB r.rest)).take (64 * (r.used + 1)) = _
      rw [show 64 * (r.used + 1) = 64 * r.used + 64 by omega, e, padB, ← List.append_assoc, hsee, padM, ← List.append_assoc]
      congr 2
      omega
  obtain ⟨k1, k2, k3, k4, k5, k6⟩ := key
  have hhl := hdrB_len r.next (syncU r)
  have hcl' : (C ++ padM B).length = 64 * (syncU r - 1) := by
    have := congrArg List.length k1
    rw [List.length_take, k2, List.append_assoc, List.length_append, hHl] at this
    omega
  have hsee2 : (updB s1.see 0 (hdrB r.next (syncU r))).take (64 * syncU r) = hdrB r.next (syncU r) ++ (C ++ padM B) := by
    rw [updB_first (by omega), hhl, k1, List.append_assoc, ← hHl, List.drop_left]
  have hlen2 : (updB s1.see 0 (hdrB r.next (syncU r))).length = 64 * s.n := by rw [updB_len (by omega)]; exact k2
  rw [hSD]
  refine ⟨⟨hhl, hcl', k6, Nat.le_refl _, by show syncU r ≤ s1.n; omega, ?_, hlaid, ?_, hsee2, by show (updB s1.see 0 (hdrB r.next (syncU r))).length = 64 * s1.n; rw [k3]; exact hlen2, by show (updB s1.see 0 (hdrB r.next (syncU r))).length = 64 * s1.n; rw [k3]; exact hlen2, fun x hx => (by cases hx), ?_, fun i hi => (by simp at hi), by simp⟩, k3, k5⟩
  · refine .inl ⟨?_, by have := h.next; rw [List.length_append]; omega, by omega⟩
    have hnx2 := h.next
    rw [List.length_append, ← hnx2, hdrB]
    have hb1 := bg_len (r.next : Int) 4
    have hb2 := bg_len (syncU r : Int) 4
    rw [List.take_append_of_le_length (by simp [hb1, hb2]), List.take_of_length_le (by simp [hb1, hb2])]
  · show (updB s1.see 0 (hdrB r.next (syncU r))).take (64 * syncU r) ++ [] = _
    rw [List.append_nil, hsee2]; simp
  · show r.next = _
    rw [h.next, List.length_append]; simp
theorem log_crash (h : LogI s r H C U sure pend) (kept : List Int) : LogI (s.crash kept) ⟨sure.length, U, []⟩ H C U sure [] := by
  obtain ⟨a1, a2⟩ := crs_low (kept := kept) s.qs 0 s.sto h.l2 h.q
  exact ⟨h.hl, h.cl, h.u1, Nat.le_refl _, Nat.le_trans h.uu h.un, h.hd, h.laid, by show (crs kept 0 s.qs s.sto).take (64 * U) ++ [] = _; rw [a1, h.sto]; simp, by show (crs kept 0 s.qs s.sto).take (64 * U) = _; rw [a1, h.sto], a2, a2, fun x hx => (by cases hx), by simp, fun i hi => (by simp at hi), by simp⟩
end
end Go.Proofs.Ytdlbjilbdbjadaa
