/- Joiner.Put. -/
import Derived.Test.YtdnkdjaokmibjaaJn
import Derived.Test.YtdnkdjaokmibjaaPgBytes
import Derived.Test.YtdnkdjaokmibjaaPkOpen
import Derived.Test.YtdnkdjaokmibjaaPkVal
import Derived.Deep.DeepCutAuto
import Derived.Deep.RegionHeld3
import Derived.Test.YtdnkdjaokmibjaaPicLast
set_option linter.unusedSimpArgs false
set_option linter.unusedVariables false
namespace Go.Proofs.Ytdnkdjaokmibjaa
open Go.RowKit

/-- What Put leaves: what it answers lies in new blocks. -/
def PutPost (w : World) (g : Nat) (ob : Option Nat) (r : Jn × List Pk × List Ho) (e : Ending) (w' : World) : Prop :=
  ∃ A c A' c' ob', e = .returned (.tuple #[.slice A r.2.1.length c, .slice A' r.2.2.length c']) ∧ r.2.1.length ≤ c ∧ r.2.2.length ≤ c' ∧ JnR w' g ob' r.1 ∧
    RdPk w' (fun b => w.heap.size ≤ b ∧ ob' ≠ some b) A r.2.1 ∧ RdHo w' (fun b => w.heap.size ≤ b ∧ ob' ≠ some b) A' r.2.2 ∧
    Mod (fun b => b = g ∨ ob = some b) w w' ∧ (∀ b, ob' = some b → ob = some b ∨ w.heap.size ≤ b)

set_option maxHeartbeats 8000000 in
set_option maxRecDepth 100000 in
theorem jput_any {w : World} {g : Nat} {ob : Option Nat} {s : Jn} (h : JnR w g ob s) (hk : s.broken ≤ 4611686018427387902) (hsl : s.body.length ≤ 65554) (p : Pg) (A : Option Addr) (c : Nat) (hw : p.wf) {S : Nat → Prop} (hr : RdS w S .u8 A p.body) (hS : ∀ b, S b → b < w.heap.size → b ≠ g ∧ ob ≠ some b) (hc : p.body.length ≤ c) :
    Calls Try.prog 26 #[.pointer (some ⟨g, 0, none⟩), p.val A c] w (PutPost w g ob (s.put p)) := by
  have hgl0 := h.lt
  have HB := Lib.hid (fun W (hW : Below w.heap.size w W) => pgbytes_any p A c hw W (RdI.more (RdI.below (RdS.top hr) hW (Nat.le_refl _)) hW.size))
  cases hd : s.deaf p with
  | true =>
    have HP := Lib.hid (show s.put p = (s, [], []) by rw [Jn.put, if_pos hd])
    have hdd : pgE p ≠ 0 ∨ (pgE p = 0 ∧ p.guard = true) ∨ (pgE p = 0 ∧ p.guard = false ∧ p.seq < s.next) := by
      simp only [Jn.deaf, Bool.or_eq_true, decide_eq_true_eq, bne_iff_ne] at hd
      by_cases h1 : pgE p = 0
      · cases h2 : p.guard with
        | true => exact .inr (.inl ⟨h1, rfl⟩)
        | false => exact .inr (.inr ⟨h1, rfl, by rcases hd with hd | hd | hd; exact absurd h1 hd; rw [h2] at hd; cases hd; exact hd⟩)
      · exact .inl h1
    have hst := h
    clear hd
    generalize pgE p = E at *
    generalize pgB p = Bp at *
    obtain ⟨seq, first, last, guard, body⟩ := p
    simp only at *
    rcases hdd with hd | ⟨hd, hd2⟩ | ⟨hd, hd2, hd3⟩
    · have q1 : (E != 0) = true := by rw [bne_iff_ne]; exact hd
      clear hd
      go_enter Try.func26, Try.ntmps26
      go_wp2_with fail
      have kb := Blk.new w 33 #[.int .i64 seq, .bool first, .bool last, .bool guard, .slice A body.length c]
      have hbw : Below w.heap.size w (w.alloc (.cells #[.int .i64 seq, .bool first, .bool last, .bool guard, .slice A body.length c] 33)) := below_alloc (Below.refl _ _) _
      generalize w.alloc (.cells #[.int .i64 seq, .bool first, .bool last, .bool guard, .slice A body.length c] 33) = wb at *
      go_wp2_with (first
        | (go_at_call 24; (with_reducible refine (HB.out _ hbw).mono ?_); rintro e w1 ⟨v1, rfl, _, hb1⟩; have bb1 := below_then hbw hb1; have hj1 := hst.below bb1; have kp1 := kb.below hb1 kb.lt; have x0 := kp1.cell 0; have x3 := kp1.cell 3; obtain ⟨_, _, k0, _⟩ := hj1.cells))
      go_quiet (fail)
      go_wp2
      go_ret2
      rw [HP.out]
      exact ⟨none, 0, none, 0, ob, rfl, Nat.le_refl _, Nat.le_refl _, hj1.drewN nq, RdG.nil_, RdG.nil_, Mod.of_fresh (below_drewN bb1 nq), fun b hb => .inl hb⟩
    · subst hd hd2
      go_enter Try.func26, Try.ntmps26
      go_wp2_with fail
      have kb := Blk.new w 33 #[.int .i64 seq, .bool first, .bool last, .bool true, .slice A body.length c]
      have hbw : Below w.heap.size w (w.alloc (.cells #[.int .i64 seq, .bool first, .bool last, .bool true, .slice A body.length c] 33)) := below_alloc (Below.refl _ _) _
      generalize w.alloc (.cells #[.int .i64 seq, .bool first, .bool last, .bool true, .slice A body.length c] 33) = wb at *
      go_wp2_with (first
        | (go_at_call 24; (with_reducible refine (HB.out _ hbw).mono ?_); rintro e w1 ⟨v1, rfl, _, hb1⟩; have bb1 := below_then hbw hb1; have hj1 := hst.below bb1; have kp1 := kb.below hb1 kb.lt; have x0 := kp1.cell 0; have x3 := kp1.cell 3; obtain ⟨_, _, k0, _⟩ := hj1.cells))
      go_quiet (fail)
      go_wp2
      go_ret2
      rw [HP.out]
      exact ⟨none, 0, none, 0, ob, rfl, Nat.le_refl _, Nat.le_refl _, hj1.drewN nq, RdG.nil_, RdG.nil_, Mod.of_fresh (below_drewN bb1 nq), fun b hb => .inl hb⟩
    · subst hd hd2
      have q2 : decide (seq < s.next) = true := by simpa using hd3
      go_enter Try.func26, Try.ntmps26
      go_wp2_with fail
      have kb := Blk.new w 33 #[.int .i64 seq, .bool first, .bool last, .bool false, .slice A body.length c]
      have hbw : Below w.heap.size w (w.alloc (.cells #[.int .i64 seq, .bool first, .bool last, .bool false, .slice A body.length c] 33)) := below_alloc (Below.refl _ _) _
      generalize w.alloc (.cells #[.int .i64 seq, .bool first, .bool last, .bool false, .slice A body.length c] 33) = wb at *
      go_wp2_with (first
        | (go_at_call 24; (with_reducible refine (HB.out _ hbw).mono ?_); rintro e w1 ⟨v1, rfl, _, hb1⟩; have bb1 := below_then hbw hb1; have hj1 := hst.below bb1; have kp1 := kb.below hb1 kb.lt; have x0 := kp1.cell 0; have x3 := kp1.cell 3; obtain ⟨_, _, k0, _⟩ := hj1.cells))
      go_quiet (fail)
      go_wp2
      go_ret2
      rw [HP.out]
      exact ⟨none, 0, none, 0, ob, rfl, Nat.le_refl _, Nat.le_refl _, hj1.drewN nq, RdG.nil_, RdG.nil_, Mod.of_fresh (below_drewN bb1 nq), fun b hb => .inl hb⟩
  | false =>
    have hd0 : pgE p = 0 ∧ p.guard = false ∧ ¬ p.seq < s.next := by
      simp only [Jn.deaf, Bool.or_eq_false_iff, decide_eq_false_iff_not, bne_eq_false_iff_eq] at hd
      exact hd
    obtain ⟨d1, d2, d3⟩ := hd0
    have hok : pgOk p = true := by
      unfold pgE at d1
      split at d1
      · assumption
      · omega
    have hok2 : 0 ≤ p.seq ∧ p.seq ≤ 2147483647 ∧ 1 ≤ p.body.length ∧ p.body.length ≤ 255 := by
      have h1 := pgOk_len hok
      simp only [pgOk, decide_eq_true_eq] at hok
      omega
    have q1 : (pgE p != 0) = false := by simp [d1]
    have q2 : decide (p.seq < s.next) = false := by simpa using d3
    rw [d1] at HB
    have hwf := hw
    obtain ⟨seq, first, last, guard, body⟩ := p
    simp only at *
    subst d2
    have HDf := Lib.hid hd
    clear q1 hd d1 hok
    have hst := h
    obtain ⟨Ab, cb, k0, k1, k2, k3, ⟨f0, f1, f2, f3⟩, _, _, hcb, hrb, hsw⟩ := h.cells
    have hsn : -9223372036854775808 ≤ s.next := by have := hsw.n0; omega
    have HSn := Lib.hid hsw.n1
    clear hsw hrb
    go_enter Try.func26, Try.ntmps26
    go_wp2_with fail
    have kb := Blk.new w 33 #[.int .i64 seq, .bool first, .bool last, .bool false, .slice A body.length c]
    have hbw : Below w.heap.size w (w.alloc (.cells #[.int .i64 seq, .bool first, .bool last, .bool false, .slice A body.length c] 33)) := below_alloc (Below.refl _ _) _
    have hsz : (w.alloc (.cells #[.int .i64 seq, .bool first, .bool last, .bool false, .slice A body.length c] 33)).heap.size = w.heap.size + 1 := by simp
    generalize w.alloc (.cells #[.int .i64 seq, .bool first, .bool last, .bool false, .slice A body.length c] 33) = wb at *
    have HZ := Lib.hid hsz
    clear hsz k0 k1 k2 k3 f0 f1 f2 f3
    go_wp2_with (first
      | (go_at_call 24; (with_reducible refine (HB.out _ hbw).mono ?_); rintro e w1 ⟨v1, rfl, _, hb1⟩; have bb1 := below_then hbw hb1; have hj1 := hst.below bb1; have kp1 := kb.below hb1 kb.lt; have x0 := kp1.cell 0; have x3 := kp1.cell 3; obtain ⟨_, _, k0, _⟩ := hj1.cells))
    go_quiet (fail)
    have hj1 := hj1.drewN nq
    have kp1 := kp1.drewN nq
    have bb1 := below_drewN bb1 nq
    clear x0 x3 k0 hb1
    generalize w1.drewN nq = w2 at *
    have x0 := kp1.cell 0
    obtain ⟨_, _, k0, _⟩ := hj1.cells
    go_wp2
    go_quiet (fail)
    have hj1 := hj1.drewN nq
    have kp1 := kp1.drewN nq
    have bb1 := below_drewN bb1 nq
    clear x0 k0
    generalize w2.drewN nq = w3 at *
    have x0 := kp1.cell 0
    obtain ⟨_, _, k0, _⟩ := hj1.cells
    go_upto_if 37 with (fail)
    have hm3 := Mod.of_fresh (M := (· = g)) bb1
    have hgp : g < w.heap.size := hgl0
    go_cut [8] (fun hv wc => ∃ A' c' ob', hv = .slice A' (gaps s ⟨seq, first, last, false, body⟩).length c' ∧ (gaps s ⟨seq, first, last, false, body⟩).length ≤ c' ∧ JnR wc g ob' (s.gap ⟨seq, first, last, false, body⟩) ∧ (ob' = ob ∨ ob' = none) ∧ RdHo wc (fun b => w.heap.size ≤ b) A' (gaps s ⟨seq, first, last, false, body⟩) ∧ Mod (· = g) w wc ∧ Blk wc w.heap.size 33 #[.int .i64 seq, .bool first, .bool last, .bool false, .slice A body.length c])
    case first =>
      by_cases hgp2 : s.next < seq
      · have HG1 := Lib.hid (show gaps s ⟨seq, first, last, false, body⟩ = [⟨s.next, seq - 1⟩] by simp [gaps, hgp2])
        have HG2 := Lib.hid (show s.gap ⟨seq, first, last, false, body⟩ = s.spoil by simp [Jn.gap, hgp2])
        have t4 : decide (s.next < seq) = true := by simpa using hgp2
        have e1 : IntKind.i64.wrap (seq - 1) = seq - 1 := IntWalk.i64_in _ (by omega)
        go_wp2
        have hgl3 : w.heap.size ≤ w3.heap.size := bb1.size
        refine wp_region_held_drew (S := (fun w' => Below w3.heap.size w3 w')) (by kernel_rfl) ?_ (fun hHeld => ?_)
        focus exact (Below.refl _ _).drew
        refine wpAnyH_take (i := 0) (v := ?_) rfl (by kernel_rfl) (by kernel_rfl) (by kernel_rfl) (fun _ _ _ h => h) (Or.inl ⟨by kernel_rfl, ?_⟩) (by assumption) ?_
        rotate_left
        focus
          intro w9 hSw
          (try dsimp only at hSw)
          have zK : ∀ {a9 : Addr} {u9 : Value}, w3.cell? a9 = some u9 → w9.cell? a9 = some u9 := fun {a9} {u9} h9 => (hSw.cell (World.block_lt_of_cell? w3 a9 h9)).trans h9
          have z0 := zK x0
          have z1 := zK k0
          clear zK hSw
          go_simp
          (try with_reducible rfl)
        (try simp only [Act.put, List.getElem_toArray, List.getElem_cons_succ, List.getElem_cons_zero, List.setIfInBounds_toArray, List.set_cons_zero, List.set_cons_succ])
        refine wpAnyH_take (i := 1) (v := ?_) rfl (by kernel_rfl) (by kernel_rfl) (by kernel_rfl) (fun _ _ _ h => h) (Or.inl ⟨by kernel_rfl, ?_⟩) (by assumption) ?_
        rotate_left
        focus
          intro w9 hSw
          (try dsimp only at hSw)
          have zK : ∀ {a9 : Addr} {u9 : Value}, w3.cell? a9 = some u9 → w9.cell? a9 = some u9 := fun {a9} {u9} h9 => (hSw.cell (World.block_lt_of_cell? w3 a9 h9)).trans h9
          have z0 := zK x0
          have z1 := zK k0
          clear zK hSw
          go_simp
          (try with_reducible rfl)
        (try simp only [Act.put, List.getElem_toArray, List.getElem_cons_succ, List.getElem_cons_zero, List.setIfInBounds_toArray, List.set_cons_zero, List.set_cons_succ])
        refine wpAnyH_take (i := 2) (v := ?_) rfl (by kernel_rfl) (by kernel_rfl) (by kernel_rfl) (fun _ _ _ h => h) (Or.inl ⟨by kernel_rfl, ?_⟩) (by assumption) ?_
        rotate_left
        focus
          intro w9 hSw
          (try dsimp only at hSw)
          have zK : ∀ {a9 : Addr} {u9 : Value}, w3.cell? a9 = some u9 → w9.cell? a9 = some u9 := fun {a9} {u9} h9 => (hSw.cell (World.block_lt_of_cell? w3 a9 h9)).trans h9
          have z0 := zK x0
          have z1 := zK k0
          clear zK hSw
          go_simp
          (try with_reducible rfl)
        (try simp only [Act.put, List.getElem_toArray, List.getElem_cons_succ, List.getElem_cons_zero, List.setIfInBounds_toArray, List.set_cons_zero, List.set_cons_succ])
        refine wpAnyH_take (i := 3) (v := ?_) rfl (by kernel_rfl) (by kernel_rfl) (by kernel_rfl) (fun _ _ _ h => h) (Or.inl ⟨by kernel_rfl, ?_⟩) (by assumption) ?_
        rotate_left
        focus
          intro w9 hSw
          (try dsimp only at hSw)
          have zK : ∀ {a9 : Addr} {u9 : Value}, w3.cell? a9 = some u9 → w9.cell? a9 = some u9 := fun {a9} {u9} h9 => (hSw.cell (World.block_lt_of_cell? w3 a9 h9)).trans h9
          have z0 := zK x0
          have z1 := zK k0
          clear zK hSw
          go_simp
          (try with_reducible rfl)
        (try simp only [Act.put, List.getElem_toArray, List.getElem_cons_succ, List.getElem_cons_zero, List.setIfInBounds_toArray, List.set_cons_zero, List.set_cons_succ])
        refine wpAnyH_take (i := 4) (v := ?_) rfl (by kernel_rfl) (by kernel_rfl) (by kernel_rfl) (fun _ _ _ h => h) (Or.inl ⟨by kernel_rfl, ?_⟩) (by assumption) ?_
        rotate_left
        focus
          intro w9 hSw
          (try dsimp only at hSw)
          have zK : ∀ {a9 : Addr} {u9 : Value}, w3.cell? a9 = some u9 → w9.cell? a9 = some u9 := fun {a9} {u9} h9 => (hSw.cell (World.block_lt_of_cell? w3 a9 h9)).trans h9
          have z0 := zK x0
          have z1 := zK k0
          clear zK hSw
          go_simp
          (try with_reducible rfl)
        (try simp only [Act.put, List.getElem_toArray, List.getElem_cons_succ, List.getElem_cons_zero, List.setIfInBounds_toArray, List.set_cons_zero, List.set_cons_succ])
        refine wpAnyH_take (i := 5) (v := ?_) rfl (by kernel_rfl) (by kernel_rfl) (by kernel_rfl) (fun _ _ _ h => h) (Or.inl ⟨by kernel_rfl, ?_⟩) (by assumption) ?_
        rotate_left
        focus
          intro w9 hSw
          (try dsimp only at hSw)
          have zK : ∀ {a9 : Addr} {u9 : Value}, w3.cell? a9 = some u9 → w9.cell? a9 = some u9 := fun {a9} {u9} h9 => (hSw.cell (World.block_lt_of_cell? w3 a9 h9)).trans h9
          have z0 := zK x0
          have z1 := zK k0
          clear zK hSw
          go_simp
          (try with_reducible rfl)
        (try simp only [Act.put, List.getElem_toArray, List.getElem_cons_succ, List.getElem_cons_zero, List.setIfInBounds_toArray, List.set_cons_zero, List.set_cons_succ])
        refine wpAnyH_take (i := 6) (v := ?_) rfl (by kernel_rfl) (by kernel_rfl) (by kernel_rfl) (fun _ _ _ h => h) (Or.inl ⟨by kernel_rfl, ?_⟩) (by assumption) ?_
        rotate_left
        focus
          intro w9 hSw
          (try dsimp only at hSw)
          have zK : ∀ {a9 : Addr} {u9 : Value}, w3.cell? a9 = some u9 → w9.cell? a9 = some u9 := fun {a9} {u9} h9 => (hSw.cell (World.block_lt_of_cell? w3 a9 h9)).trans h9
          have z0 := zK x0
          have z1 := zK k0
          clear zK hSw
          go_simp
          (try with_reducible rfl)
        (try simp only [Act.put, List.getElem_toArray, List.getElem_cons_succ, List.getElem_cons_zero, List.setIfInBounds_toArray, List.set_cons_zero, List.set_cons_succ])
        refine wpAnyH_take (i := 7) (v := ?_) rfl (by kernel_rfl) (by kernel_rfl) (by kernel_rfl) (fun _ _ _ h => h) (Or.inl ⟨by kernel_rfl, ?_⟩) (by assumption) ?_
        rotate_left
        focus
          intro w9 hSw
          (try dsimp only at hSw)
          have zK : ∀ {a9 : Addr} {u9 : Value}, w3.cell? a9 = some u9 → w9.cell? a9 = some u9 := fun {a9} {u9} h9 => (hSw.cell (World.block_lt_of_cell? w3 a9 h9)).trans h9
          have z0 := zK x0
          have z1 := zK k0
          clear zK hSw
          go_simp
          (try with_reducible rfl)
        (try simp only [Act.put, List.getElem_toArray, List.getElem_cons_succ, List.getElem_cons_zero, List.setIfInBounds_toArray, List.set_cons_zero, List.set_cons_succ])
        refine wpAnyH_take (i := 8) (v := ?_) rfl (by kernel_rfl) (by kernel_rfl) (by kernel_rfl) (fun _ _ _ h => h) (Or.inl ⟨by kernel_rfl, ?_⟩) (by assumption) ?_
        rotate_left
        focus
          intro w9 hSw
          (try dsimp only at hSw)
          have zK : ∀ {a9 : Addr} {u9 : Value}, w3.cell? a9 = some u9 → w9.cell? a9 = some u9 := fun {a9} {u9} h9 => (hSw.cell (World.block_lt_of_cell? w3 a9 h9)).trans h9
          have z0 := zK x0
          have z1 := zK k0
          clear zK hSw
          go_simp
          (try with_reducible rfl)
        (try simp only [Act.put, List.getElem_toArray, List.getElem_cons_succ, List.getElem_cons_zero, List.setIfInBounds_toArray, List.set_cons_zero, List.set_cons_succ])
        refine wpAnyH_ready (rs := [9]) (by kernel_rfl) (by simp) (AllReadyH.cons rfl (fun K hK => ?_) AllReadyH.nil)
        go_simp
        refine hK.out _ _ ?_ (fun hHeld => ?_)
        focus exact (below_alloc (Below.refl _ _) _).drew
        clear hK K
        (try simp only [Act.put, List.getElem_toArray, List.getElem_cons_succ, List.getElem_cons_zero, List.setIfInBounds_toArray, List.set_cons_zero, List.set_cons_succ])
        refine wpAnyH_ready (rs := [10]) (by kernel_rfl) (by simp) (AllReadyH.cons rfl (fun K hK => ?_) AllReadyH.nil)
        refine step_push_G (by rfl) (.tmp 38) (.tmp 47) _ (by rfl) HoR.good w3.drew (.agg #[.int .i64 0, .int .i64 0]) 16 Try.underlying34 info_ho (by rfl) (by omega) (by rfl) (OwnG.nil_ HoR 2 41 w3.drew w.heap.size (fun _ => False)) (fun _ => False) _ _ [.int .i64 s.next, .int .i64 (seq - 1)] ⟨s.next, seq - 1⟩ (by rfl) (by rfl) (show HoR _ _ _ _ from ⟨rfl, ⟨hsn, HSn.out⟩, ⟨by simp only; omega, by simp only; omega⟩⟩) (fun b => b = w3.heap.size) (fun _ h _ => h.elim) (fun _ h _ => h.elim) (fun _ h => by cases h) (fun b hb => Nat.le_of_eq hb) rfl (by simp) (by exact hgl3) ?_
        intro v4 w4 ow4 hg4 _
        have ba4 : Below w3.heap.size w3 (w3.drew.alloc (.cells #[.int .i64 s.next, .int .i64 (seq - 1)] 41)) := Below.alloc ((Below.refl w3.heap.size w3).drew) (Nat.le_refl _) _
        have bb4 : Below w3.heap.size w3 w4 := ba4.grown hg4 (by simp) (fun _ h => by cases h)
        refine hK.out _ _ ?_ (fun hHeld => ?_)
        focus exact bb4
        clear hK K
        (try simp only [Act.put, List.getElem_toArray, List.getElem_cons_succ, List.getElem_cons_zero, List.setIfInBounds_toArray, List.set_cons_zero, List.set_cons_succ])
        refine wpAnyH_take (i := 11) (v := ?_) rfl (by kernel_rfl) (by kernel_rfl) (by kernel_rfl) (fun _ _ _ h => h) (Or.inl ⟨by kernel_rfl, ?_⟩) (by assumption) ?_
        rotate_left
        focus
          intro w9 hSw
          (try dsimp only at hSw)
          go_simp
          (try with_reducible rfl)
        (try simp only [Act.put, List.getElem_toArray, List.getElem_cons_succ, List.getElem_cons_zero, List.setIfInBounds_toArray, List.set_cons_zero, List.set_cons_succ])
        refine wpAnyH_done (by kernel_rfl) ?_ _
        (try simp only [Act.put, List.getElem_toArray, List.getElem_cons_succ, List.getElem_cons_zero, List.setIfInBounds_toArray, List.set_cons_zero, List.set_cons_succ])
        have hj4 := hj1.below bb4
        have kp4 := kp1.below bb4 kp1.lt
        obtain ⟨A4, c4, rfl, hc4, hr4, _⟩ := ow4.form HoR.good
        have hlt4 := ow4.own_ge
        go_wp2_with (first
          | (go_at_call 51; (with_reducible refine (jspoil_any hj4 (by omega)).mono ?_); rintro e w5 ⟨rfl, hj5, hM5⟩))
        go_meet
        rw [HG1.out, HG2.out]
        have hgw4 : g < w4.heap.size := hj4.lt
        refine ⟨A4, c4, _, rfl, hc4, hj5, ?_, ?_, (Mod.of_fresh (below_then bb1 bb4)).then_ hM5, kp4.mod hM5 (by first | omega | (simp only at *; omega))⟩
        · split
          · exact .inr rfl
          · exact .inl rfl
        · refine RdG.keep HoR.good (hr4.weak HoR.good ?_) hM5 (fun b hb _ => by first | omega | (simp only at hb; omega))
          rintro b (⟨hb, _⟩ | hb) _
          · first | omega | (simp only at hb; omega) | (subst hb; omega)
          · exact (hlt4 b hb).1
      · have HG1 := Lib.hid (show gaps s ⟨seq, first, last, false, body⟩ = [] by simp [gaps, hgp2])
        have HG2 := Lib.hid (show s.gap ⟨seq, first, last, false, body⟩ = s by simp [Jn.gap, hgp2])
        have t4 : decide (s.next < seq) = false := by simpa using hgp2
        go_wp2
        go_meet
        rw [HG1.out, HG2.out]
        exact ⟨none, 0, ob, rfl, Nat.le_refl _, hj1, .inl rfl, RdG.nil_, hm3, kp1⟩
    case rest =>
      obtain ⟨A2, c2, ob2, rfl, hc2, hj2, hob2, hho, hM2, kp2⟩ := hcut
      clear hm3 hj1 kp1 bb1 x0 k0
      have x0 := kp2.cell 0
      have x1 := kp2.cell 1
      have hne1 : g ≠ w.heap.size := by omega
      have hne2 : w.heap.size ≠ g := by omega
      obtain ⟨_, _, k0, _, _, _, ⟨f0, _⟩, _⟩ := hj2.cells
      have e1 : IntKind.i64.wrap (seq + 1) = seq + 1 := IntWalk.i64_in _ (by omega)
      go_upto_if 58 with (fail)
      have hj3 : JnR _ g ob2 (s.turn ⟨seq, first, last, false, body⟩) := hj2.nxt (n := seq + 1) (by omega) (by omega)
      have hM3 := mod_put (off := 0) (u := .int .i64 (seq + 1)) hM2 (fun _ => rfl)
      have kp3 := kp2.far (p := ⟨g, 0, none⟩) (by first | omega | (simp only at *; omega)) (.int .i64 (seq + 1))
      have hho3 := RdG.keep HoR.good hho (mod_put (M := (· = g)) (off := 0) (u := .int .i64 (seq + 1)) (Mod.refl _ _) (fun _ => rfl)) (fun b hb _ => by first | omega | (simp only at hb; omega))
      generalize wc.setCell ⟨g, 0, none⟩ (.int .i64 (seq + 1)) = w4 at *
      clear hM2 kp2 hj2 hho x0 x1 k0 f0
      have hgk := gap_k s ⟨seq, first, last, false, body⟩
      have htk : (s.turn ⟨seq, first, last, false, body⟩).broken = (s.gap ⟨seq, first, last, false, body⟩).broken := rfl
      have HTK := Lib.hid (show (s.turn ⟨seq, first, last, false, body⟩).broken ≤ 4611686018427387904 by omega)
      clear htk hgk
      go_cut [] (fun wd => ∃ ob', JnR wd g ob' (s.start ⟨seq, first, last, false, body⟩) ∧ (ob' = ob ∨ ob' = none) ∧ RdHo wd (fun b => w.heap.size ≤ b) A2 (gaps s ⟨seq, first, last, false, body⟩) ∧ Mod (· = g) w wd ∧ Blk wd w.heap.size 33 #[.int .i64 seq, .bool first, .bool last, .bool false, .slice A body.length c])
      case first =>
        cases first with
        | true =>
          have HST := Lib.hid (show s.start ⟨seq, true, last, false, body⟩ = ⟨((s.turn ⟨seq, true, last, false, body⟩).spoil).next, true, ((s.turn ⟨seq, true, last, false, body⟩).spoil).body, ((s.turn ⟨seq, true, last, false, body⟩).spoil).broken⟩ from rfl)
          generalize s.turn ⟨seq, true, last, false, body⟩ = st at *
          go_wp2_with (first
            | (go_at_call 51; (with_reducible refine (jspoil_any hj3 HTK.out).mono ?_); rintro e w5 ⟨rfl, hj5, hM5⟩; obtain ⟨_, _, _, k1, _, _, ⟨_, f1, _⟩, _⟩ := hj5.cells))
          go_meet
          rw [HST.out]
          have hj6 := hj5.beg true
          have hM6 := mod_put (M := (· = g)) (off := 1) (u := .bool true) hM5 (fun _ => rfl)
          refine ⟨_, hj6, ?_, RdG.keep HoR.good hho3 hM6 (fun b hb _ => by first | omega | (simp only at hb; omega)), hM3.then_ hM6, kp3.mod hM6 (by first | omega | (simp only at *; omega))⟩
          split
          · exact .inr rfl
          · exact hob2
        | false =>
          have HST := Lib.hid (show s.start ⟨seq, false, last, false, body⟩ = s.turn ⟨seq, false, last, false, body⟩ from rfl)
          go_wp2
          go_meet
          rw [HST.out]
          exact ⟨_, hj3, hob2, hho3, hM3, kp3⟩
      case rest =>
        obtain ⟨ob3, hj4, hob3, hho4, hM4, kp4⟩ := hcut
        clear hj3 hM3 kp3 hho3 HTK
        have hsl3 := start_len s ⟨seq, first, last, false, body⟩
        have hsk3 := start_k s ⟨seq, first, last, false, body⟩
        have HQ1 := Lib.hid (fun h => put_quiet (s := s) (p := ⟨seq, first, last, false, body⟩) HDf.out h)
        have HQ2 := Lib.hid (fun h h2 => put_long (s := s) (p := ⟨seq, first, last, false, body⟩) HDf.out h h2)
        have HQ3 := Lib.hid (fun h h2 h3 => put_more (s := s) (p := ⟨seq, first, last, false, body⟩) HDf.out h h2 h3)
        have HQ4 := Lib.hid (fun h h2 h3 h4 => put_bad (s := s) (p := ⟨seq, first, last, false, body⟩) HDf.out h h2 h3 h4)
        have HQ5 := Lib.hid (fun h h2 h3 h4 => put_ok (s := s) (p := ⟨seq, first, last, false, body⟩) HDf.out h h2 h3 h4)
        simp only [Jn.full] at HQ2 HQ3 HQ4 HQ5
        generalize gaps s ⟨seq, first, last, false, body⟩ = hs at *
        generalize s.start ⟨seq, first, last, false, body⟩ = st at *
        generalize s.put ⟨seq, first, last, false, body⟩ = r at *
        have hobw := hst.own
        have hobn : ∀ b, w.heap.size ≤ b → ob3 ≠ some b := fun b hb he => by
          rcases hob3 with h1 | h1
          · have := hobw b (by rw [← h1]; exact he); omega
          · rw [h1] at he; cases he
        have hobk : ∀ b, ob3 = some b → ob = some b ∨ w.heap.size ≤ b := fun b he => by
          rcases hob3 with h1 | h1
          · exact .inl (by rw [← h1]; exact he)
          · rw [h1] at he; cases he
        have hho5 := hho4.weak HoR.good (S' := fun b => w.heap.size ≤ b ∧ ob3 ≠ some b) (fun b hb _ => ⟨hb, hobn b hb⟩)
        obtain ⟨Aj, cj, k0, k1, k2, k3, ⟨f0, f1, f2, f3⟩, ow, hob, hcj, hrj, hwf3⟩ := hj4.cells
        have hgd := hj4.lt
        cases hbg : st.begun with
        | false =>
          rw [hbg] at k1
          have HR := Lib.hid (HQ1.out hbg)
          clear hbg
          go_wp2
          go_ret2
          rw [HR.out]
          exact ⟨none, 0, A2, c2, ob3, rfl, Nat.le_refl _, hc2, hj4, RdG.nil_, hho5, hM4.mono (fun b hb _ => .inl hb), hobk⟩
        | true =>
          rw [hbg] at k1
          have HBG := Lib.hid hbg
          clear hbg
          have x4 := kp4.cell 4
          have hrp := RdS.keep hr hM4 (fun b hb hl => (hS b hb hl).1)
          have hown3 := hj4.own
          go_wp2
          refine wp_region_last (S := (fun w' => w'.cell? ⟨w.heap.size, 4, none⟩ = some (.slice A body.length c) ∧ w'.cell? ⟨g, 2, none⟩ = some (.slice Aj st.body.length cj))) 10 _ (by simp only [List.pop_toArray, List.dropLast_cons_cons, List.dropLast_singleton]; rfl) (by kernel_rfl) (by kernel_rfl) (by kernel_rfl) (by kernel_rfl) (by kernel_rfl) ?_ (fun hHeld => ?_)
          focus exact ⟨x4, k2⟩
          refine wpAnyH_take (i := 0) (v := ?_) rfl (by kernel_rfl) (by kernel_rfl) (by kernel_rfl) (fun _ _ _ h => h) (Or.inl ⟨by kernel_rfl, ?_⟩) (by assumption) ?_
          rotate_left
          focus
            intro w9 hSw
            (try dsimp only at hSw)
            go_simp
            (try with_reducible rfl)
          (try simp only [Act.put, List.getElem_toArray, List.getElem_cons_succ, List.getElem_cons_zero, List.setIfInBounds_toArray, List.set_cons_zero, List.set_cons_succ])
          refine wpAnyH_take (i := 1) (v := ?_) rfl (by kernel_rfl) (by kernel_rfl) (by kernel_rfl) (fun _ _ _ h => h) (Or.inl ⟨by kernel_rfl, ?_⟩) (by assumption) ?_
          rotate_left
          focus
            intro w9 hSw
            (try dsimp only at hSw)
            go_simp
            (try with_reducible rfl)
          (try simp only [Act.put, List.getElem_toArray, List.getElem_cons_succ, List.getElem_cons_zero, List.setIfInBounds_toArray, List.set_cons_zero, List.set_cons_succ])
          refine wpAnyH_take (i := 2) (v := ?_) rfl (by kernel_rfl) (by kernel_rfl) (by kernel_rfl) (fun _ _ _ h => h) (Or.inl ⟨by kernel_rfl, ?_⟩) (by assumption) ?_
          rotate_left
          focus
            intro w9 hSw
            (try dsimp only at hSw)
            go_simp
            (try with_reducible rfl)
          (try simp only [Act.put, List.getElem_toArray, List.getElem_cons_succ, List.getElem_cons_zero, List.setIfInBounds_toArray, List.set_cons_zero, List.set_cons_succ])
          refine wpAnyH_take (i := 3) (v := ?_) rfl (by kernel_rfl) (by kernel_rfl) (by kernel_rfl) (fun _ _ _ h => h) (Or.inl ⟨by kernel_rfl, ?_⟩) (by assumption) ?_
          rotate_left
          focus
            intro w9 hSw
            (try dsimp only at hSw)
            go_simp
            (try with_reducible rfl)
          (try simp only [Act.put, List.getElem_toArray, List.getElem_cons_succ, List.getElem_cons_zero, List.setIfInBounds_toArray, List.set_cons_zero, List.set_cons_succ])
          refine wpAnyH_take (i := 4) (v := ?_) rfl (by kernel_rfl) (by kernel_rfl) (by kernel_rfl) (fun _ _ _ h => h) (Or.inl ⟨by kernel_rfl, ?_⟩) (by assumption) ?_
          rotate_left
          focus
            intro w9 hSw
            (try dsimp only at hSw)
            go_simp
            (try with_reducible rfl)
          (try simp only [Act.put, List.getElem_toArray, List.getElem_cons_succ, List.getElem_cons_zero, List.setIfInBounds_toArray, List.set_cons_zero, List.set_cons_succ])
          refine wpAnyH_take (i := 5) (v := ?_) rfl (by kernel_rfl) (by kernel_rfl) (by kernel_rfl) (fun _ _ _ h => h) (Or.inl ⟨by kernel_rfl, ?_⟩) (by assumption) ?_
          rotate_left
          focus
            intro w9 hSw
            (try dsimp only at hSw)
            go_simp
            (try with_reducible rfl)
          (try simp only [Act.put, List.getElem_toArray, List.getElem_cons_succ, List.getElem_cons_zero, List.setIfInBounds_toArray, List.set_cons_zero, List.set_cons_succ])
          refine wpAnyH_take (i := 6) (v := ?_) rfl (by kernel_rfl) (by kernel_rfl) (by kernel_rfl) (fun _ _ _ h => h) (Or.inl ⟨by kernel_rfl, ?_⟩) (by assumption) ?_
          rotate_left
          focus
            intro w9 hSw
            (try dsimp only at hSw)
            go_simp
            (try with_reducible rfl)
          (try simp only [Act.put, List.getElem_toArray, List.getElem_cons_succ, List.getElem_cons_zero, List.setIfInBounds_toArray, List.set_cons_zero, List.set_cons_succ])
          refine wpAnyH_ready (rs := [7]) (by kernel_rfl) (by simp) (AllReadyH.cons rfl (fun K hK => ?_) AllReadyH.nil)
          refine step_append_int _ (by rfl) (.tmp 74) (.tmp 76) _ (by rfl) wc (g + 1) (g + 1) 5 .u8 1 Try.underlying31 info_u8 (.slice Aj st.body.length cj) st.body (by rfl) (by exact ow) wc.heap.size A _ c body (by rfl) (by rfl) (by exact hrp.top) (by omega) (by omega) (by exact (Below.refl _ _).drew) (Nat.le_refl _) (by exact hgd) ?_
          intro v5 w5 ow5 bw5 hg5' hv5
          have ow5' := ow5
          obtain ⟨A5, c5, rfl, hc5, hr5, _⟩ := ow5.form
          have hg5 := only_undrew hg5'
          rw [hob] at hg5 hv5
          clear hg5'
          have hng : some g ≠ ob3 := fun e => by have := hown3 g e.symm; omega
          have kp5 := kp4.grown hg5 (fun e => hobn _ (Nat.le_refl _) e.symm)
          have k25 := hg5.cell k2 hng
          have f25 : w5.frozen? ⟨g, 2, none⟩ = false := (World.frozen?_of_block (hg5.block g hgd hng)).trans f2
          refine hK.out _ _ ?_ (fun hHeld => ?_)
          focus exact ⟨kp5.cell 4, k25⟩
          clear hK K
          (try simp only [Act.put, List.getElem_toArray, List.getElem_cons_succ, List.getElem_cons_zero, List.setIfInBounds_toArray, List.set_cons_zero, List.set_cons_succ])
          refine wpAnyH_take (i := 8) (v := ?_) rfl (by kernel_rfl) (by kernel_rfl) (by kernel_rfl) (fun _ _ _ h => h) (Or.inl ⟨by kernel_rfl, ?_⟩) (by assumption) ?_
          rotate_left
          focus
            intro w9 hSw
            (try dsimp only at hSw)
            go_simp
            (try with_reducible rfl)
          (try simp only [Act.put, List.getElem_toArray, List.getElem_cons_succ, List.getElem_cons_zero, List.setIfInBounds_toArray, List.set_cons_zero, List.set_cons_succ])
          refine wpAnyH_take (i := 9) (v := ?_) rfl (by kernel_rfl) (by kernel_rfl) (by kernel_rfl) (fun _ _ _ h => h) (Or.inl ⟨by kernel_rfl, ?_⟩) (by assumption) ?_
          rotate_left
          focus
            intro w9 hSw
            (try dsimp only at hSw)
            go_simp
            (try with_reducible rfl)
          (try simp only [Act.put, List.getElem_toArray, List.getElem_cons_succ, List.getElem_cons_zero, List.setIfInBounds_toArray, List.set_cons_zero, List.set_cons_succ])
          refine wpAnyH_done (by kernel_rfl) (lastQ_step rfl (fun K hK => ?_)) _
          go_simp
          refine hK _ _ ?_
          clear hK K
          rw [← List.length_append]
          have hj6 := hj4.grow hg5 ow5' rfl (by omega) hw.bytes
          have hM5 : Mod (fun b => ob3 = some b) wc w5 := Mod.of_grown hg5 (fun b e _ => e)
          have hM6 : Mod (fun b => b = g ∨ ob = some b) w w5 := (hM4.mono (M' := fun b => b = g ∨ ob = some b) (fun b hb _ => .inl hb)).trans hM5 (fun b hb hl => .inr ((hobk b hb).resolve_right (by omega)))
          have hM7 := mod_put (off := 2) (u := .slice A5 (st.body ++ body).length c5) hM6 (fun _ => .inl rfl)
          have hho6 := RdG.keep HoR.good (hho4.weak HoR.good (S' := fun b => w.heap.size ≤ b ∧ b < wc.heap.size) (fun b hb hl => ⟨hb, hl⟩)) hM5 (fun b hb _ => hobn b hb.1)
          have hho7 := RdG.keep HoR.good hho6 (mod_put (M := (· = g)) (off := 2) (u := .slice A5 (st.body ++ body).length c5) (Mod.refl _ _) (fun _ => rfl)) (fun b hb _ => by first | omega | (simp only at hb; omega))
          obtain ⟨ob5, hob5⟩ : ∃ ob5, ob5 = (Value.slice A5 (st.body ++ body).length c5).ownBlock := ⟨_, rfl⟩
          rw [← hob5] at hj6 hv5
          have hv5' : ob5 = ob3 ∨ ob5 = some wc.heap.size := hv5
          have hobn5 : ∀ b, w.heap.size ≤ b → b < wc.heap.size → ob5 ≠ some b := fun b hb hl he => by
            rcases hv5' with h1 | h1
            · exact hobn b hb (by rw [← h1]; exact he)
            · rw [h1] at he; injection he with he; omega
          have hszc : w.heap.size ≤ wc.heap.size := hM4.size
          have hobk5 : ∀ b, ob5 = some b → ob = some b ∨ w.heap.size ≤ b := fun b he => by
            rcases hv5' with h1 | h1
            · exact hobk b (by rw [← h1]; exact he)
            · rw [h1] at he; injection he with he; right; omega
          have hho8 := hho7.weak HoR.good (S' := fun b => w.heap.size ≤ b ∧ ob5 ≠ some b) (fun b hb _ => ⟨hb.1, hobn5 b hb.1 hb.2⟩)
          have kp7 := kp5.far (p := ⟨g, 2, none⟩) (by simp only; omega) (.slice A5 (st.body ++ body).length c5)
          have hby5 : byteB (st.body ++ body) := hwf3.bytes.append hw.bytes
          have hl5 : (st.body ++ body).length = st.body.length + body.length := List.length_append
          have HQ2' := Lib.hid (HQ2.out HBG.out)
          have HQ3' := Lib.hid (HQ3.out HBG.out)
          have HQ4' := Lib.hid (HQ4.out HBG.out)
          have HQ5' := Lib.hid (HQ5.out HBG.out)
          clear hob5 hv5 hv5' hr5 ow5 ow5' hM5 hM6 hho6 hho7 hg5 k25 f25 bw5 kp5 hHeld
          generalize st.body ++ body = bd at *
          generalize w5.setCell ⟨g, 2, none⟩ (.slice A5 bd.length c5) = w7 at *
          have hbd : bd.length ≤ 70000 := by omega
          clear hl5 HQ1 HQ2 HQ3 HQ4 HQ5
          obtain ⟨Ad, cd, z0, z1, z2, z3, ⟨y0, y1, y2, y3⟩, owd, hod, hcd, hrd, _⟩ := hj6.cells
          simp only at z0 z1 z2 z3 owd hcd hrd hod
          by_cases hlong : 65554 < bd.length
          · have HR := Lib.hid (HQ2'.out hlong)
            have t6 : (65554 : Int) < (bd.length : Int) := by omega
            go_wp2_with (first
              | (go_at_call 51; (with_reducible refine (jspoil_any hj6 (by simp only; omega)).mono ?_); rintro e w8 ⟨rfl, hj8, hM8⟩))
            go_ret2
            rw [HR.out]
            have hob8 : ∀ b, (if st.begun then none else ob5) = some b → ob5 = some b := fun b he => by split at he; cases he; exact he
            refine ⟨none, 0, A2, c2, _, rfl, Nat.le_refl _, hc2, hj8, RdG.nil_, ?_, hM7.trans hM8 (fun b hb _ => .inl hb), fun b he => hobk5 b (hob8 b he)⟩
            exact RdG.keep HoR.good (hho8.weak HoR.good (fun b hb _ => ⟨hb.1, fun he => hb.2 (hob8 b he)⟩)) hM8 (fun b hb _ => by first | omega | (simp only at hb; omega))
          · have t6 : decide ((65554 : Int) < (bd.length : Int)) = false := by simp; omega
            cases last with
            | false =>
              have HR := Lib.hid (HQ3'.out hlong rfl)
              have x2 := kp7.cell 2
              go_wp2
              go_ret2
              rw [HR.out]
              exact ⟨none, 0, A2, c2, ob5, rfl, Nat.le_refl _, hc2, hj6, RdG.nil_, hho8, hM7, hobk5⟩
            | true =>
              have x2 := kp7.cell 2
              have HO := Lib.hid (fun W (hW : Below w7.heap.size w7 W) => open_any (c := cd) (RdI.below hrd hW (Nat.le_refl _)) hW.size hby5 hcd (by omega))
              have HQ4 := Lib.hid (HQ4'.out hlong rfl)
              have HQ5 := Lib.hid (HQ5'.out hlong rfl)
              have HWf := Lib.hid (openP_wf hby5 (by omega))
              generalize openE bd = E at *
              generalize openP bd = P at *
              have HJ := Lib.hid (fun W (hW : Below w7.heap.size w7 W) => hj6.below hW)
              have hg7 : g < w7.heap.size := hj6.lt
              obtain ⟨P1, P2, P3, P4, P5, P6⟩ := P
              simp only [Pk.val] at HO
              by_cases hE : E = 0
              · subst hE
                have HR := Lib.hid (HQ5.out rfl)
                go_wp2_with (first
                  | (go_at_call 52; (with_reducible refine (HO.out _ (Below.refl _ _)).mono ?_); rintro e w8 ⟨A8, c8, rfl, ho8, hb8⟩; have hg8 : g < w8.heap.size := Nat.lt_of_lt_of_le hg7 hb8.size; have hn1 : g ≠ w8.heap.size := (by omega); have hn2 : w8.heap.size ≠ g := (by omega); have hjj := (HJ.out _ hb8).cells; obtain ⟨Ae, ce, v0, v1', v2, v3, ⟨u0, u1, u2, u3⟩, _⟩ := hjj))
                go_ret2
                rw [HR.out]
                obtain ⟨_, hc8, hrd8⟩ := ho8.rds
                have hpk : PkR w8 (fun b => w7.heap.size ≤ b ∧ b < w8.heap.size) [.int .i64 P1, .int .i64 P2, .int .i64 P3, .bool P4, .bool P5, .slice A8 P6.length c8] ⟨P1, P2, P3, P4, P5, P6⟩ := ⟨A8, c8, rfl, hc8, hrd8.weak (fun b hb _ => ⟨hb.1, hb.2.1⟩), HWf.out⟩
                have hjz := ((HJ.out _ hb8).beg false).clr
                have hMz : Mod (· = g) w8 ((w8.setCell ⟨g, 1, none⟩ (.bool false)).setCell ⟨g, 2, none⟩ (.slice none 0 0)) := mod_put (mod_put (Mod.refl _ _) (fun _ => rfl)) (fun _ => rfl)
                have hpz := PkR.good.keep hpk hMz (fun b hb _ => by first | omega | (simp only at hb; omega))
                have hhz := RdG.keep HoR.good (hho8.below HoR.good hb8) hMz (fun b hb _ => by first | omega | (simp only at hb; omega))
                have hMw := (hM7.then_ (Mod.of_fresh hb8)).trans hMz (fun b hb _ => .inl hb)
                have hszz : ((w8.setCell ⟨g, 1, none⟩ (.bool false)).setCell ⟨g, 2, none⟩ (.slice none 0 0)).heap.size = w8.heap.size := by simp [World.setCell]
                generalize (w8.setCell ⟨g, 1, none⟩ (.bool false)).setCell ⟨g, 2, none⟩ (.slice none 0 0) = wz at *
                have hpy := PkR.good.keep hpz ((Mod.refl (fun _ => False) wz).alloc (.cells #[.int .i64 P1, .int .i64 P2, .int .i64 P3, .bool P4, .bool P5, .slice A8 P6.length c8] 84)) (fun _ _ _ h => h)
                have hone := RdG.one_ PkR.good _ hpy 84
                have hsy : (wz.alloc (.cells #[.int .i64 P1, .int .i64 P2, .int .i64 P3, .bool P4, .bool P5, .slice A8 P6.length c8] 84)).heap.size = w8.heap.size + 1 := by simp [hszz]
                rw [hsy] at hone
                have hby := below_alloc (below_alloc (Below.refl wz.heap.size wz) (.cells #[.int .i64 P1, .int .i64 P2, .int .i64 P3, .bool P4, .bool P5, .slice A8 P6.length c8] 84)) (.cells #[.int .i64 P1, .int .i64 P2, .int .i64 P3, .bool P4, .bool P5, .slice A8 P6.length c8] 84)
                have h78 : w.heap.size ≤ w7.heap.size := hM7.size
                have h88 : w7.heap.size ≤ w8.heap.size := hb8.size
                exact ⟨_, 1, A2, c2, none, rfl, Nat.le_refl _, hc2, hjz.below hby, hone.weak PkR.good (fun b hb _ => ⟨by rcases hb with ⟨⟨h1, _⟩, _⟩ | h1 <;> omega, by simp⟩), (hhz.below HoR.good hby).weak HoR.good (fun b hb _ => ⟨hb.1, by simp⟩), (hMw.alloc _).alloc _, fun b hb => by cases hb⟩
              · have t7 : (E != 0) = true := by rw [bne_iff_ne]; exact hE
                have HR := Lib.hid (HQ4.out hE)
                clear hE
                go_wp2_with (first
                  | (go_at_call 52; (with_reducible refine (HO.out _ (Below.refl _ _)).mono ?_); rintro e w8 ⟨A8, c8, rfl, ho8, hb8⟩)
                  | (go_at_call 51; (with_reducible refine (jspoil_any (HJ.out _ (below_then hb8 (below_alloc (Below.refl _ _) _))) (by simp only; omega)).mono ?_); rintro e w9 ⟨rfl, hj9, hM9⟩))
                go_ret2
                rw [HR.out]
                have hb9 := below_then hb8 (below_alloc (Below.refl w8.heap.size w8) (.cells #[.int .i64 P1, .int .i64 P2, .int .i64 P3, .bool P4, .bool P5, .slice A8 P6.length c8] 84))
                have hob8 : ∀ b, (if st.begun then none else ob5) = some b → ob5 = some b := fun b he => by split at he; cases he; exact he
                refine ⟨none, 0, A2, c2, _, rfl, Nat.le_refl _, hc2, hj9, RdG.nil_, ?_, (hM7.then_ (Mod.of_fresh hb9)).trans hM9 (fun b hb _ => .inl hb), fun b he => hobk5 b (hob8 b he)⟩
                exact RdG.keep HoR.good ((hho8.below HoR.good hb9).weak HoR.good (fun b hb _ => ⟨hb.1, fun he => hb.2 (hob8 b he)⟩)) hM9 (fun b hb _ => by first | omega | (simp only at hb; omega))
end Go.Proofs.Ytdnkdjaokmibjaa
