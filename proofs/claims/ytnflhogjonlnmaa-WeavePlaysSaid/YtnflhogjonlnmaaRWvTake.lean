/- The reference's Weaver: Take. -/
import Derived.Test.YtnflhogjonlnmaaRWvFree
import Derived.Test.YtnflhogjonlnmaaWvTake
set_option linter.unusedSimpArgs false
set_option linter.unusedVariables false
namespace Go.Proofs.Ytnflhogjonlnmaa
open Go.RowKit

def RTakePost (w : World) (F D : Nat → Prop) (g : Nat) (s : Wv) (e : Ending) (w' : World) : Prop :=
  ∃ (F' : Nat → Prop) (A : Option Addr) (c : Nat), e = .returned (.tuple #[(s.take.1.getD pz).val A c, .bool s.take.1.isSome]) ∧ RWvR w' F' D g s.take.2 ∧ (∀ b, F b → F' b) ∧ (∀ b, F' b → F b ∨ w.heap.size ≤ b) ∧ Mod F w w' ∧
    RdS w' D .u8 A (s.take.1.getD pz).data ∧ (s.take.1.getD pz).data.length ≤ c ∧ (s.take.1.getD pz).wf
theorem rwtake_no {w w' : World} {F D : Nat → Prop} {g : Nat} {s : Wv} {e : Ending} (ht : s.take = (none, s)) (he : e = .returned (.tuple #[pz.val none 0, .bool false])) (h : RWvR w F D g s) (hb : Below w.heap.size w w') : RTakePost w F D g s e w' :=
  ⟨F, none, 0, by rw [ht]; exact he, by rw [ht]; exact h.below hb, fun _ h => h, fun _ h => .inl h, Mod.of_fresh hb, by rw [ht]; exact ⟨rfl, fun h => by cases h⟩, by rw [ht]; exact Nat.le_refl _, by rw [ht]; exact pz_wf⟩

theorem step_append_rd {P : Program} (w : World) {ops : Array Oper} {o : Oper} {a : Act} {K : Act → World → Prop} {E : Prop} {Q : Exit → Act → World → Prop} (hgd : o.guard = none) (s x : Operand) (t : TypeId)
    (ho : o.op = .call { callee := .builtin .append, args := #[s, x], argTypes := #[t, t] })
    (base : Nat) (e : TypeId) (z : Value) (size bytes : Nat) (ht : P.underlying t = some (.slice e)) (hi : (P.info? e).map (fun i => (i.zero, i.size, i.bytes)) = some (some z, size, bytes)) (hzs : z.cells.size = size) (hsz : 0 < size)
    (v : Value) (n : Nat) (xs : List Value) (hs : a.eval s = v) (hown : w.ownsRow base e size v n xs)
    (B : Nat) (A : Option Addr) (m c : Nat) (news : List Value) (hx : a.eval x = .slice A m c) (hr : Rd w B size A m news) (h1 : ∀ u ∈ news, u.oneCell' = true)
    (h63 : n + m ≤ 1000000) (hbytes : bytes ≤ 1024) (hbase : base ≤ w.heap.size)
    (h : ∀ v' w', w'.ownsRow base e size v' (n + m) (xs ++ news) → w.grownBy w' v.ownBlock → (v'.ownBlock = v.ownBlock ∨ v'.ownBlock = some w.heap.size) → K (a.put o.dst v') w') : if Region.wanted o (yielded ops a.tmps) = true then Oper.wp P o a w K Q else E := by
  obtain ⟨i0, hi0, hz0, hz1, hz2⟩ := infoG hi
  have hw : Region.wanted o (yielded ops a.tmps) = true := by simp [Region.wanted, hgd]
  rw [if_pos hw]
  refine wp_append_rd w s x t ho base e i0 z size bytes ht hi0 hz0 hz1 hz2 hzs hsz v n xs hs hown B A m c news hx hr h1 (by simp only [maxLen]; omega) ?_ hbase h
  calc (n + m) * bytes ≤ 1000000 * 1024 := Nat.mul_le_mul h63 hbytes
    _ ≤ 140737488355328 := by omega

set_option maxHeartbeats 8000000 in
set_option maxRecDepth 100000 in
theorem rwtake_any {w : World} {F D : Nat → Prop} {g : Nat} {s : Wv} (h : RWvR w F D g s) (hl0 : 0 ≤ s.late) (hl1 : s.late ≤ 4611686018427387904) :
    Calls Try.prog 38 #[.pointer (some ⟨g, 0, none⟩)] w (RTakePost w F D g s) := by
  have HNo := Lib.hid (fun (w' : World) (e : Ending) ht he hb => rwtake_no (w' := w') (e := e) ht he h hb)
  have HFr := Lib.hid (fun W (hW : Below w.heap.size w W) n hn hne => rfree_any (h.below hW) (n := n) hn hne)
  have HH := Lib.hid h
  obtain ⟨gq, vs, hb, hq, hok⟩ := h
  have n1 := hok.n1
  have HK := Lib.hid (fun W (hW : Below w.heap.size w W) => hb.below hW hb.lt)
  have HQ := Lib.hid (fun W (hW : Below w.heap.size w W) => hq.below hW)
  have HEa := Lib.hid (fun W (hW : Below w.heap.size w W) => rfirst_any (c := s.qs.length) ((hq.below hW).rd) (by omega))
  have HOk := Lib.hid hok
  have HTo := Lib.hid (take_ok_ hok)
  clear hb hq hok
  have b0 := below_alloc (Below.refl w.heap.size w) (.cells #[.int .i64 0, .int .i64 0, .int .i64 0, .bool false, .bool false, .slice none 0 0] 40)
  have k00 := Blk.new w 40 #[.int .i64 0, .int .i64 0, .int .i64 0, .bool false, .bool false, .slice none 0 0]
  by_cases hf : firstQ (s.qs.map Qu.wait) < 0
  · have HT := Lib.hid (take_none hf)
    generalize firstQ (s.qs.map Qu.wait) = f at *
    have c0 := (HK.out _ b0).cell 0
    go_enter Try.func38, Try.ntmps38
    go_upto_region 2 with (first
      | (go_at_call 62; (with_reducible refine (HEa.out _ b0).mono ?_); rintro e w1 ⟨rfl, n1', hn1'⟩; have hb1 := below_drewN b0 n1'; rw [← hn1'] at hb1; have k0 := k00.drewN n1'; rw [← hn1'] at k0; clear hn1'))
    have f0 := k0.frozen 0
    have f1 := k0.frozen 1
    have f2 := k0.frozen 2
    have f3 := k0.frozen 3
    have f4 := k0.frozen 4
    have f5 := k0.frozen 5
    have y0 := k0.cell 0
    have y1 := k0.cell 1
    have y2 := k0.cell 2
    have y3 := k0.cell 3
    have y4 := k0.cell 4
    have y5 := k0.cell 5
    go_wp2
    have hle := Nat.le_refl w.heap.size
    exact bodyPost_ret (v := .tuple #[pz.val none 0, .bool false]) (by simp [results, Try.results38, go_sem, y0, y1, y2, y3, y4, y5, pz, Pk.val]) rfl (HNo.out _ _ HT.out rfl (below_put (below_put (below_put (below_put (below_put (below_put hb1 hle) hle) hle) hle) hle) hle))
  · obtain ⟨i, hi⟩ := Int.eq_ofNat_of_zero_le (show 0 ≤ firstQ (s.qs.map Qu.wait) by omega)
    obtain ⟨hil, p, l, hw⟩ := firstQ_at hi
    obtain ⟨gb, c00, Ad, cd, hv0, hFg, w0, w1', w2', w3', w4', w5', hRd, hcd, hwf⟩ := (HQ.out w (Below.refl _ _)).head hil hw
    have hgbl := HH.out.Flt gb hFg
    have hqo := HOk.out.qAt hil
    have hpt := hqo.at_ p (by rw [hw]; exact List.mem_cons_self ..)
    have hwl := hqo.len
    rw [hw, List.length_cons] at hwl
    have HTw := Lib.hid (take_wait hi hil hw)
    have HTs := Lib.hid (take_some hi hil hw)
    have HFi := Lib.hid (fun W (hW : Below w.heap.size w W) => HFr.out W hW i hil (by rw [hw]; simp))
    rw [hw, show headAt (p :: l) = p.at_ from rfl] at HFi
    rw [hi] at HEa
    clear hqo hf hi HFr
    generalize goB s.qs s.most p.at_ i = go at *
    have HWt := Lib.hid hw
    have c0 := (HK.out _ b0).cell 0
    go_enter Try.func38, Try.ntmps38
    go_upto_region 2 with (first
      | (go_at_call 62; (with_reducible refine (HEa.out _ b0).mono ?_); rintro e w1 ⟨rfl, n1', hn1'⟩; have bb1 := below_drewN b0 n1'; rw [← hn1'] at bb1; have k0 := k00.drewN n1'; rw [← hn1'] at k0; clear hn1'))
    clear c0
    cases go with
    | false =>
      have hT := HTw.out rfl
      have HT := Lib.hid hT
      clear hT HTw HTs
      go_upto_region 3 with (first
        | (go_at_call 63; (with_reducible refine (HFi.out _ bb1).mono ?_); rintro e w2 ⟨rfl, hb2⟩))
      have k2 := k0.below hb2 k0.lt
      have f0 := k2.frozen 0
      have f1 := k2.frozen 1
      have f2 := k2.frozen 2
      have f3 := k2.frozen 3
      have f4 := k2.frozen 4
      have f5 := k2.frozen 5
      have y0 := k2.cell 0
      have y1 := k2.cell 1
      have y2 := k2.cell 2
      have y3 := k2.cell 3
      have y4 := k2.cell 4
      have y5 := k2.cell 5
      go_wp2
      have hle := Nat.le_refl w.heap.size
      have bb2 := below_then bb1 hb2
      exact bodyPost_ret (v := .tuple #[pz.val none 0, .bool false]) (by simp [results, Try.results38, go_sem, y0, y1, y2, y3, y4, y5, pz, Pk.val]) rfl (HNo.out _ _ HT.out rfl (below_put (below_put (below_put (below_put (below_put (below_put bb2 hle) hle) hle) hle) hle) hle))
    | true =>
      have hT := HTs.out rfl
      have HT := Lib.hid hT
      clear hT HTw HTs HEa HNo
      go_upto_region 4 with (first
        | (go_at_call 63; (with_reducible refine (HFi.out _ bb1).mono ?_); rintro e w2 ⟨rfl, hb2⟩))
      have bb2 := below_then bb1 hb2
      have k02 := k0.below hb2 k0.lt
      have c0 := (HK.out _ bb2).cell 0
      have hq2 := HQ.out _ bb2
      obtain ⟨Aq, cq, hvq, hcq, hrq, e0, _⟩ := hq2.q_at hil
      rw [hw] at hvq hcq hrq e0
      rw [hv0] at hvq
      injection hvq with hvq1 hvq2 hvq3
      clear hvq2 hvq3
      subst hvq1
      rw [List.length_cons] at e0
      have x0 := (bb2.cell (p := ⟨gb, 0, none⟩) hgbl).trans w0
      have x1 := (bb2.cell (p := ⟨gb, 1, none⟩) hgbl).trans w1'
      have x2 := (bb2.cell (p := ⟨gb, 2, none⟩) hgbl).trans w2'
      have x3 := (bb2.cell (p := ⟨gb, 3, none⟩) hgbl).trans w3'
      have x4 := (bb2.cell (p := ⟨gb, 4, none⟩) hgbl).trans w4'
      have x5 := (bb2.cell (p := ⟨gb, 5, none⟩) hgbl).trans w5'
      clear w0 w1' w2' w3' w4' w5' hv0 hrq hq2 k0 k00
      go_upto_region 5 with fail
      have kp := Blk.new w2 40 #[.int .i64 p.st, .int .i64 p.at_, .int .i64 p.ln, .bool p.key, .bool p.hid, .slice Ad p.data.length cd]
      have b3' := below_alloc (Below.refl w2.heap.size w2) (.cells #[.int .i64 p.st, .int .i64 p.at_, .int .i64 p.ln, .bool p.key, .bool p.hid, .slice Ad p.data.length cd] 40)
      generalize w2.alloc (.cells #[.int .i64 p.st, .int .i64 p.at_, .int .i64 p.ln, .bool p.key, .bool p.hid, .slice Ad p.data.length cd] 40) = w3 at *
      have bb3 := below_then bb2 b3'
      have k03 := k02.below b3' k02.lt
      have hrl := k03.lt
      have hkp := kp.lt
      have hs2 := bb2.size
      clear x0 x1 x2 x3 x4 x5 e0 c0 k02
      have kg3 := HK.out _ bb3
      have c0 := kg3.cell 0
      have hq3 := HQ.out _ bb3
      obtain ⟨Aq3, cq3, hvq3, hcq3, _, e0, _, _, z0, _, _⟩ := hq3.q_at hil
      obtain ⟨cells, ho, hcs⟩ := hq3.own i hil
      rw [hw] at hvq3 hcq3 e0 ho hcs
      rw [hvq3] at ho hcs
      have hrd := Rd.of_own ho
      have h1c := hcs.oneCell PkR.good
      obtain ⟨aq, hAq, _, _⟩ := hrd.addr (by simp)
      subst hAq
      obtain ⟨a', hrun, hrd'⟩ := hrd.slice_some (lo := 1) (c := cq3) Try.underlying49 info_pk (by simp) hcq3
      rw [List.length_cons] at hrun hrd' e0
      simp only [Nat.add_sub_cancel, show ((1 : Nat) : Int) = 1 from rfl, Nat.one_mul] at hrun hrd'
      have hcl := hcs.tail
      have h1d : ∀ u ∈ cells.drop 6, u.oneCell' = true := fun u hu => h1c u (List.mem_of_mem_drop hu)
      have HTl := Lib.hid hcl
      have HVq := Lib.hid hvq3
      have HQ3 := Lib.hid hq3
      have hDl := HH.out.Dlt
      have hgql := hq3.Flt _ hq3.gF.1
      have hgl := kg3.lt
      have hs3 := bb3.size
      clear hrd hcs ho hcl h1c hvq3 hq3
      refine wp_region_last (S := (fun w' => w'.cell? ⟨g, 0, none⟩ = some (.slice (some ⟨gq, 0, none⟩) s.qs.length s.qs.length) ∧ w'.cell? ⟨gq, i * 3, none⟩ = some (.slice (some aq) (l.length + 1) cq3))) 18 _ (by simp only [List.pop_toArray, List.dropLast_cons_cons, List.dropLast_singleton]; rfl) (by kernel_rfl) (by kernel_rfl) (by kernel_rfl) (by kernel_rfl) (by kernel_rfl) ?_ (fun hHeld => ?_)
      focus exact ⟨c0, e0⟩
      refine wpAnyH_take (i := 0) (v := ?_) rfl (by kernel_rfl) (by kernel_rfl) (by kernel_rfl) (fun _ _ _ h => h) (Or.inl ⟨by kernel_rfl, ?_⟩) (by assumption) ?_
      rotate_left
      focus
        intro w9 hSw
        (try dsimp only at hSw)
        go_simp
        (try with_reducible rfl)
      (try simp only [Act.put, List.getElem_toArray, List.getElem_cons_succ, List.getElem_cons_zero, List.setIfInBounds_toArray, List.set_cons_zero, List.set_cons_succ])
      refine wpAnyH_take (i := 1) (v := ?_) rfl (by kernel_rfl) (by kernel_rfl) (by kernel_rfl) (fun _ _ _ h => h) (Or.inl ⟨by kernel_rfl, ?_⟩) (by assumption) ?_
      rotate_left
      focus
        intro w9 hSw
        (try dsimp only at hSw)
        go_simp
        (try with_reducible rfl)
      (try simp only [Act.put, List.getElem_toArray, List.getElem_cons_succ, List.getElem_cons_zero, List.setIfInBounds_toArray, List.set_cons_zero, List.set_cons_succ])
      refine wpAnyH_take (i := 2) (v := ?_) rfl (by kernel_rfl) (by kernel_rfl) (by kernel_rfl) (fun _ _ _ h => h) (Or.inl ⟨by kernel_rfl, ?_⟩) (by assumption) ?_
      rotate_left
      focus
        intro w9 hSw
        (try dsimp only at hSw)
        go_simp
        (try with_reducible rfl)
      (try simp only [Act.put, List.getElem_toArray, List.getElem_cons_succ, List.getElem_cons_zero, List.setIfInBounds_toArray, List.set_cons_zero, List.set_cons_succ])
      refine wpAnyH_take (i := 3) (v := ?_) rfl (by kernel_rfl) (by kernel_rfl) (by kernel_rfl) (fun _ _ _ h => h) (Or.inl ⟨by kernel_rfl, ?_⟩) (by assumption) ?_
      rotate_left
      focus
        intro w9 hSw
        (try dsimp only at hSw)
        go_simp
        (try with_reducible rfl)
      (try simp only [Act.put, List.getElem_toArray, List.getElem_cons_succ, List.getElem_cons_zero, List.setIfInBounds_toArray, List.set_cons_zero, List.set_cons_succ])
      refine wpAnyH_take (i := 4) (v := ?_) rfl (by kernel_rfl) (by kernel_rfl) (by kernel_rfl) (fun _ _ _ h => h) (Or.inl ⟨by kernel_rfl, ?_⟩) (by assumption) ?_
      rotate_left
      focus
        intro w9 hSw
        (try dsimp only at hSw)
        go_simp
        (try with_reducible rfl)
      (try simp only [Act.put, List.getElem_toArray, List.getElem_cons_succ, List.getElem_cons_zero, List.setIfInBounds_toArray, List.set_cons_zero, List.set_cons_succ])
      refine wpAnyH_take (i := 6) (v := ?_) rfl (by kernel_rfl) (by kernel_rfl) (by kernel_rfl) (fun _ _ _ h => h) (Or.inl ⟨by kernel_rfl, ?_⟩) (by assumption) ?_
      rotate_left
      focus
        intro w9 hSw
        (try dsimp only at hSw)
        go_simp
        (try with_reducible rfl)
      (try simp only [Act.put, List.getElem_toArray, List.getElem_cons_succ, List.getElem_cons_zero, List.setIfInBounds_toArray, List.set_cons_zero, List.set_cons_succ])
      refine wpAnyH_take (i := 7) (v := ?_) rfl (by kernel_rfl) (by kernel_rfl) (by kernel_rfl) (fun _ _ _ h => h) (Or.inl ⟨by kernel_rfl, ?_⟩) (by assumption) ?_
      rotate_left
      focus
        intro w9 hSw
        (try dsimp only at hSw)
        go_simp
        (try with_reducible rfl)
      (try simp only [Act.put, List.getElem_toArray, List.getElem_cons_succ, List.getElem_cons_zero, List.setIfInBounds_toArray, List.set_cons_zero, List.set_cons_succ])
      refine wpAnyH_take (i := 8) (v := ?_) rfl (by kernel_rfl) (by kernel_rfl) (by kernel_rfl) (fun _ _ _ h => h) (Or.inl ⟨by kernel_rfl, ?_⟩) (by assumption) ?_
      rotate_left
      focus
        intro w9 hSw
        (try dsimp only at hSw)
        go_simp
        (try with_reducible rfl)
      (try simp only [Act.put, List.getElem_toArray, List.getElem_cons_succ, List.getElem_cons_zero, List.setIfInBounds_toArray, List.set_cons_zero, List.set_cons_succ])
      refine wpAnyH_take (i := 9) (v := ?_) rfl (by kernel_rfl) (by kernel_rfl) (by kernel_rfl) (fun _ _ _ h => h) (Or.inl ⟨by kernel_rfl, ?_⟩) (by assumption) ?_
      rotate_left
      focus
        intro w9 hSw
        (try dsimp only at hSw)
        go_simp
        (try with_reducible rfl)
      (try simp only [Act.put, List.getElem_toArray, List.getElem_cons_succ, List.getElem_cons_zero, List.setIfInBounds_toArray, List.set_cons_zero, List.set_cons_succ])
      refine wpAnyH_take (i := 10) (v := ?_) rfl (by kernel_rfl) (by kernel_rfl) (by kernel_rfl) (fun _ _ _ h => h) (Or.inl ⟨by kernel_rfl, ?_⟩) (by assumption) ?_
      rotate_left
      focus
        intro w9 hSw
        (try dsimp only at hSw)
        go_simp
        (try with_reducible rfl)
      (try simp only [Act.put, List.getElem_toArray, List.getElem_cons_succ, List.getElem_cons_zero, List.setIfInBounds_toArray, List.set_cons_zero, List.set_cons_succ])
      refine wpAnyH_take (i := 11) (v := ?_) rfl (by kernel_rfl) (by kernel_rfl) (by kernel_rfl) (fun _ _ _ h => h) (Or.inl ⟨by kernel_rfl, ?_⟩) (by assumption) ?_
      rotate_left
      focus
        intro w9 hSw
        (try dsimp only at hSw)
        go_simp
        (try with_reducible rfl)
      (try simp only [Act.put, List.getElem_toArray, List.getElem_cons_succ, List.getElem_cons_zero, List.setIfInBounds_toArray, List.set_cons_zero, List.set_cons_succ])
      refine wpAnyH_take (i := 12) (v := ?_) rfl (by kernel_rfl) (by kernel_rfl) (by kernel_rfl) (fun _ _ _ h => h) (Or.inl ⟨by kernel_rfl, ?_⟩) (by assumption) ?_
      rotate_left
      focus
        intro w9 hSw
        (try dsimp only at hSw)
        go_simp
        (try with_reducible rfl)
      (try simp only [Act.put, List.getElem_toArray, List.getElem_cons_succ, List.getElem_cons_zero, List.setIfInBounds_toArray, List.set_cons_zero, List.set_cons_succ])
      refine wpAnyH_take (i := 13) (v := ?_) rfl (by kernel_rfl) (by kernel_rfl) (by kernel_rfl) (fun _ _ _ h => h) (Or.inl ⟨by kernel_rfl, ?_⟩) (by assumption) ?_
      rotate_left
      focus
        intro w9 hSw
        (try dsimp only at hSw)
        go_simp
        (try with_reducible rfl)
      (try simp only [Act.put, List.getElem_toArray, List.getElem_cons_succ, List.getElem_cons_zero, List.setIfInBounds_toArray, List.set_cons_zero, List.set_cons_succ])
      refine wpAnyH_take (i := 14) (v := ?_) rfl (by kernel_rfl) (by kernel_rfl) (by kernel_rfl) (fun _ _ _ h => h) (Or.inl ⟨by kernel_rfl, ?_⟩) (by assumption) ?_
      rotate_left
      focus
        intro w9 hSw'
        (try dsimp only at hSw')
        have zr := (fun w9 _ => hrun w9) w9 hSw'
        clear hSw'
        go_simp
        (try with_reducible rfl)
      (try simp only [Act.put, List.getElem_toArray, List.getElem_cons_succ, List.getElem_cons_zero, List.setIfInBounds_toArray, List.set_cons_zero, List.set_cons_succ])
      refine wpAnyH_ready (rs := [5]) (by kernel_rfl) (by simp) (AllReadyH.cons rfl (fun K hK => ?_) AllReadyH.nil)
      go_simp
      have bl4 : Below w3.heap.size w3 (w3.drew.alloc (.cells #[] 40)) := below_alloc (Below.refl _ _).drew _
      have c04 := (bl4.cell (p := ⟨g, 0, none⟩) hgl).trans c0
      have e04 := (bl4.cell (p := ⟨gq, i * 3, none⟩) hgql).trans e0
      refine hK.out _ _ ?_ (fun hHeld => ?_)
      focus exact ⟨c04, e04⟩
      clear hK K
      (try simp only [Act.put, List.getElem_toArray, List.getElem_cons_succ, List.getElem_cons_zero, List.setIfInBounds_toArray, List.set_cons_zero, List.set_cons_succ])
      refine wpAnyH_ready (rs := [15]) (by kernel_rfl) (by simp) (AllReadyH.cons rfl (fun K hK => ?_) AllReadyH.nil)
      refine step_append_rd _ (by rfl) (.tmp 35) (.tmp 44) _ (by rfl) w3.heap.size 40 (.agg #[.int .i64 0, .int .i64 0, .int .i64 0, .bool false, .bool false, .slice none 0 0]) 6 56 Try.underlying49 info_pk (by rfl) (by omega) (.slice (some ⟨w3.heap.size, 0, none⟩) 0 0) 0 [] (by rfl) (by exact World.ownsRow_made w3 #[] 0 (Nat.le_refl _) (by simp [maxLen]) (by simp)) w3.heap.size (some a') l.length _ (cells.drop 6) (by rfl) (by exact hrd'.alloc (Nat.le_refl _) _) h1d (by omega) (by omega) (by exact bl4.size) ?_
      intro v5 w5 ho5 hg5 hv5
      rw [Nat.zero_add, List.nil_append] at ho5
      have hb5 : Below w3.heap.size w3 w5 := below_only bl4 hg5 bl4.size (Nat.le_refl _)
      have hO5 : OwnG PkR 6 40 w5 w3.heap.size D v5 l := ⟨cells.drop 6, ho5, Cells.keep PkR.good (Cells.weak PkR.good HTl.out (S' := fun b => D b ∧ v5.ownBlock ≠ some b) (fun b hb hl => ⟨hb.1, fun e => by have := (World.ownsRow.lt ho5 b e).1; omega⟩)) (M := fun _ => False) (Mod.of_fresh hb5) (fun _ _ _ h => h)⟩
      have HO5 := Lib.hid hO5
      obtain ⟨A5, c5, rfl, _, _, hob5⟩ := hO5.form PkR.good
      have e5 := (hb5.cell (p := ⟨gq, i * 3, none⟩) hgql).trans e0
      have c05 := (hb5.cell (p := ⟨g, 0, none⟩) hgl).trans c0
      have z5 : w5.frozen? ⟨gq, i * 3, none⟩ = false := (World.frozen?_of_block (hb5.block gq hgql)).trans z0
      refine hK.out _ _ ?_ (fun hHeld => ?_)
      focus exact ⟨c05, e5⟩
      clear hK K
      (try simp only [Act.put, List.getElem_toArray, List.getElem_cons_succ, List.getElem_cons_zero, List.setIfInBounds_toArray, List.set_cons_zero, List.set_cons_succ])
      refine wpAnyH_take (i := 16) (v := ?_) rfl (by kernel_rfl) (by kernel_rfl) (by kernel_rfl) (fun _ _ _ h => h) (Or.inl ⟨by kernel_rfl, ?_⟩) (by assumption) ?_
      rotate_left
      focus
        intro w9 hSw
        (try dsimp only at hSw)
        go_simp
        (try with_reducible rfl)
      (try simp only [Act.put, List.getElem_toArray, List.getElem_cons_succ, List.getElem_cons_zero, List.setIfInBounds_toArray, List.set_cons_zero, List.set_cons_succ])
      refine wpAnyH_take (i := 17) (v := ?_) rfl (by kernel_rfl) (by kernel_rfl) (by kernel_rfl) (fun _ _ _ h => h) (Or.inl ⟨by kernel_rfl, ?_⟩) (by assumption) ?_
      rotate_left
      focus
        intro w9 hSw
        (try dsimp only at hSw)
        go_simp
        (try with_reducible rfl)
      (try simp only [Act.put, List.getElem_toArray, List.getElem_cons_succ, List.getElem_cons_zero, List.setIfInBounds_toArray, List.set_cons_zero, List.set_cons_succ])
      refine wpAnyH_done (by kernel_rfl) (lastQ_step rfl (fun K hK => ?_)) _
      go_simp
      refine hK _ _ ?_
      clear hK K hO5
      have hq6 := HQ3.out.put0 hil (w1 := w5) (D' := D) (v := .slice A5 l.length c5) (l := l) (Mod.of_fresh hb5) (HO5.out.base_ (Nat.zero_le _)) (fun b hb => .inr (hob5 b hb).1) (fun _ h => h) (fun b hb => .inl hb)
      have hF3 := HQ3.out.gF
      have hFw := HH.out.Flt
      have hgqw := hFw _ hF3.1
      have hgw := hFw _ hF3.2.1
      have hb5s := hb5.size
      have bb5 := below_then bb3 hb5
      have kg6 := (kg3.below hb5 (by omega)).far (p := ⟨gq, i * 3, none⟩) (fun e => hF3.2.2 e.symm) (.slice A5 l.length c5)
      have kp6 := (kp.below hb5 hkp).far (p := ⟨gq, i * 3, none⟩) (fun e => by have e' : w2.heap.size = gq := e; omega) (.slice A5 l.length c5)
      have k06 := (k03.below hb5 hrl).far (p := ⟨gq, i * 3, none⟩) (fun e => by have e' : w.heap.size = gq := e; omega) (.slice A5 l.length c5)
      have hm6 : Mod F w (w5.setCell ⟨gq, i * 3, none⟩ (.slice A5 l.length c5)) := mod_put (Mod.of_fresh bb5) (fun _ => hF3.1)
      have hF6 : ∀ b, (Value.slice A5 l.length c5).ownBlock = some b → w.heap.size < b := fun b hb => by have := (hob5 b hb).1; omega
      have HF6 := Lib.hid hF6
      clear hrun e0 z0 hF6 hob5 e5 c05 z5 e04 c04 c0 bl4 hg5 hv5 ho5
      generalize w5.setCell ⟨gq, i * 3, none⟩ (.slice A5 l.length c5) = w6 at *
      have HQ6 := Lib.hid hq6
      clear hq6
      have x1 := kp6.cell 1
      have c2 := kg6.cell 2
      obtain ⟨la', hla'⟩ : ∃ la' : Int, la' = if p.at_ < s.top then s.late + 1 else s.late := ⟨_, rfl⟩
      have HLa := Lib.hid hla'
      clear hla'
      go_upto_region 6 with fail
      go_quiet (fail)
      have kp7 := kp6.drewN nq
      have kg7 := kg6.drewN nq
      have k07 := k06.drewN nq
      have hm7 := hm6.drewN nq
      have hq7 := Lib.hid (HQ6.out.drewN nq)
      clear x1 c2 kp6 kg6 k06 hm6
      generalize w6.drewN nq = w7 at *
      have c3 := kg7.cell 3
      have f3 := kg7.frozen 3
      obtain ⟨w9, hw9⟩ : ∃ w9 : World, w9 = w7 := ⟨_, rfl⟩
      have HW9 := Lib.hid hw9
      clear hw9
      go_upto_if 54 with (fail)
      go_cut [5] (fun v wc => v = .pointer (some ⟨w2.heap.size, 0, none⟩) ∧ Blk wc g 116 #[.slice (some ⟨gq, 0, none⟩) s.qs.length s.qs.length, .int .i64 s.most, .int .i64 s.top, .int .i64 la'] ∧ Mod (· = g) w7 wc)
      case first =>
        by_cases hlt : p.at_ < s.top
        · have hla := HLa.out.trans (if_pos hlt)
          subst hla
          go_wp2
          go_meet
          exact ⟨rfl, kg7.set_ 3 _, mod_put (Mod.refl _ _) (fun _ => rfl)⟩
        · have hla := HLa.out.trans (if_neg hlt)
          subst hla
          have hlt' : decide (p.at_ < s.top) = false := decide_eq_false hlt
          go_wp2
          go_meet
          exact ⟨rfl, kg7, Mod.refl _ _⟩
      case rest =>
      obtain ⟨rfl, kg8, hm78⟩ := hcut
      have hgx : ¬ w2.heap.size = g := fun e => by omega
      have hgr : ¬ w.heap.size = g := fun e => by omega
      have kp8 := kp7.mod hm78 hgx
      have k08 := k07.mod hm78 hgr
      have hq8 := hq7.out.exMod hm78
      have hm8 := hm7.then_ (hm78.mono (fun b hb _ => (by subst hb; exact hF3.2.1)))
      clear c3 f3 kp7 kg7 k07
      obtain ⟨mx, hmx⟩ : ∃ mx : Int, mx = max s.top p.at_ := ⟨_, rfl⟩
      have HMx := Lib.hid hmx
      clear hmx
      have c2 := kg8.cell 2
      have f2 := kg8.frozen 2
      have x1 := kp8.cell 1
      go_upto_region 8 with fail
      refine wp_region_last (S := (fun w' => w'.cell? ⟨g, 2, none⟩ = some (.int .i64 s.top) ∧ w'.cell? ⟨w2.heap.size, 1, none⟩ = some (.int .i64 p.at_))) 10 _ (by simp only [List.pop_toArray, List.dropLast_cons_cons, List.dropLast_singleton]; rfl) (by kernel_rfl) (by kernel_rfl) (by kernel_rfl) (by kernel_rfl) (by kernel_rfl) ?_ (fun hHeld => ?_)
      focus exact ⟨c2, x1⟩
      refine wpAnyH_take (i := 0) (v := ?_) rfl (by kernel_rfl) (by kernel_rfl) (by kernel_rfl) (fun _ _ _ h => h) (Or.inl ⟨by kernel_rfl, ?_⟩) (by assumption) ?_
      rotate_left
      focus
        intro w9 hSw
        (try dsimp only at hSw)
        go_simp
        (try with_reducible rfl)
      (try simp only [Act.put, List.getElem_toArray, List.getElem_cons_succ, List.getElem_cons_zero, List.setIfInBounds_toArray, List.set_cons_zero, List.set_cons_succ])
      refine wpAnyH_take (i := 1) (v := ?_) rfl (by kernel_rfl) (by kernel_rfl) (by kernel_rfl) (fun _ _ _ h => h) (Or.inl ⟨by kernel_rfl, ?_⟩) (by assumption) ?_
      rotate_left
      focus
        intro w9 hSw
        (try dsimp only at hSw)
        go_simp
        (try with_reducible rfl)
      (try simp only [Act.put, List.getElem_toArray, List.getElem_cons_succ, List.getElem_cons_zero, List.setIfInBounds_toArray, List.set_cons_zero, List.set_cons_succ])
      refine wpAnyH_take (i := 2) (v := ?_) rfl (by kernel_rfl) (by kernel_rfl) (by kernel_rfl) (fun _ _ _ h => h) (Or.inl ⟨by kernel_rfl, ?_⟩) (by assumption) ?_
      rotate_left
      focus
        intro w9 hSw
        (try dsimp only at hSw)
        go_simp
        (try with_reducible rfl)
      (try simp only [Act.put, List.getElem_toArray, List.getElem_cons_succ, List.getElem_cons_zero, List.setIfInBounds_toArray, List.set_cons_zero, List.set_cons_succ])
      refine wpAnyH_take (i := 3) (v := ?_) rfl (by kernel_rfl) (by kernel_rfl) (by kernel_rfl) (fun _ _ _ h => h) (Or.inl ⟨by kernel_rfl, ?_⟩) (by assumption) ?_
      rotate_left
      focus
        intro w9 hSw
        (try dsimp only at hSw)
        go_simp
        (try with_reducible rfl)
      (try simp only [Act.put, List.getElem_toArray, List.getElem_cons_succ, List.getElem_cons_zero, List.setIfInBounds_toArray, List.set_cons_zero, List.set_cons_succ])
      refine wpAnyH_take (i := 4) (v := ?_) rfl (by kernel_rfl) (by kernel_rfl) (by kernel_rfl) (fun _ _ _ h => h) (Or.inl ⟨by kernel_rfl, ?_⟩) (by assumption) ?_
      rotate_left
      focus
        intro w9 hSw
        (try dsimp only at hSw)
        go_simp
        (try with_reducible rfl)
      (try simp only [Act.put, List.getElem_toArray, List.getElem_cons_succ, List.getElem_cons_zero, List.setIfInBounds_toArray, List.set_cons_zero, List.set_cons_succ])
      refine wpAnyH_take (i := 5) (v := ?_) rfl (by kernel_rfl) (by kernel_rfl) (by kernel_rfl) (fun _ _ _ h => h) (Or.inl ⟨by kernel_rfl, ?_⟩) (by assumption) ?_
      rotate_left
      focus
        intro w9 hSw
        (try dsimp only at hSw)
        go_simp
        (try with_reducible rfl)
      (try simp only [Act.put, List.getElem_toArray, List.getElem_cons_succ, List.getElem_cons_zero, List.setIfInBounds_toArray, List.set_cons_zero, List.set_cons_succ])
      refine wpAnyH_take (i := 6) (v := ?_) rfl (by kernel_rfl) (by kernel_rfl) (by kernel_rfl) (fun _ _ _ h => h) (Or.inl ⟨by kernel_rfl, ?_⟩) (by assumption) ?_
      rotate_left
      focus
        intro w9 hSw
        (try dsimp only at hSw)
        go_simp
        (try with_reducible rfl)
      (try simp only [Act.put, List.getElem_toArray, List.getElem_cons_succ, List.getElem_cons_zero, List.setIfInBounds_toArray, List.set_cons_zero, List.set_cons_succ])
      refine wpAnyH_take (i := 7) (v := ?_) rfl (by kernel_rfl) (by kernel_rfl) (by kernel_rfl) (fun _ _ _ h => h) (Or.inl ⟨by kernel_rfl, ?_⟩) (by assumption) ?_
      rotate_left
      focus
        intro w9 hSw
        (try dsimp only at hSw)
        go_simp
        (try with_reducible rfl)
      (try simp only [Act.put, List.getElem_toArray, List.getElem_cons_succ, List.getElem_cons_zero, List.setIfInBounds_toArray, List.set_cons_zero, List.set_cons_succ])
      refine wpAnyH_take (i := 8) (v := ?_) rfl (by kernel_rfl) (by kernel_rfl) (by kernel_rfl) (fun _ _ _ h => h) (Or.inl ⟨by kernel_rfl, ?_⟩) (by assumption) ?_
      rotate_left
      focus
        intro w9 hSw
        (try dsimp only at hSw)
        go_simp
        (try with_reducible rfl)
      (try simp only [Act.put, List.getElem_toArray, List.getElem_cons_succ, List.getElem_cons_zero, List.setIfInBounds_toArray, List.set_cons_zero, List.set_cons_succ])
      refine wpAnyH_take (i := 9) (v := ?_) rfl (by kernel_rfl) (by kernel_rfl) (by kernel_rfl) (fun _ _ _ h => h) (Or.inl ⟨by kernel_rfl, ?_⟩) (by assumption) ?_
      rotate_left
      focus
        intro w9 hSw
        (try dsimp only at hSw)
        go_simp
        (try with_reducible rfl)
      (try simp only [Act.put, List.getElem_toArray, List.getElem_cons_succ, List.getElem_cons_zero, List.setIfInBounds_toArray, List.set_cons_zero, List.set_cons_succ])
      refine wpAnyH_done (by kernel_rfl) (lastQ_step rfl (fun K hK => ?_)) _
      go_simp
      refine hK _ _ ?_
      clear hK K
      have hmx : (if s.top < p.at_ then p.at_ else s.top) = max s.top p.at_ := by split <;> omega
      rw [hmx]
      have hmA0 : Mod (· = g) wc (wc.setCell ⟨g, 2, none⟩ (.int .i64 (max s.top p.at_))) := mod_put (Mod.refl _ _) (fun _ => rfl)
      have hmA := hmA0.drew
      clear hmA0
      have kgA : Blk (wc.setCell ⟨g, 2, none⟩ (.int .i64 (max s.top p.at_))).drew g 116 #[.slice (some ⟨gq, 0, none⟩) s.qs.length s.qs.length, .int .i64 s.most, .int .i64 (max s.top p.at_), .int .i64 la'] := kg8.set_ 2 _
      clear hmx c2 f2 x1
      have kpA := kp8.mod hmA hgx
      have k0A := k08.mod hmA hgr
      have hqA := hq8.exMod hmA
      have hmB := hm8.then_ (hmA.mono (fun b hb _ => (by subst hb; exact hF3.2.1)))
      generalize (wc.setCell ⟨g, 2, none⟩ (.int .i64 (max s.top p.at_))).drew = wA at *
      have x0 := kpA.cell 0
      have x1 := kpA.cell 1
      have x2 := kpA.cell 2
      have x3 := kpA.cell 3
      have x4 := kpA.cell 4
      have x5 := kpA.cell 5
      have g0 := k0A.frozen 0
      have g1 := k0A.frozen 1
      have g2 := k0A.frozen 2
      have g3 := k0A.frozen 3
      have g4 := k0A.frozen 4
      have g5 := k0A.frozen 5
      have u0 := k0A.cell 0
      have u1 := k0A.cell 1
      have u2 := k0A.cell 2
      have u3 := k0A.cell 3
      have u4 := k0A.cell 4
      have u5 := k0A.cell 5
      go_wp2
      have hmZ : Mod (· = w.heap.size) wA ((((((wA.setCell ⟨w.heap.size, 0, none⟩ (.int .i64 p.st)).setCell ⟨w.heap.size, 1, none⟩ (.int .i64 p.at_)).setCell ⟨w.heap.size, 2, none⟩ (.int .i64 p.ln)).setCell ⟨w.heap.size, 3, none⟩ (.bool p.key)).setCell ⟨w.heap.size, 4, none⟩ (.bool p.hid)).setCell ⟨w.heap.size, 5, none⟩ (.slice Ad p.data.length cd)) :=
        mod_put (mod_put (mod_put (mod_put (mod_put (mod_put (Mod.refl _ _) (fun _ => rfl)) (fun _ => rfl)) (fun _ => rfl)) (fun _ => rfl)) (fun _ => rfl)) (fun _ => rfl)
      have hmF : Mod F w ((((((wA.setCell ⟨w.heap.size, 0, none⟩ (.int .i64 p.st)).setCell ⟨w.heap.size, 1, none⟩ (.int .i64 p.at_)).setCell ⟨w.heap.size, 2, none⟩ (.int .i64 p.ln)).setCell ⟨w.heap.size, 3, none⟩ (.bool p.key)).setCell ⟨w.heap.size, 4, none⟩ (.bool p.hid)).setCell ⟨w.heap.size, 5, none⟩ (.slice Ad p.data.length cd)) :=
        hmB.trans hmZ (fun b hb hl => by have h9 : b = w.heap.size := hb; omega)
      refine bodyPost_ret (v := .tuple #[p.val Ad cd, .bool true]) (by simp [results, Try.results38, go_sem, u0, u1, u2, u3, u4, u5, Pk.val]) rfl ⟨fun b => F b ∨ (Value.slice A5 l.length c5).ownBlock = some b, Ad, cd, ?_, ⟨gq, vs.set i (.slice A5 l.length c5), ?_, ?_, HTo.out⟩, fun b hb => .inl hb, fun b hb => ?_, hmF, ?_, ?_, ?_⟩
      · rw [HT.out]; rfl
      · rw [HT.out, ← HLa.out]; simpa [List.length_set] using kgA.mod hmZ (fun e => hgr e.symm)
      · rw [HT.out]
        exact hqA.keep hmZ (fun b hb h9 => by
          have h9' : b = w.heap.size := h9
          rcases hb with hb | hb
          · have := hFw b hb; omega
          · have := HF6.out b hb; omega) (fun b hb h9 => by have h9' : b = w.heap.size := h9; have := (hDl b hb).1; omega)
      · rcases hb with hb | hb
        · exact .inl hb
        · right; have := HF6.out b hb; omega
      · rw [HT.out]; exact hRd.keep hmF (fun b hb _ => (hDl b hb).2)
      · rw [HT.out]; exact hcd
      · rw [HT.out]; exact hwf
end Go.Proofs.Ytnflhogjonlnmaa
