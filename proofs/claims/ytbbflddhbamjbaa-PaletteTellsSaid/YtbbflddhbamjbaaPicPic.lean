/- Pushing a plane where a block of another was written in between; Tape.Pic. -/
import Derived.Test.YtbbflddhbamjbaaPicRow
set_option linter.unusedSimpArgs false
set_option linter.unusedVariables false
namespace Go.Proofs.Ytbbflddhbamjbaa
open Go.RowKit
section
variable {w w' : World} {base : Nat} {eS e : TypeId} {k : IntKind} {v : Value} {ls : List (List Int)}
theorem own_not {w : World} {base e n : Nat} {size : Nat} {v : Value} {xs : List Value} {g0 : Nat} (h : w.ownsRow base e size v n xs) (hg : g0 < base ∨ w.heap.size ≤ g0) : v.ownBlock = none ∨ v.ownBlock ≠ some g0 := by
  rcases hv : v.ownBlock with _ | x
  · exact .inl rfl
  · have := World.ownsRow.lt h x hv
    refine .inr fun h => ?_
    injection h with h
    omega
theorem OwnLL.kept {g0 : Nat} (h : OwnLL w base eS e k v ls) (hg : w.grownBy w' (some g0)) (h0 : g0 < base ∨ w.heap.size ≤ g0) : OwnLL w' base eS e k v ls := by
  obtain ⟨hs, ho, hp, hd⟩ := h
  refine ⟨hs, World.ownsRow.kept ho hg (own_not ho h0), fun j hj => ?_, hd⟩
  obtain ⟨A, c, h1, h2⟩ := hp j hj
  exact ⟨A, c, h1, h2.kept hg (own_not h2 h0)⟩
/-- append of one header: the new plane is the call's own, in a block of no other. -/
theorem run_push_llg {P : Program} (w : World) (t ty : TypeId) (base : Nat) (eS e : TypeId) (k : IntKind) (bytes : Nat) (ht : P.underlying t = some (.slice eS))
    (hi : (P.info? eS).map (fun i => (i.zero, i.size, i.bytes)) = some (some (.slice none 0 0), 1, bytes)) (hby : bytes ≤ 64) (hne : e ≠ eS)
    (v : Value) (ls : List (List Int)) (w0 : World) (h0 : OwnLL w0 base eS e k v ls) (g0 : Nat) (hbel : w0.grownBy w (some g0)) (hg0 : g0 < base ∨ w0.heap.size ≤ g0) (A : Option Addr) (c : Nat) (l : List Int) (hl : OwnI w base e k (.slice A l.length c) l)
    (hlo : ∀ ad, A = some ad → w0.heap.size ≤ ad.block)
    (hlen : ls.length ≤ 1000000) (hbase : base ≤ w.heap.size) (cc : Nat) :
    ∃ v' w', (Builtin.append_ #[t, t] ty #[v, .slice (some ⟨w.heap.size, 0, none⟩) 1 cc]).run P (w.alloc (.cells #[.slice A l.length c] eS)) = .ok v' w' ∧ OwnLL w' base eS e k v' (ls ++ [l]) ∧
      (w.alloc (.cells #[.slice A l.length c] eS)).grownBy w' v.ownBlock := by
  obtain ⟨hs, ho0, hp0, hd⟩ := h0
  have ho := World.ownsRow.kept ho0 hbel (own_not ho0 hg0)
  have hp : ∀ j, j < ls.length → ∃ A c, hs[j]? = some (.slice A (ls.getD j []).length c) ∧ OwnI w base e k (.slice A (ls.getD j []).length c) (ls.getD j []) := fun j hj => by
    obtain ⟨A, c, h1, h2⟩ := hp0 j hj
    exact ⟨A, c, h1, h2.kept hbel (own_not h2 hg0)⟩
  obtain ⟨i0, hi0, hz0, hz1, hz2⟩ := info_parts hi
  have hrd : Rd (w.alloc (.cells #[.slice A l.length c] eS)) (w.heap.size + 1) 1 (some ⟨w.heap.size, 0, none⟩) 1 [.slice A l.length c] := by
    refine ⟨rfl, fun _ => ⟨_, rfl, by simp, fun j u hu => ?_⟩⟩
    match j, hu with
    | 0, hu =>
      simp at hu
      subst hu
      rw [add_mk, cell_of_row _ w.heap.size (0 + 0) #[.slice A l.length c] eS (0, 0) (heap_alloc_new w _)]
      rfl
    | j + 1, hu => simp at hu
  obtain ⟨v', w', hrun, h2, h3, h4⟩ := run_append_rd (P := P) (w.alloc (.cells #[.slice A l.length c] eS)) base t ty eS i0 (.slice none 0 0) 1 bytes ht hi0 hz0 hz1 hz2 rfl (by omega) v ls.length hs (ho.alloc _) (w.heap.size + 1) _ 1 cc
    [.slice A l.length c] hrd (by simp [Value.oneCell']) (by simp only [maxLen]; omega) (by
      calc (ls.length + 1) * bytes ≤ 1000001 * 64 := Nat.mul_le_mul (by omega) hby
        _ ≤ 140737488355328 := by omega) (by simp; omega)
  have hkeep : ∀ (x : Value) (y : List Int), OwnI w base e k x y → OwnI w' base e k x y := fun x y hx => (hx.alloc _).kept h3 (own_types hx ho hne)
  refine ⟨v', w', hrun, ⟨hs ++ [.slice A l.length c], by rw [List.length_append]; exact h2, fun j hj => ?_, fun i j u u' hij hu hu' => ?_⟩, h3⟩
  · have hlh : hs.length = ls.length := by have := ho.1; omega
    rw [List.length_append, List.length_singleton] at hj
    by_cases hjl : j < ls.length
    · obtain ⟨A', c', h5, h6⟩ := hp j hjl
      have e1 : (ls ++ [l]).getD j [] = ls.getD j [] := by simp [List.getD, List.getElem?_append_left hjl]
      rw [e1]
      exact ⟨A', c', by rw [List.getElem?_append_left (by omega)]; exact h5, hkeep _ _ h6⟩
    · have hje : j = ls.length := by omega
      subst hje
      have e1 : (ls ++ [l]).getD ls.length [] = l := by simp [List.getD]
      rw [e1]
      exact ⟨A, c, by rw [← hlh]; simp, hkeep _ _ hl⟩
  · have hlh : hs.length = ls.length := by have := ho.1; omega
    by_cases hjl : j < hs.length
    · rw [List.getElem?_append_left hjl] at hu'
      rw [List.getElem?_append_left (by omega)] at hu
      exact hd i j u u' hij hu hu'
    · have hje : j = hs.length := by
        have := (List.getElem?_eq_some_iff.1 hu').1
        rw [List.length_append, List.length_singleton] at this
        omega
      subst hje
      rw [List.getElem?_append_left hij] at hu
      simp at hu'
      subst hu'
      obtain ⟨A', c', h5, h6⟩ := hp0 i (by omega)
      rw [h5] at hu
      injection hu with hu
      subst hu
      cases A' with
      | none => exact .inl rfl
      | some ad =>
        refine .inr fun hb => ?_
        have h7 := (World.ownsRow.lt h6 ad.block rfl).2
        cases A with
        | none => simp [Value.ownBlock] at hb
        | some ad2 =>
          have h8 := hlo ad2 rfl
          simp only [Value.ownBlock, Option.some.injEq] at hb
          omega
/-- The append of one header as a step of a region that draws, and as an operation behind others. What lies below 'base' is kept. -/
theorem step_push_llg {P : Program} {ops : Array Oper} {o : Oper} {a : Act} {K : Act → World → Prop} {E : Prop} {Q : Exit → Act → World → Prop} (hgd : o.guard = none) (s x : Operand) (t : TypeId)
    (ho : o.op = .call { callee := .builtin .append, args := #[s, x], argTypes := #[t, t] })
    (w : World) (base : Nat) (eS e : TypeId) (k : IntKind) (bytes : Nat) (ht : P.underlying t = some (.slice eS))
    (hi : (P.info? eS).map (fun i => (i.zero, i.size, i.bytes)) = some (some (.slice none 0 0), 1, bytes)) (hby : bytes ≤ 64) (hne : e ≠ eS)
    (v : Value) (hs : a.eval s = v) (ls : List (List Int)) (w0 : World) (h0 : OwnLL w0 base eS e k v ls) (g0 : Nat) (hbel : w0.grownBy w (some g0)) (hg0 : g0 < base ∨ w0.heap.size ≤ g0)
    (gs cc : Nat) (hx : a.eval x = .slice (some ⟨gs, 0, none⟩) 1 cc) (hgs : gs = w.heap.size)
    (A : Option Addr) (n c : Nat) (l : List Int) (hn : n = l.length) (hl : OwnI w base e k (.slice A l.length c) l)
    (hlo : ∀ ad, A = some ad → w0.heap.size ≤ ad.block) (hlen : ls.length ≤ 1000000) (hbase : base ≤ w.heap.size)
    (h : ∀ v' w', OwnLL w' base eS e k v' (ls ++ [l]) → Below base w w' → K (a.put o.dst v') w') : if Region.wanted o (yielded ops a.tmps) = true then Oper.wp P o a (w.alloc (.cells #[.slice A n c] eS)) K Q else E := by
  subst hgs hn
  obtain ⟨v', w', hrun, h2, h3⟩ := run_push_llg (P := P) w t o.type base eS e k bytes ht hi hby hne v ls w0 h0 g0 hbel hg0 A c l hl hlo hlen hbase cc
  have hw : Region.wanted o (yielded ops a.tmps) = true := by simp [Region.wanted, hgd]
  rw [if_pos hw]
  unfold Oper.wp execOp
  simp only [ho, resolve, invoke, builtin, Sem.run_bind, Sem.run_pure, Result.andThen_ok, List.map_toArray, List.map_cons, List.map_nil, hs, hx, hrun]
  exact h v' w' h2 (((Below.refl base w).alloc hbase _).grown h3 (by simp; omega) (fun g hg => by have := h0.own_ge g hg; omega))

theorem wpList_push_llg {P : Program} {ops : Array Oper} {rest : List Oper} {o : Oper} {a : Act} {Q : Exit → Act → World → Prop} (hgd : o.guard = none) (s x : Operand) (t : TypeId)
    (ho : o.op = .call { callee := .builtin .append, args := #[s, x], argTypes := #[t, t] })
    (w : World) (base : Nat) (eS e : TypeId) (k : IntKind) (bytes : Nat) (ht : P.underlying t = some (.slice eS))
    (hi : (P.info? eS).map (fun i => (i.zero, i.size, i.bytes)) = some (some (.slice none 0 0), 1, bytes)) (hby : bytes ≤ 64) (hne : e ≠ eS)
    (v : Value) (hs : a.eval s = v) (ls : List (List Int)) (w0 : World) (h0 : OwnLL w0 base eS e k v ls) (g0 : Nat) (hbel : w0.grownBy w (some g0)) (hg0 : g0 < base ∨ w0.heap.size ≤ g0)
    (gs cc : Nat) (hx : a.eval x = .slice (some ⟨gs, 0, none⟩) 1 cc) (hgs : gs = w.heap.size)
    (A : Option Addr) (n c : Nat) (l : List Int) (hn : n = l.length) (hl : OwnI w base e k (.slice A l.length c) l)
    (hlo : ∀ ad, A = some ad → w0.heap.size ≤ ad.block) (hlen : ls.length ≤ 1000000) (hbase : base ≤ w.heap.size)
    (h : ∀ v' w', OwnLL w' base eS e k v' (ls ++ [l]) → Below base w w' → wpList P ops Q rest (a.put o.dst v') w') : wpList P ops Q (o :: rest) a (w.alloc (.cells #[.slice A n c] eS)) := by
  subst hgs hn
  obtain ⟨v', w', hrun, h2, h3⟩ := run_push_llg (P := P) w t o.type base eS e k bytes ht hi hby hne v ls w0 h0 g0 hbel hg0 A c l hl hlo hlen hbase cc
  refine wpList_plain hgd fun _ hK => ?_
  unfold Oper.wp execOp
  simp only [ho, resolve, invoke, builtin, Sem.run_bind, Sem.run_pure, Result.andThen_ok, List.map_toArray, List.map_cons, List.map_nil, hs, hx, hrun]
  exact hK _ _ (h v' w' h2 (((Below.refl base w).alloc hbase _).grown h3 (by simp; omega) (fun g hg => by have := h0.own_ge g hg; omega)))
end

set_option maxHeartbeats 4000000 in
theorem tapepic_any {w : World} {B g : Nat} (h : TapeB w B g) (side : Int) (s0 : 1 ≤ side) (s1 : side ≤ 64) :
    Calls Try.prog 15 #[.pointer (some ⟨g, 0, none⟩), .int .i64 side] w fun e w' => ∃ (W H d : Nat) (p : List (List Int)) (A : Option Addr) (c : Nat), e = .returned (.agg #[.int .i64 (W : Int), .int .i64 (H : Int), .int .i64 (d : Int), .slice A p.length c]) ∧
      isB ⟨W, H, d, p⟩ = true ∧ (W : Int) ≤ side ∧ (H : Int) ≤ side ∧ OwnLL w' w.heap.size 22 3 .i64 (.slice A p.length c) p ∧ TapeB w' B g ∧ w.grownBy w' (some g) := by
  have HN := Lib.hid (fun W (hW : TapeB W B g) => next_any hW side (by omega) (by omega))
  have HN6 := Lib.hid (fun W (hW : TapeB W B g) => next_any hW 6 (by omega) (by omega))
  have HD := Lib.hid (fun W (hW : TapeB W B g) => tapedepth_any hW)
  have HA : Hid (∀ x ∈ ([3, 1, 3, 4, 2, 3] : List Int), 1 ≤ x ∧ x ≤ 4) := by rw [Hid]; decide
  have hgl := h.lt
  have hZ0 := Blk.new w 30 #[.int .i64 0, .int .i64 0, .int .i64 0, .slice none 0 0]
  have hT0 := h.alloc (.cells #[.int .i64 0, .int .i64 0, .int .i64 0, .slice none 0 0] 30)
  have hg0 := only_alloc (only_refl w (some g)) (.cells #[.int .i64 0, .int .i64 0, .int .i64 0, .slice none 0 0] 30)
  go_enter Try.func15, Try.ntmps15
  go_wp2_with (first
    | (go_at_call 11; (with_reducible refine (HN.out (w.alloc _) hT0).mono ?_); rintro e w1 ⟨r1, rfl, hr1, hT1, hg1⟩; have hZ1 := hZ0.grown hg1 (by simp; omega); have hgg1 := only_trans hg0 hg1; obtain ⟨W, hW⟩ : ∃ W : Nat, 1 + (r1 : Int) = (W : Int) := ⟨1 + r1, by simp⟩)
    | (go_at_call 11; (with_reducible refine (HN.out w1 hT1).mono ?_); rintro e w2 ⟨r2, rfl, hr2, hT2, hg2⟩; have hZ2 := hZ1.grown hg2 (by simp; omega); have hgg2 := only_trans hgg1 hg2; obtain ⟨H, hH⟩ : ∃ H : Nat, 1 + (r2 : Int) = (H : Int) := ⟨1 + r2, by simp⟩)
    | (go_at_call 38; (with_reducible refine (HD.out _ hT2).mono ?_); rintro e w3 ⟨d, rfl, hd1, hd2, hT3, hg3⟩; have hZ3 := hZ2.grown hg3 (by simp; omega); have hgg3 := only_trans hgg2 hg3; have hT4 := (hT3.alloc (.cells #[.int .i64 W, .int .i64 H, .int .i64 d, .slice none 0 0] 30)).alloc (.cells #[.int .i64 3, .int .i64 1, .int .i64 3, .int .i64 4, .int .i64 2, .int .i64 3] 3); clear hg1 hg2 hg3 hT0 hZ0 hg0 hgg1 hgg2 hZ1 hZ2)
    | (go_at_call 11; (with_reducible refine (HN6.out _ hT4).mono ?_); rintro e w5 ⟨r, rfl, hr, hT5, hg5⟩; have hlit := (Blk.new1 w3 (.cells #[.int .i64 W, .int .i64 H, .int .i64 d, .slice none 0 0] 30) 3 #[.int .i64 3, .int .i64 1, .int .i64 3, .int .i64 4, .int .i64 2, .int .i64 3]).grown hg5 (by have := hT3.lt; simp; omega); have hx := Blk.lit_at (k := .i64) (l := [3, 1, 3, 4, 2, 3]) (by exact hlit) (r := r) (by simp; omega); have hm := HA.out _ (getD_mem (l := [3, 1, 3, 4, 2, 3]) (r := r) (by simp; omega)); generalize ([3, 1, 3, 4, 2, 3] : List Int).getD r 0 = x at *))
  have hsz3 := hgg3.size
  have hlt3 := hT3.lt
  have hZ5 := ((hZ3.alloc (.cells #[.int .i64 W, .int .i64 H, .int .i64 d, .slice none 0 0] 30)).alloc (.cells #[.int .i64 3, .int .i64 1, .int .i64 3, .int .i64 4, .int .i64 2, .int .i64 3] 3)).grown hg5 (by simp; omega)
  have hC5 := ((Blk.new w3 30 #[.int .i64 W, .int .i64 H, .int .i64 d, .slice none 0 0]).alloc (.cells #[.int .i64 3, .int .i64 1, .int .i64 3, .int .i64 4, .int .i64 2, .int .i64 3] 3)).grown hg5 (by simp; omega)
  have hgg5 := only_trans (only_alloc (only_alloc hgg3 (.cells #[.int .i64 W, .int .i64 H, .int .i64 d, .slice none 0 0] 30)) (.cells #[.int .i64 3, .int .i64 1, .int .i64 3, .int .i64 4, .int .i64 2, .int .i64 3] 3)) hg5
  have hWb : 1 ≤ W ∧ W ≤ 64 ∧ (W : Int) ≤ side := by omega
  have hHb : 1 ≤ H ∧ H ≤ 64 ∧ (H : Int) ≤ side := by omega
  obtain ⟨xn, rfl⟩ := Int.eq_ofNat_of_zero_le (show 0 ≤ x by omega)
  obtain ⟨gp, hgp⟩ : ∃ gp, gp = w3.heap.size := ⟨_, rfl⟩
  rw [← hgp] at hC5 hsz3 hlt3
  rw [← hgp]
  have hz5 := hZ3.lt
  rw [← hgp] at hz5
  clear hgp hlit hx hZ3 hT3 hgg3 hg5 hT4 hT1 hT2 hW hH hr1 hr2 hr HA
  go_loopw [6] (fun i wr => ∃ (ls : List (List Int)) (v : Value) (rm : Nat), rm + ls.length = xn ∧ i = .int .i64 (rm : Int) ∧ (∀ l ∈ ls, l.length = W * H ∧ ∀ v ∈ l, okV d v = true) ∧ TapeB wr B g ∧ Blk wr w.heap.size 30 #[.int .i64 0, .int .i64 0, .int .i64 0, .slice none 0 0] ∧
      Blk wr gp 30 #[.int .i64 W, .int .i64 H, .int .i64 d, v] ∧ OwnLL wr (gp + 1) 22 3 .i64 v ls ∧ w.grownBy wr (some g)) (fun i _ => (intOf i).toNat)
  case atStart => exact ⟨[], _, xn, by simp, rfl, by simp, hT5, hZ5, hC5, OwnLL.nil_ _ _ _ _ _, hgg5⟩
  case round =>
    obtain ⟨ls, v, rm, hrm, rfl, hok, hTr, hZr, hCr, hll, hgr⟩ := hrel
    by_cases hlt : 0 < rm
    · have hok := Lib.hid hok
      have hsz : gp + 1 ≤ wr.heap.size := hCr.lt
      obtain ⟨k0, k1, k2, k3, f0, f1, f2, f3⟩ := hCr.four
      clear f0 f1 f2
      have hlt' : (0 : Int) < (rm : Int) := by omega
      go_wp2
      go_region_law (first
        | (go_simp; go_at_call 39; refine (plane_any (by exact hTr) W H d hWb.1 hWb.2.1 hHb.1 hHb.2.1 hd1 hd2).mono ?_; rintro e w1 ⟨A1, c1, l1, rfl, hl1, hok1, hown1, hT1, hg1'⟩; have hg1 := only_undrew hg1'; clear hg1'; replace hl1 := Lib.hid hl1; replace hok1 := Lib.hid hok1; have hC1 := hCr.grown hg1 (by simp; omega); have k3' := hC1.cell 3; have k3a := (hC1.alloc (.cells #[.slice A1 l1.length c1] 22)).cell 3; have hlo1 : ∀ ad, A1 = some ad → wr.heap.size ≤ ad.block := hown1.lo)
        | (refine step_push_llg (by rfl) (.tmp 28) (.tmp 37) _ (by rfl) w1 (gp + 1) 22 3 .i64 24 Try.underlying23 info_ints (by omega) (by decide) v (by rfl) _ _ hll g (by exact hg1) (.inl (by omega)) _ _ (by rfl) (by rfl) A1 _ _ l1 (by rfl) (hown1.base_ (by exact hsz)) (by exact hlo1) (by omega) (by have := hg1.size; exact Nat.le_trans hsz this) ?_; intro v2 w2 hL2 hb2'; have hb2x := hC1.below hb2' (by omega); obtain ⟨_, _, _, k3x, _, _, _, f3x⟩ := hb2x.four; obtain ⟨A2, c2, hv2, hq2⟩ := hL2.form; clear hq2; subst hv2))
      all_goals
        have hgg := only_then_below (only_trans hgr hg1) hb2' (by omega)
        have hT2 := hT1.below hb2' (by omega)
        have hZ2 := (hZr.grown hg1 (by simp; omega)).below hb2' (by omega)
        go_wp2
        go_roundw
        case rel =>
          refine ⟨ls ++ [l1], _, rm - 1, by simp; omega, by go_num, fun l hl => ?_, hT2.far (by simp; have := hTr.ge; omega) (by simp; omega) _, hZ2.far (by simp; omega) _, hb2x.set_ 3 _, ?_, only_setCell hgg (.inr (by simp; omega)) _⟩
          · rw [List.mem_append, List.mem_singleton] at hl
            rcases hl with hl | rfl
            · exact hok.out l hl
            · exact ⟨hl1.out, hok1.out⟩
          · have := hL2.far (a := ⟨gp, 3, none⟩) (by simp) (.slice A2 (ls.length + 1) c2)
            simpa using this
        case measure => simp [intOf]; omega
    · have h0 : rm = 0 := by omega
      subst h0
      obtain ⟨A', c', rfl, hc', _, _⟩ := hll.form
      obtain ⟨k0, k1, k2, k3, _⟩ := hCr.four
      obtain ⟨q0, q1, q2, q3, f0, f1, f2, f3⟩ := hZr.four
      go_wp2
      refine bodyPost_ret (v := .agg #[.int .i64 W, .int .i64 H, .int .i64 d, .slice A' ls.length c']) (by simp [results, Try.results15, go_sem, q0, q1, q2, q3]) rfl ⟨W, H, d, ls, A', c', rfl, ?_, hWb.2.2, hHb.2.2, ?_, ?_, ?_⟩
      · rw [isB, Bool.and_eq_true, List.all_eq_true]
        refine ⟨by simp only [possB, decide_eq_true_eq]; omega, fun l hl => ?_⟩
        rw [okPl, Bool.and_eq_true, decide_eq_true_eq, List.all_eq_true]
        exact ⟨by rw [(hok l hl).1]; simp, (hok l hl).2⟩
      · exact ((((hll.far (by simp; omega) _).far (by simp; omega) _).far (by simp; omega) _).far (by simp; omega) _).base_ (by omega)
      · exact (((hTr.far (by have := h.ge; simp; omega) (by simp; omega) _).far (by have := h.ge; simp; omega) (by simp; omega) _).far (by have := h.ge; simp; omega) (by simp; omega) _).far (by have := h.ge; simp; omega) (by simp; omega) _
      · exact only_setCell (only_setCell (only_setCell (only_setCell hgr (.inr (by simp)) _) (.inr (by simp)) _) (.inr (by simp)) _) (.inr (by simp)) _
end Go.Proofs.Ytbbflddhbamjbaa
