/- The disk in memory. -/
import Derived.Test.YtdlbjilbdbjadaaAgg
import Derived.Test.YtdlbjilbdbjadaaPicLL
import Derived.Test.YtdlbjilbdbjadaaPk
import Derived.Test.YtdlbjilbdbjadaaOwnS
set_option linter.unusedSimpArgs false
set_option linter.unusedVariables false
namespace Go.Proofs.Ytdlbjilbdbjadaa
open Go.RowKit

theorem zeroCells_rep (k : IntKind) (n : Nat) : Builtin.zeroCells (Value.int k 0).cells n = (ic k (List.replicate n 0)).toArray := by
  have h1 : (Value.int k 0).cells = #[.int k 0] := rfl
  rw [h1]
  apply Array.ext
  · simp [Builtin.zeroCells, ic_length]
  · intro i h1 h2
    simp [Builtin.zeroCells, Nat.mod_one, ic]
theorem zeroCells_rep' (k : IntKind) (n : Nat) : Builtin.zeroCells #[Value.int k 0] n = (ic k (List.replicate n 0)).toArray := zeroCells_rep k n
section
variable {P : Program}
theorem run_append_zeros (w : World) (base : Nat) (t tx ty e : TypeId) (k : IntKind) (bytes : Nat) (ht : P.underlying t = some (.slice e)) (htx : P.underlying tx = some (.int .i64))
    (hi : (P.info? e).map (fun i => (i.zero, i.size, i.bytes)) = some (some (.int k 0), 1, bytes)) (hby : bytes ≤ 8)
    (v : Value) (l : List Int) (hown : OwnI w base e k v l) (hl1 : 0 < l.length) (n : Nat) (h0 : 0 < n) (hn : l.length + n ≤ 1000000) (hbw : base ≤ w.heap.size) :
    ∃ v' w', (Builtin.append_ #[t, tx] ty #[v, .int .i64 (n : Int)]).run P w = .ok v' w' ∧ OwnI w' base e k v' (l ++ List.replicate n 0) ∧ w.grownBy w' v.ownBlock ∧ (v'.ownBlock = v.ownBlock ∨ v'.ownBlock = some w.heap.size) := by
  obtain ⟨i0, hi0, hz0, hz1, hz2⟩ := info_parts hi
  have hwr : IntKind.i64.wrap (n : Int) = (n : Int) := by rw [IntKind.wrap_i64]; omega
  have hnn : ¬ ((n : Int) < 0) := by omega
  have hai : ∀ w', (asIntOf (.int .i64 (n : Int))).run P w' = .ok (.i64, (n : Int)) w' := fun w' => rfl
  have hb48 : ¬ (281474976710656 < (n : Int) * (i0.bytes : Int)) := by
    have h1 : n * i0.bytes ≤ 1000000 * 8 := Nat.mul_le_mul (by omega) (by omega)
    have h2 : ((n * i0.bytes : Nat) : Int) ≤ 8000000 := by omega
    rw [Int.natCast_mul] at h2
    omega
  have hn0 : n ≠ 0 := by omega
  have hlen : (ic k (l ++ List.replicate n 0)).length = (l.length + n) * 1 := by rw [ic_length, List.length_append, List.length_replicate]; omega
  have hown0 := hown
  rcases hown.2 with ⟨rfl, hl0⟩ | ⟨g, cap, cur, rfl, hbg, hg, hnc, hcm, hcs, htake⟩
  · omega
  · by_cases hroom : l.length + n ≤ cap
    · have hst := run_storeCells_at P g l.length e (ic k (List.replicate n 0)) 0 cur w hg (by simp only [ic_length, List.length_replicate]; omega) (ic_cell _ _)
      have hr : (Builtin.append_ #[t, tx] ty #[.slice (some ⟨g, 0, none⟩) l.length cap, .int .i64 (n : Int)]).run P w = .ok (.slice (some ⟨g, 0, none⟩) (l.length + n) cap) (w.setRow g (cur.toList.take l.length ++ ic k (List.replicate n 0) ++ cur.toList.drop (l.length + n)).toArray) := by
        simp only [Nat.add_zero, ic_length, List.length_replicate] at hst
        simp [Builtin.append_, run_underlying ht, run_underlying htx, sizeOf, typeInfo, zeroValue, hi0, hz0, hz1, hwr, hnn, hb48, hn0, hroom, Addr.add_lit, zeroCells_rep, zeroCells_rep', asInt, hai, hst]
      have hown' : OwnI (w.setRow g (cur.toList.take l.length ++ ic k (List.replicate n 0) ++ cur.toList.drop (l.length + n)).toArray) base e k (.slice (some ⟨g, 0, none⟩) (l.length + n) cap) (l ++ List.replicate n 0) := by
        have hll : (l ++ List.replicate n (0 : Int)).length = l.length + n := by simp
        refine ⟨by rw [hlen, hll], .inr ⟨g, cap, _, by rw [hll], hbg, setRow_heap w g cur _ e _ hg, by rw [hll]; exact hroom, hcm, ?_, ?_⟩⟩
        · simp only [List.size_toArray, List.length_append, List.length_take, List.length_drop, Array.length_toList, ic_length, List.length_replicate]
          omega
        · simp only [Nat.mul_one] at htake ⊢
          rw [htake, hll, ← ic_append]
          have e1 : (ic k (l ++ List.replicate n 0)).length = l.length + n := by rw [ic_length, hll]
          rw [← e1]
          exact List.take_left
      exact ⟨_, _, hr, hown', ⟨rfl, rfl, rfl, by simp, fun j _ hj => setRow_other w g j _ (fun e => hj (by simp [Value.ownBlock, e]))⟩, .inl rfl⟩
    · have hfo := run_firstCells_some (P := P) w.drew 1 l.length ⟨g, 0, none⟩ l.length cap (ic k l) (by rw [ic_length]; omega) (fun j u hu => hown0.cells (g := g) rfl j u hu)
      have hgro : ¬ (9223372036854775807 < (l.length : Int) + (n : Int)) := by omega
      have hfit : ¬ (281474976710656 < Builtin.nextslicecap (l.length + n) cap * i0.bytes) := by
        have h1 := growslice_fits (need := l.length + n) (old := cap) (bytes := i0.bytes) (by omega) (by
          have : (l.length + n) * i0.bytes ≤ 1000000 * 8 := Nat.mul_le_mul (by omega) (by omega)
          omega)
        omega
      have hr : (Builtin.append_ #[t, tx] ty #[.slice (some ⟨g, 0, none⟩) l.length cap, .int .i64 (n : Int)]).run P w = .ok (.slice (some ⟨w.heap.size, 0, none⟩) (l.length + n) (grownCap w (l.length + n) cap e)) (w.drew.alloc (.cells (ic k (l ++ List.replicate n 0) ++ ic k (List.replicate (grownCap w (l.length + n) cap e - (l.length + n)) 0)).toArray e)) := by
        simp [Builtin.append_, run_underlying ht, run_underlying htx, sizeOf, typeInfo, zeroValue, hi0, hz0, hz1, hwr, hnn, hb48, hn0, hroom, zeroCells_rep, zeroCells_rep', asInt, hai, hgro, hfit, Question.forced, hfo, newRow, grownCap]
        rw [ic_append, List.append_assoc]
      have hll : (l ++ List.replicate n (0 : Int)).length = l.length + n := by simp
      have hge := grownCap_ge w (l.length + n) cap e
      have hcm' := grownCap_le_maxLen w (l.length + n) cap e (by simp only [maxLen]; omega)
      have e1 : (ic k (l ++ List.replicate n 0)).length = l.length + n := by rw [ic_length, hll]
      refine ⟨_, _, hr, ⟨by rw [hlen, hll], .inr ⟨w.heap.size, _, _, by rw [hll], hbw, heap_alloc_new w.drew _, by rw [hll]; exact hge, hcm', ?_, ?_⟩⟩, ⟨rfl, rfl, rfl, by simp, fun j hj _ => Below.heap_alloc w.drew _ _ hj⟩, .inr (by simp [Value.ownBlock])⟩
      · simp only [List.size_toArray, List.length_append, ic_length, List.length_replicate]
        omega
      · simp only [Nat.mul_one]
        rw [hll, ← e1]
        exact List.take_left
/-- As an operation. -/
theorem wpList_append_zeros {ops : Array Oper} {rest : List Oper} {o : Oper} {a : Act} {Q : Exit → Act → World → Prop} (hgd : o.guard = none) (s x : Operand) (t tx : TypeId)
    (ho : o.op = .call { callee := .builtin .append, args := #[s, x], argTypes := #[t, tx] }) (w : World) (base : Nat) (e : TypeId) (k : IntKind) (bytes : Nat) (ht : P.underlying t = some (.slice e)) (htx : P.underlying tx = some (.int .i64))
    (hi : (P.info? e).map (fun i => (i.zero, i.size, i.bytes)) = some (some (.int k 0), 1, bytes)) (hby : bytes ≤ 8)
    (v : Value) (l : List Int) (hs : a.eval s = v) (hown : OwnI w base e k v l) (hl1 : 0 < l.length) (n : Nat) (hx : a.eval x = .int .i64 (n : Int)) (h0 : 0 < n) (hn : l.length + n ≤ 1000000) (hbw : base ≤ w.heap.size)
    (h : ∀ v' w', OwnI w' base e k v' (l ++ List.replicate n 0) → w.grownBy w' v.ownBlock → (v'.ownBlock = v.ownBlock ∨ v'.ownBlock = some w.heap.size) → wpList P ops Q rest (a.put o.dst v') w') : wpList P ops Q (o :: rest) a w := by
  obtain ⟨v', w', hrun, h2, h3, h4⟩ := run_append_zeros (P := P) w base t tx o.type e k bytes ht htx hi hby v l hown hl1 n h0 hn hbw
  refine wpList_plain hgd fun _ hK => ?_
  unfold Oper.wp execOp
  simp only [ho, resolve, invoke, builtin, Sem.run_bind, Sem.run_pure, Result.andThen_ok, List.map_toArray, List.map_cons, List.map_nil, hs, hx, hrun]
  exact hK _ _ (h v' w' h2 h3 h4)
end
end Go.Proofs.Ytdlbjilbdbjadaa

namespace Go.Proofs.Ytdlbjilbdbjadaa
open Go.RowKit

structure Dk where
  n : Nat
  sto : List Int
  see : List Int
  qs : List (Nat × List Int)
structure Dk.ok (s : Dk) : Prop where
  n0 : 2 ≤ s.n
  n1 : s.n ≤ 1024
  l1 : s.sto.length = 64 * s.n
  l2 : s.see.length = 64 * s.n
  b1 : byteB s.sto
  b2 : byteB s.see
  q : ∀ x ∈ s.qs, x.1 < s.n ∧ x.2.length = 64 ∧ byteB x.2
/-- A write that waits. -/
def WrR : Rel (Nat × List Int) := fun _ _ cs x => cs = .int .i64 (x.1 : Int) :: ic .u8 x.2 ∧ x.2.length = 64
theorem WrR.good : Rel.Good WrR 65 where
  pos := by omega
  len := by rintro w S cs x ⟨rfl, h⟩; simp [ic_length, h]
  one := by
    rintro w S cs x ⟨rfl, _⟩ u hu
    rcases List.mem_cons.1 hu with rfl | hu
    · rfl
    · exact ic_cell _ _ u hu
  keep := by rintro w w' M S cs x h _ _; exact h
  weak := by rintro w S S' cs x h _; exact h
theorem info_wr : (Try.prog.info? 81).map (fun i => (i.zero, i.size, i.bytes)) = some (some (.agg (Array.replicate 65 (.int .u8 0) |>.setIfInBounds 0 (.int .i64 0))), 65, 72) := by kernel_rfl
theorem info_se : (Try.prog.info? 79).map (fun i => (i.zero, i.size, i.bytes)) = some (some (.agg (Array.replicate 64 (.int .u8 0))), 64, 64) := by kernel_rfl
theorem size_wr : (Try.prog.info? 81).map (·.size) = some 65 := by kernel_rfl
theorem size_se : (Try.prog.info? 79).map (·.size) = some 64 := by kernel_rfl
structure DkM (w : World) (base gd gs ge : Nat) (vq : Value) (s : Dk) : Prop where
  bd : Blk w gd 69 #[.slice (some ⟨gs, 0, none⟩) s.n s.n, .slice (some ⟨ge, 0, none⟩) s.n s.n, vq]
  bs : Blk w gs 79 (ic .u8 s.sto).toArray
  be : Blk w ge 79 (ic .u8 s.see).toArray
  oq : OwnG WrR 65 81 w base (fun _ => False) vq s.qs
  ne : gd ≠ gs ∧ gd ≠ ge ∧ gs ≠ ge
  nq : ∀ b, vq.ownBlock = some b → b ≠ gd ∧ b ≠ gs ∧ b ≠ ge
  ge_ : base ≤ gd ∧ base ≤ gs ∧ base ≤ ge ∧ base ≤ w.heap.size
  ok : s.ok
/-- the blocks of a disk -/
def dkF (gd gs ge : Nat) (vq : Value) (b : Nat) : Prop := b = gd ∨ b = gs ∨ b = ge ∨ vq.ownBlock = some b
section
variable {w w' : World} {base gd gs ge : Nat} {vq : Value} {s : Dk} {M : Nat → Prop}
theorem DkM.keep (h : DkM w base gd gs ge vq s) (hm : Mod M w w') (hM : ∀ b, dkF gd gs ge vq b → ¬ M b) : DkM w' base gd gs ge vq s where
  bd := h.bd.mod hm (hM _ (.inl rfl))
  bs := h.bs.mod hm (hM _ (.inr (.inl rfl)))
  be := h.be.mod hm (hM _ (.inr (.inr (.inl rfl))))
  oq := h.oq.keep WrR.good hm (fun b hb => hb.elim) (fun b hb => hM _ (.inr (.inr (.inr hb))))
  ne := h.ne
  nq := h.nq
  ge_ := ⟨h.ge_.1, h.ge_.2.1, h.ge_.2.2.1, Nat.le_trans h.ge_.2.2.2 hm.size⟩
  ok := h.ok
theorem DkM.below (h : DkM w base gd gs ge vq s) (hb : Below w.heap.size w w') : DkM w' base gd gs ge vq s := h.keep (M := fun _ => False) (Mod.of_fresh hb) (fun _ _ h => h)
theorem DkM.drewN (h : DkM w base gd gs ge vq s) (n : Nat) : DkM (w.drewN n) base gd gs ge vq s := h.keep (M := fun _ => False) ((Mod.refl _ _).drewN n) (fun _ _ h => h)
theorem DkM.lt (h : DkM w base gd gs ge vq s) : ∀ b, dkF gd gs ge vq b → base ≤ b ∧ b < w.heap.size := fun b hb => by
  rcases hb with rfl | rfl | rfl | hb
  · exact ⟨h.ge_.1, h.bd.lt⟩
  · exact ⟨h.ge_.2.1, h.bs.lt⟩
  · exact ⟨h.ge_.2.2.1, h.be.lt⟩
  · exact h.oq.own_ge b hb
end
end Go.Proofs.Ytdlbjilbdbjadaa
