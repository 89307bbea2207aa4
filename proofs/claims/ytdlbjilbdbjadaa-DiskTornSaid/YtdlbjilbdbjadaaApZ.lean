/- append(s, make([]T, n)...): zeros onto a slice of the call's own. -/
import Derived.Test.YtdlbjilbdbjadaaAgg
import Derived.Test.YtdlbjilbdbjadaaPicLL
set_option linter.unusedSimpArgs false
set_option linter.unusedVariables false
namespace Go.Proofs.Ytdlbjilbdbjadaa
open Go.RowKit

theorem zeroCells_rep (k : IntKind) (n : Nat) : Builtin.zeroCells (Value.int k 0).cells n = (ic k (List.replicate n 0)).toArray := by
  have h1 : (Value.int k 0).cells = #[.int k 0] := rfl
  rw [h1]
  apply Array.ext
  · simp [Builtin.zeroCells, ic_length]
  · intro i h1 h2
    simp [Builtin.zeroCells, Nat.mod_one, ic]
theorem zeroCells_rep' (k : IntKind) (n : Nat) : Builtin.zeroCells #[Value.int k 0] n = (ic k (List.replicate n 0)).toArray := zeroCells_rep k n
section
variable {P : Program}
theorem run_append_zeros (w : World) (base : Nat) (t tx ty e : TypeId) (k : IntKind) (bytes : Nat) (ht : P.underlying t = some (.slice e)) (htx : P.underlying tx = some (.int .i64))
    (hi : (P.info? e).map (fun i => (i.zero, i.size, i.bytes)) = some (some (.int k 0), 1, bytes)) (hby : bytes ≤ 8)
    (v : Value) (l : List Int) (hown : OwnI w base e k v l) (hl1 : 0 < l.length) (n : Nat) (h0 : 0 < n) (hn : l.length + n ≤ 1000000) (hbw : base ≤ w.heap.size) :
    ∃ v' w', (Builtin.append_ #[t, tx] ty #[v, .int .i64 (n : Int)]).run P w = .ok v' w' ∧ OwnI w' base e k v' (l ++ List.replicate n 0) ∧ w.grownBy w' v.ownBlock ∧ (v'.ownBlock = v.ownBlock ∨ v'.ownBlock = some w.heap.size) := by
  obtain ⟨i0, hi0, hz0, hz1, hz2⟩ := info_parts hi
  have hwr : IntKind.i64.wrap (n : Int) = (n : Int) := by rw [IntKind.wrap_i64]; omega
  have hnn : ¬ ((n : Int) < 0) := by omega
  have hai : ∀ w', (asIntOf (.int .i64 (n : Int))).run P w' = .ok (.i64, (n : Int)) w' := fun w' => rfl
  have hb48 : ¬ (281474976710656 < (n : Int) * (i0.bytes : Int)) := by
    have h1 : n * i0.bytes ≤ 1000000 * 8 := Nat.mul_le_mul (by omega) (by omega)
    have h2 : ((n * i0.bytes : Nat) : Int) ≤ 8000000 := by omega
    rw [Int.natCast_mul] at h2
    omega
  have hn0 : n ≠ 0 := by omega
  have hlen : (ic k (l ++ List.replicate n 0)).length = (l.length + n) * 1 := by rw [ic_length, List.length_append, List.length_replicate]; omega
  have hown0 := hown
  rcases hown.2 with ⟨rfl, hl0⟩ | ⟨g, cap, cur, rfl, hbg, hg, hnc, hcm, hcs, htake⟩
  · omega
  · by_cases hroom : l.length + n ≤ cap
    · have hst := run_storeCells_at P g l.length e (ic k (List.replicate n 0)) 0 cur w hg (by simp only [ic_length, List.length_replicate]; omega) (ic_cell _ _)
      have hr : (Builtin.append_ #[t, tx] ty #[.slice (some ⟨g, 0, none⟩) l.length cap, .int .i64 (n : Int)]).run P w = .ok (.slice (some ⟨g, 0, none⟩) (l.length + n) cap) (w.setRow g (cur.toList.take l.length ++ ic k (List.replicate n 0) ++ cur.toList.drop (l.length + n)).toArray) := by
        simp only [Nat.add_zero, ic_length, List.length_replicate] at hst
        simp [Builtin.append_, run_underlying ht, run_underlying htx, sizeOf, typeInfo, zeroValue, hi0, hz0, hz1, hwr, hnn, hb48, hn0, hroom, Addr.add_lit, zeroCells_rep, zeroCells_rep', asInt, hai, hst]
      have hown' : OwnI (w.setRow g (cur.toList.take l.length ++ ic k (List.replicate n 0) ++ cur.toList.drop (l.length + n)).toArray) base e k (.slice (some ⟨g, 0, none⟩) (l.length + n) cap) (l ++ List.replicate n 0) := by
        have hll : (l ++ List.replicate n (0 : Int)).length = l.length + n := by simp
        refine ⟨by rw [hlen, hll], .inr ⟨g, cap, _, by rw [hll], hbg, setRow_heap w g cur _ e _ hg, by rw [hll]; exact hroom, hcm, ?_, ?_⟩⟩
        · simp only [List.size_toArray, List.length_append, List.length_take, List.length_drop, Array.length_toList, ic_length, List.length_replicate]
          omega
        · simp only [Nat.mul_one] at htake ⊢
          rw [htake, hll, ← ic_append]
          have e1 : (ic k (l ++ List.replicate n 0)).length = l.length + n := by rw [ic_length, hll]
          rw [← e1]
          exact List.take_left
      exact ⟨_, _, hr, hown', ⟨rfl, rfl, rfl, by simp, fun j _ hj => setRow_other w g j _ (fun e => hj (by simp [Value.ownBlock, e]))⟩, .inl rfl⟩
    · have hfo := run_firstCells_some (P := P) w.drew 1 l.length ⟨g, 0, none⟩ l.length cap (ic k l) (by rw [ic_length]; omega) (fun j u hu => hown0.cells (g := g) rfl j u hu)
      have hgro : ¬ (9223372036854775807 < (l.length : Int) + (n : Int)) := by omega
      have hfit : ¬ (281474976710656 < Builtin.nextslicecap (l.length + n) cap * i0.bytes) := by
        have h1 := growslice_fits (need := l.length + n) (old := cap) (bytes := i0.bytes) (by omega) (by
          have : (l.length + n) * i0.bytes ≤ 1000000 * 8 := Nat.mul_le_mul (by omega) (by omega)
          omega)
        omega
      have hr : (Builtin.append_ #[t, tx] ty #[.slice (some ⟨g, 0, none⟩) l.length cap, .int .i64 (n : Int)]).run P w = .ok (.slice (some ⟨w.heap.size, 0, none⟩) (l.length + n) (grownCap w (l.length + n) cap e)) (w.drew.alloc (.cells (ic k (l ++ List.replicate n 0) ++ ic k (List.replicate (grownCap w (l.length + n) cap e - (l.length + n)) 0)).toArray e)) := by
        simp [Builtin.append_, run_underlying ht, run_underlying htx, sizeOf, typeInfo, zeroValue, hi0, hz0, hz1, hwr, hnn, hb48, hn0, hroom, zeroCells_rep, zeroCells_rep', asInt, hai, hgro, hfit, Question.forced, hfo, newRow, grownCap]
        rw [ic_append, List.append_assoc]
      have hll : (l ++ List.replicate n (0 : Int)).length = l.length + n := by simp
      have hge := grownCap_ge w (l.length + n) cap e
      have hcm' := grownCap_le_maxLen w (l.length + n) cap e (by simp only [maxLen]; omega)
      have e1 : (ic k (l ++ List.replicate n 0)).length = l.length + n := by rw [ic_length, hll]
      refine ⟨_, _, hr, ⟨by rw [hlen, hll], .inr ⟨w.heap.size, _, _, by rw [hll], hbw, heap_alloc_new w.drew _, by rw [hll]; exact hge, hcm', ?_, ?_⟩⟩, ⟨rfl, rfl, rfl, by simp, fun j hj _ => Below.heap_alloc w.drew _ _ hj⟩, .inr (by simp [Value.ownBlock])⟩
      · simp only [List.size_toArray, List.length_append, ic_length, List.length_replicate]
        omega
      · simp only [Nat.mul_one]
        rw [hll, ← e1]
        exact List.take_left
/-- As an operation. -/
theorem wpList_append_zeros {ops : Array Oper} {rest : List Oper} {o : Oper} {a : Act} {Q : Exit → Act → World → Prop} (hgd : o.guard = none) (s x : Operand) (t tx : TypeId)
    (ho : o.op = .call { callee := .builtin .append, args := #[s, x], argTypes := #[t, tx] }) (w : World) (base : Nat) (e : TypeId) (k : IntKind) (bytes : Nat) (ht : P.underlying t = some (.slice e)) (htx : P.underlying tx = some (.int .i64))
    (hi : (P.info? e).map (fun i => (i.zero, i.size, i.bytes)) = some (some (.int k 0), 1, bytes)) (hby : bytes ≤ 8)
    (v : Value) (l : List Int) (hs : a.eval s = v) (hown : OwnI w base e k v l) (hl1 : 0 < l.length) (n : Nat) (hx : a.eval x = .int .i64 (n : Int)) (h0 : 0 < n) (hn : l.length + n ≤ 1000000) (hbw : base ≤ w.heap.size)
    (h : ∀ v' w', OwnI w' base e k v' (l ++ List.replicate n 0) → w.grownBy w' v.ownBlock → (v'.ownBlock = v.ownBlock ∨ v'.ownBlock = some w.heap.size) → wpList P ops Q rest (a.put o.dst v') w') : wpList P ops Q (o :: rest) a w := by
  obtain ⟨v', w', hrun, h2, h3, h4⟩ := run_append_zeros (P := P) w base t tx o.type e k bytes ht htx hi hby v l hown hl1 n h0 hn hbw
  refine wpList_plain hgd fun _ hK => ?_
  unfold Oper.wp execOp
  simp only [ho, resolve, invoke, builtin, Sem.run_bind, Sem.run_pure, Result.andThen_ok, List.map_toArray, List.map_cons, List.map_nil, hs, hx, hrun]
  exact hK _ _ (h v' w' h2 h3 h4)
end
end Go.Proofs.Ytdlbjilbdbjadaa
