/- HueGrey, in memory: the headers of planes by value; a row cut to one; two headers appended. -/
import Derived.Test.YticjiodnolngcaaDat
import Derived.Test.YticjiodnolngcaaPicLL
set_option linter.unusedSimpArgs false
set_option linter.unusedVariables false
namespace Go.Proofs.Yticjiodnolngcaa
open Go.RowKit

theorem LLpre {w : World} {base : Nat} {eS e : TypeId} {v : Value} {ls : List (List Int)} (h : OwnLL w base eS e .i64 v ls) (hl : 0 < ls.length) (hne : eS ≠ e) :
    ∃ g cap A0 c0, v = .slice (some ⟨g, 0, none⟩) ls.length cap ∧ base ≤ g ∧ g < w.heap.size ∧ ls.length ≤ cap ∧ cap ≤ maxLen ∧ w.ownsRow base eS 1 (.slice (some ⟨g, 0, none⟩) 1 cap) 1 [.slice A0 (ls.getD 0 []).length c0] ∧
      OwnI w base e .i64 (.slice A0 (ls.getD 0 []).length c0) (ls.getD 0 []) ∧ (Value.slice A0 (ls.getD 0 []).length c0).ownBlock ≠ some g := by
  obtain ⟨hs, ho, hp, _⟩ := h
  obtain ⟨A0, c0, h0, ho0⟩ := hp 0 hl
  have ho' := ho
  rcases ho.2 with ⟨_, hn⟩ | ⟨g, cap, cur, rfl, hb, hg, hn, hcm, hsz, htk⟩
  · omega
  · have hlt : g < w.heap.size := (Array.getElem?_eq_some_iff.1 hg).1
    refine ⟨g, cap, A0, c0, rfl, hb, hlt, hn, hcm, ⟨by simp, .inr ⟨g, cap, cur, rfl, hb, hg, by omega, hcm, hsz, ?_⟩⟩, ho0, fun e9 => ?_⟩
    · have h1 : hs.take 1 = [.slice A0 (ls.getD 0 []).length c0] := by
        cases hs with
        | nil => simp at h0
        | cons u t => simp at h0; subst h0; rfl
      rw [← h1, ← htk, List.take_take]
      congr 1
      omega
    · rcases own_types ho ho0 hne with h9 | h9
      · simp [Value.ownBlock] at h9
      · exact h9 (by rw [e9]; rfl)
theorem run_pre1 {P : Program} {t e : TypeId} {z : Option Value} {b : Nat} (ht : P.underlying t = some (.slice e)) (hi : (P.info? e).map (fun i => (i.zero, i.size, i.bytes)) = some (z, 1, b)) (g n c : Nat) (h1 : 1 ≤ n) (hc : n ≤ c) (w' : World) :
    (Instr.slice t (.slice (some ⟨g, 0, none⟩) n c) none (some (.int .i64 1)) none).run P w' = .ok (.slice (some ⟨g, 0, none⟩) 1 c) w' := by
  obtain ⟨he, ht'⟩ := elem_of ht
  have h := run_slice_h w' t (some ⟨g, 0, none⟩) n c ht' .i64 1 (by omega) (by omega)
  rw [h, he, sizeOf_run hi]
  simp [sliced, Addr.add]
/-- append of further cells to the call's own row; its first cells stay where they are. -/
theorem run_append_keep {P : Program} (w : World) (base : Nat) (t ty e : TypeId) (i : TypeInfo) (z : Value) (bytes : Nat) (ht : P.underlying t = some (.slice e)) (hi : P.info? e = some i) (hz : i.zero = some z)
    (hsize : i.size = 1) (hby : i.bytes = bytes) (hzs : z.cells.size = 1) (hb64 : bytes ≤ 1024)
    (g n cap : Nat) (xs : List Value) (hown : w.ownsRow base e 1 (.slice (some ⟨g, 0, none⟩) n cap) n xs) (hcap : cap ≤ maxLen)
    (a : Addr) (m c : Nat) (news : List Value) (hl : news.length = m) (hnews : ∀ j u, news[j]? = some u → w.cell? (a.add j) = some u) (h1 : ∀ u ∈ news, u.oneCell' = true)
    (h63 : n + m ≤ 1000000) (hbase : base ≤ w.heap.size) (h0 : 0 < n) :
    ∃ v' w', (Builtin.append_ #[t, t] ty #[.slice (some ⟨g, 0, none⟩) n cap, .slice (some a) m c]).run P w = .ok v' w' ∧ w'.ownsRow base e 1 v' (n + m) (xs ++ news) ∧ w.grownBy w' (some g) ∧ w'.cell? ⟨g, 0, none⟩ = w.cell? ⟨g, 0, none⟩ := by
  have hbytes : (n + m) * bytes ≤ 140737488355328 := by
    have : (n + m) * bytes ≤ 1000000 * 1024 := Nat.mul_le_mul h63 hb64
    omega
  have hx0 : ∃ u, xs[0]? = some u := by
    have := hown.1
    exact ⟨xs[0]'(by omega), List.getElem?_eq_getElem _⟩
  obtain ⟨u0, hu0⟩ := hx0
  have hc0 := World.ownsRow.cells hown (g := g) rfl 0 u0 hu0
  rw [show (⟨g, 0, none⟩ : Addr).add 0 = ⟨g, 0, none⟩ by simp [Addr.add]] at hc0
  obtain ⟨v', w', hr, h2, h3, h4⟩ := run_append_own (P := P) w base t ty e i z 1 bytes ht hi hz hsize hby hzs (by omega) _ n xs hown a m c news (by omega) hnews h1 (by simp only [maxLen]; omega) hbytes hbase
  refine ⟨v', w', hr, h2, h3, ?_⟩
  rw [hc0]
  have hown2 := hown
  rcases hown.2 with ⟨h9, _⟩ | ⟨g', cap', cur, hv, hbg, hg, hnc, hcm, hcs, htake⟩
  · simp at h9
  · simp only [Value.slice.injEq, Option.some.injEq, Addr.mk.injEq] at hv
    obtain ⟨⟨rfl, _, _⟩, _, rfl⟩ := hv
    by_cases hroom : n + m ≤ cap
    · have hr2 := run_append_room (P := P) w t ty e i ht hi g n cap cur hg a m c news (by rw [hsize]; omega) hnews h1 hroom (by rw [hsize, hcs, hl]; omega)
      rw [hr] at hr2
      injection hr2 with hv' hw'
      have h5 := World.ownsRow.cells h2 (g := g) (by rw [hv']; rfl) 0 u0 (by rw [List.getElem?_append_left (by have := hown2.1; omega)]; exact hu0)
      rwa [show (⟨g, 0, none⟩ : Addr).add 0 = ⟨g, 0, none⟩ by simp [Addr.add]] at h5
    · have hgl : g < w.heap.size := (Array.getElem?_eq_some_iff.1 hg).1
      have hr2 := run_append_grow (P := P) w t ty e i z ht hi hz ⟨g, 0, none⟩ n cap xs (by rw [hsize]; exact hown2.1) (hown2.cells (g := g) rfl) a m c news (by rw [hsize]; omega) hnews (by omega) (by omega) (growslice_fits (by omega) (by rw [hby]; exact hbytes))
      rw [hr] at hr2
      injection hr2 with hv' hw'
      subst hw'
      exact (Below.cell (below_alloc (Below.refl w.drew.heap.size w.drew) _) (p := ⟨g, 0, none⟩) (by exact hgl)).trans hc0
/-- The same as a step of a region that draws: two cells from a new block. -/
theorem step_append_keep {P : Program} {ops : Array Oper} {o : Oper} {a : Act} {K : Act → World → Prop} {E : Prop} {Q : Exit → Act → World → Prop} (hgd : o.guard = none) (s x : Operand) (t : TypeId)
    (ho : o.op = .call { callee := .builtin .append, args := #[s, x], argTypes := #[t, t] }) (w : World) (base : Nat) (e : TypeId) (z : Value) (bytes : Nat) (ht : P.underlying t = some (.slice e))
    (hi : (P.info? e).map (fun i => (i.zero, i.size, i.bytes)) = some (some z, 1, bytes)) (hz : z.cells.size = 1) (hby : bytes ≤ 1024)
    (g n cap : Nat) (xs : List Value) (hs : a.eval s = .slice (some ⟨g, 0, none⟩) n cap) (hown : w.ownsRow base e 1 (.slice (some ⟨g, 0, none⟩) n cap) n xs) (hcap : cap ≤ maxLen)
    (gs c : Nat) (u1 u2 : Value) (hx : a.eval x = .slice (some ⟨gs, 0, none⟩) 2 c) (k1 : w.cell? ⟨gs, 0, none⟩ = some u1) (k2 : w.cell? ⟨gs, 1, none⟩ = some u2) (o1 : u1.oneCell' = true) (o2 : u2.oneCell' = true) (hn : n ≤ 1000) (h0 : 0 < n) (hbase : base ≤ w.heap.size)
    (h : ∀ v' w', w'.ownsRow base e 1 v' (n + 2) (xs ++ [u1, u2]) → w.grownBy w' (some g) → w'.cell? ⟨g, 0, none⟩ = w.cell? ⟨g, 0, none⟩ → K (a.put o.dst v') w') : if Region.wanted o (yielded ops a.tmps) = true then Oper.wp P o a w K Q else E := by
  obtain ⟨i0, hi0, hz0, hz1, hz2⟩ := infoG hi
  obtain ⟨v', w', hrun, h2, h3, h4⟩ := run_append_keep (P := P) w base t o.type e i0 z bytes ht hi0 hz0 hz1 hz2 hz hby g n cap xs hown hcap ⟨gs, 0, none⟩ 2 c [u1, u2] rfl (fun j u hu => by
    match j, hu with
    | 0, hu => simp at hu; subst hu; simpa [Addr.add] using k1
    | 1, hu => simp at hu; subst hu; simpa [Addr.add] using k2
    | j + 2, hu => simp at hu) (fun u hu => by simp at hu; rcases hu with rfl | rfl <;> assumption) (by omega) hbase h0
  have hwn : Region.wanted o (yielded ops a.tmps) = true := by simp [Region.wanted, hgd]
  rw [if_pos hwn]
  unfold Oper.wp execOp
  simp only [ho, resolve, invoke, builtin, Sem.run_bind, Sem.run_pure, Result.andThen_ok, List.map_toArray, List.map_cons, List.map_nil, hs, hx, hrun]
  exact h v' w' h2 h3 h4
end Go.Proofs.Yticjiodnolngcaa
