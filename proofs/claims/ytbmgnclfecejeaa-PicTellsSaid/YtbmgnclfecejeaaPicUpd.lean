/- Writing into the planes that a call made itself. -/
import Derived.Test.YtbmgnclfecejeaaPicCut
import Derived.Laws.CopyOwn
set_option linter.unusedSimpArgs false
set_option linter.unusedVariables false
namespace Go.Proofs.Ytbmgnclfecejeaa
open Go.RowKit

def splI (l : List Int) (off : Nat) (l2 : List Int) : List Int := l.take off ++ (l2 ++ l.drop (off + l2.length))
theorem splI_length {l : List Int} {off : Nat} {l2 : List Int} (h : off + l2.length ≤ l.length) : (splI l off l2).length = l.length := by simp [splI]; omega
theorem grown_setRow (w : World) (g : Nat) (cs : Array Value) : w.grownBy (w.setRow g cs) (some g) :=
  ⟨rfl, rfl, rfl, by simp [World.setRow], fun k _ hne => setRow_other w g k cs (by simpa using hne)⟩

section
variable {w w' : World} {base : Nat} {eS e : TypeId} {k : IntKind} {v : Value} {ls : List (List Int)}
theorem run_copy_own {P : Program} {g c : Nat} {l : List Int} (h : OwnI w base e k (.slice (some ⟨g, 0, none⟩) l.length c) l) (off : Nat) (l2 : List Int) (hoff : off + l2.length ≤ l.length) (hpos : 0 < l2.length)
    {A : Option Addr} {B : Nat} (hr : RdI w B k A l2) (dT sT ty : TypeId) (hu : P.underlying dT = some (.slice e)) (hsz : (P.info? e).map (·.size) = some 1) (dl dc sc : Nat) (hdl : dl = l.length - off) :
    ∃ w', (Builtin.copy_ #[dT, sT] ty #[.slice (some ⟨g, off, none⟩) dl dc, .slice A l2.length sc]).run P w = .ok (goInt l2.length) w' ∧ OwnI w' base e k (.slice (some ⟨g, 0, none⟩) l.length c) (splI l off l2) ∧ w.grownBy w' (some g) := by
  rcases h.2 with ⟨h', _⟩ | ⟨g', cap, cur, h', hb, hg, hnc, hcm, hcs, htake⟩
  · simp at h'
  · simp only [Value.slice.injEq, Option.some.injEq, Addr.mk.injEq, and_true, true_and] at h'
    obtain ⟨rfl, rfl⟩ := h'
    obtain ⟨ad, rfl, _, hc⟩ := hr.addr hpos
    have hcl : cur.toList.length = c := by simp [hcs]
    have hm : (ic k l2).length = l2.length := ic_length _ _
    have hrun := run_copy_row (P := P) w dT sT ty e g off dl dc ad l2.length sc cur e (ic k l2) hu hsz hg (by rw [hm, hdl]; simp [Nat.min_def]; omega) hc (by rw [hm, ← Array.length_toList]; omega) (ic_cell k l2)
    rw [hm] at hrun
    refine ⟨_, hrun, ⟨by rw [ic_length, splI_length hoff, Nat.mul_one], .inr ⟨g, c, _, by rw [splI_length hoff], hb, setRow_heap w g cur _ e (0, 0) hg, by rw [splI_length hoff]; exact hnc, hcm, ?_, ?_⟩⟩, grown_setRow _ _ _⟩
    · have : cur.size = c := by omega
      simp [hm]
      omega
    · have hn : (splI l off l2).length * 1 = l.length := by rw [splI_length hoff, Nat.mul_one]
      rw [hn]
      rw [Nat.mul_one] at htake
      have e1 : ic k (splI l off l2) = (ic k l).take off ++ (ic k l2 ++ (ic k l).drop (off + l2.length)) := by simp [splI, ic]
      rw [e1, ← htake]
      simp only [List.append_assoc]
      rw [List.take_append, List.take_append, List.length_take, hm, List.take_take, List.take_take, Nat.min_eq_left (a := off) (b := cur.toList.length) (by omega), Nat.min_eq_right (a := l.length) (b := off) (by omega), Nat.min_eq_left (a := off) (b := l.length) (by omega),
        List.take_of_length_le (l := ic k l2) (by omega), List.drop_take, Nat.sub_sub]
theorem step_copy_own {P : Program} {ops : Array Oper} {o : Oper} {a : Act} {K : Act → World → Prop} {E : Prop} {Q : Exit → Act → World → Prop} (hgd : o.guard = none) (d s : Operand) (dT sT : TypeId)
    (ho : o.op = .call { callee := .builtin .copy, args := #[d, s], argTypes := #[dT, sT] }) (hu : P.underlying dT = some (.slice e)) (hsz : (P.info? e).map (·.size) = some 1)
    (g c : Nat) (l : List Int) (h : OwnI w base e k (.slice (some ⟨g, 0, none⟩) l.length c) l) (off dl dc : Nat) (hd : a.eval d = .slice (some ⟨g, off, none⟩) dl dc) (hdl : dl = l.length - off)
    (A : Option Addr) (n sc B : Nat) (l2 : List Int) (hs : a.eval s = .slice A n sc) (hn : n = l2.length) (hr : RdI w B k A l2) (hoff : off + l2.length ≤ l.length) (hpos : 0 < l2.length)
    (hK : ∀ w', OwnI w' base e k (.slice (some ⟨g, 0, none⟩) l.length c) (splI l off l2) → w.grownBy w' (some g) → K (a.put o.dst (goInt l2.length)) w') : if Region.wanted o (yielded ops a.tmps) = true then Oper.wp P o a w K Q else E := by
  subst hn
  obtain ⟨w', hrun, h2, h3⟩ := run_copy_own (P := P) h off l2 hoff hpos hr dT sT o.type hu hsz dl dc sc hdl
  have hw : Region.wanted o (yielded ops a.tmps) = true := by simp [Region.wanted, hgd]
  rw [if_pos hw]
  unfold Oper.wp execOp
  simp only [ho, resolve, invoke, builtin, Sem.run_bind, Sem.run_pure, Result.andThen_ok, List.map_toArray, List.map_cons, List.map_nil, hs, hd, hrun]
  exact hK w' h2 h3
theorem wpList_copy_own' {P : Program} {ops : Array Oper} {rest : List Oper} {o : Oper} {a : Act} {Q : Exit → Act → World → Prop} (hgd : o.guard = none) (d s : Operand) (dT sT : TypeId)
    (ho : o.op = .call { callee := .builtin .copy, args := #[d, s], argTypes := #[dT, sT] }) (hu : P.underlying dT = some (.slice e)) (hsz : (P.info? e).map (·.size) = some 1)
    (g c : Nat) (l : List Int) (h : OwnI w base e k (.slice (some ⟨g, 0, none⟩) l.length c) l) (off dl dc : Nat) (hd : a.eval d = .slice (some ⟨g, off, none⟩) dl dc) (hdl : dl = l.length - off)
    (A : Option Addr) (n sc B : Nat) (l2 : List Int) (hs : a.eval s = .slice A n sc) (hn : n = l2.length) (hr : RdI w B k A l2) (hoff : off + l2.length ≤ l.length) (hpos : 0 < l2.length)
    (hK : ∀ w', OwnI w' base e k (.slice (some ⟨g, 0, none⟩) l.length c) (splI l off l2) → w.grownBy w' (some g) → wpList P ops Q rest (a.put o.dst (goInt l2.length)) w') : wpList P ops Q (o :: rest) a w := by
  subst hn
  obtain ⟨w', hrun, h2, h3⟩ := run_copy_own (P := P) h off l2 hoff hpos hr dT sT o.type hu hsz dl dc sc hdl
  refine wpList_plain hgd fun _ hK' => ?_
  unfold Oper.wp execOp
  simp only [ho, resolve, invoke, builtin, Sem.run_bind, Sem.run_pure, Result.andThen_ok, List.map_toArray, List.map_cons, List.map_nil, hs, hd, hrun]
  exact hK' _ _ (hK w' h2 h3)

/-- plane[off:] of a slice at the head of its block. -/
theorem run_cut_from {P : Program} {t e : TypeId} {z : Option Value} {b : Nat} (ht : P.underlying t = some (.slice e)) (hi : (P.info? e).map (fun i => (i.zero, i.size, i.bytes)) = some (z, 1, b)) (g lo n c : Nat) (h1 : lo < n) (hc : n ≤ c) (W : World) :
    (Instr.slice t (.slice (some ⟨g, 0, none⟩) n c) (some (.int .i64 (lo : Int))) none none).run P W = .ok (.slice (some ⟨g, lo, none⟩) (n - lo) (c - lo)) W := by
  obtain ⟨he, ht'⟩ := elem_of ht
  rw [run_slice_l W t _ n c ht' .i64 lo (by omega) (by omega), he, sizeOf_run hi]
  have : c ≠ lo := by omega
  simp [sliced, this, add_mk]

/-- One plane of own planes: where its header lies, and what becomes of all when this plane alone is written. -/
theorem OwnLL.at_ (h : OwnLL w base eS e k v ls) (hne : e ≠ eS) {j : Nat} (hj : j < ls.length) (hp : 0 < (ls.getD j []).length) :
    ∃ G C g c, v = .slice (some ⟨G, 0, none⟩) ls.length C ∧ ls.length ≤ C ∧ w.cell? ⟨G, j, none⟩ = some (.slice (some ⟨g, 0, none⟩) (ls.getD j []).length c) ∧ base ≤ g ∧ (ls.getD j []).length ≤ c ∧ (∃ cur, Blk w g e cur) ∧
      OwnI w base e k (.slice (some ⟨g, 0, none⟩) (ls.getD j []).length c) (ls.getD j []) ∧
      ∀ w' l', w.grownBy w' (some g) → l'.length = (ls.getD j []).length → OwnI w' base e k (.slice (some ⟨g, 0, none⟩) (ls.getD j []).length c) l' → OwnLL w' base eS e k v (ls.set j l') := by
  obtain ⟨hs, ho, hps, hd⟩ := h
  obtain ⟨A, c, h1, h2⟩ := hps j hj
  obtain ⟨g, c', hv, hbg, hlt, hc, _⟩ := h2.row hp
  simp only [Value.slice.injEq, true_and] at hv
  obtain ⟨rfl, rfl⟩ := hv
  have hcur : ∃ cur, Blk w g e cur := by
    rcases h2.2 with ⟨h', _⟩ | ⟨g', cap, cur, h', _, hg, _⟩
    · simp at h'
    · simp only [Value.slice.injEq, Option.some.injEq, Addr.mk.injEq, and_true, true_and] at h'
      obtain ⟨rfl, _⟩ := h'
      exact ⟨cur, hg⟩
  have hv : ∃ G C, v = .slice (some ⟨G, 0, none⟩) ls.length C ∧ ls.length ≤ C := by
    rcases ho.2 with ⟨_, h0⟩ | ⟨G, C, cur, hv, _, _, hn, _⟩
    · omega
    · exact ⟨G, C, hv, hn⟩
  obtain ⟨G, C, rfl, hC⟩ := hv
  refine ⟨G, C, g, c, rfl, hC, (by have := ho.cells (g := G) rfl j _ h1; rwa [add_mk, Nat.zero_add] at this), hbg, hc, hcur, h2, fun w' l' hg hl' hown => ⟨hs, by rw [List.length_set]; exact World.ownsRow.kept ho hg (by
    have := own_types ho h2 (Ne.symm hne)
    simpa [Value.ownBlock] using this), fun i hi => ?_, hd⟩⟩
  rw [List.length_set] at hi
  by_cases hij : i = j
  · subst hij
    have e1 : (ls.set i l').getD i [] = l' := by simp [List.getD, hj]
    rw [e1, hl']
    exact ⟨_, c, h1, hown⟩
  · have e1 : (ls.set j l').getD i [] = ls.getD i [] := by simp [List.getD, Ne.symm hij]
    rw [e1]
    obtain ⟨A', c', h3, h4⟩ := hps i hi
    refine ⟨A', c', h3, h4.kept hg ?_⟩
    rcases Nat.lt_or_gt_of_ne hij with hlt' | hlt'
    · have := hd i j _ _ hlt' h3 h1
      simpa [Value.ownBlock] using this
    · have := hd j i _ _ hlt' h1 h3
      rcases this with h | h
      · simp [Value.ownBlock] at h
      · exact .inr (Ne.symm h)
end
end Go.Proofs.Ytbmgnclfecejeaa
