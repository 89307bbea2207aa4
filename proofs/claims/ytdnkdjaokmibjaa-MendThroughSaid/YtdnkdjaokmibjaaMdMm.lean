/- Mend (plain), and how it lies in memory: a map and two slices of the call's own. -/
import Derived.Test.YtdnkdjaokmibjaaMdRs
import Derived.Test.YtdnkdjaokmibjaaMdLk
set_option linter.unusedSimpArgs false
set_option linter.unusedVariables false
namespace Go.Proofs.Ytdnkdjaokmibjaa
open Go.RowKit

theorem pgOk_seqM {p : Pg} (h : pgOk p = true) : 0 ≤ p.seq ∧ p.seq ≤ 2147483647 := by
  have := of_decide_eq_true h
  omega
/-- one page -/
def mendF (st : List Pg × List Pg × Int) (p : Pg) : List Pg × List Pg × Int :=
  if pgOk p = false then st
  else if p.guard = true then (if isG p = true then (st.1, st.2.1 ++ [p], max st.2.2 (p.seq + p.body.getD 0 0 - 1)) else st)
  else if (hasS st.1 p.seq).isSome = true then st else (st.1 ++ [p], st.2.1, max st.2.2 p.seq)
def mendA (l : List Pg) : List Pg × List Pg × Int := l.foldl mendF ([], [], -1)
/-- one guard -/
def backF (out : List Pg) (g : Pg) : List Pg :=
  if lackM g out (g.body.getD 0 0).toNat = 1 ∧ backOk g (lackO g out (g.body.getD 0 0).toNat) (lackS g out (g.body.getD 0 0).toNat) = true
  then out ++ [backP g (lackO g out (g.body.getD 0 0).toNat) (lackS g out (g.body.getD 0 0).toNat)] else out
def mendO (l : List Pg) : List Pg := (mendA l).2.1.foldl backF (mendA l).1
def mendT (l : List Pg) : Int := (mendA l).2.2
theorem mendA_snoc (l : List Pg) (p : Pg) : mendA (l ++ [p]) = mendF (mendA l) p := by simp [mendA]

theorem backP_seq (g : Pg) (o : List Pg) (s : Int) : (backP g o s).seq = s := rfl
theorem lackS_free {g : Pg} {l : List Pg} {n : Nat} (h : lackM g l n = 1) : hasS l (lackS g l n) = none := by
  unfold lackM at h
  unfold lackS
  split
  · rename_i he
    rw [List.getLast?_eq_none_iff] at he
    rw [he] at h; simp at h
  · rename_i i he
    have := List.mem_of_getLast? he
    have h2 := (List.mem_filter.1 this).2
    simpa using h2

/-- what holds of pages that are kept -/
structure Kept (l : List Pg) : Prop where
  dif : difS l
  ok : ∀ p ∈ l, pgOk p = true
theorem Kept.nil_ : Kept [] := ⟨List.Pairwise.nil, fun p h => by cases h⟩
theorem Kept.snoc {l : List Pg} {p : Pg} (h : Kept l) (hp : pgOk p = true) (hn : hasS l p.seq = none) : Kept (l ++ [p]) :=
  ⟨h.dif.snoc (hasS_none.1 hn), fun q hq => by rcases List.mem_append.1 hq with hq | hq; exact h.ok q hq; rw [List.mem_singleton] at hq; subst hq; exact hp⟩
theorem backOk_ok {g : Pg} {o : List Pg} {s : Int} (h : backOk g o s = true) : pgOk (backP g o s) = true := by
  unfold backOk at h
  simp only [Bool.and_eq_true] at h
  exact h.2
theorem Kept.back {out : List Pg} {g : Pg} (h : Kept out) : Kept (backF out g) := by
  unfold backF
  split
  · rename_i hh
    exact h.snoc (backOk_ok hh.2) (by rw [backP_seq]; exact lackS_free hh.1)
  · exact h
theorem Kept.step {st : List Pg × List Pg × Int} (h : Kept st.1) (p : Pg) : Kept (mendF st p).1 := by
  unfold mendF
  split
  · exact h
  · split
    · split
      · exact h
      · exact h
    · split
      · exact h
      · rename_i h1 _ h3
        exact h.snoc (by simpa using h1) (by simpa using h3)
theorem mendA_kept (l : List Pg) : Kept (mendA l).1 := by
  have key : ∀ (l : List Pg) (st : List Pg × List Pg × Int), Kept st.1 → Kept (l.foldl mendF st).1 := by
    intro l
    induction l with
    | nil => intro st h; exact h
    | cons p l ih => intro st h; exact ih _ (h.step p)
  exact key l _ Kept.nil_
theorem back_kept (gs : List Pg) : ∀ {out : List Pg}, Kept out → Kept (gs.foldl backF out) := by
  induction gs with
  | nil => intro out h; exact h
  | cons g gs ih => intro out h; exact ih h.back
/-- guards that can be used -/
structure Guards (gs : List Pg) : Prop where
  ok : ∀ g ∈ gs, pgOk g = true ∧ isG g = true
theorem mendF_guards {st : List Pg × List Pg × Int} (h : Guards st.2.1) (p : Pg) : Guards (mendF st p).2.1 := by
  unfold mendF
  split
  · exact h
  · rename_i h1
    split
    · split
      · rename_i _ h3
        exact ⟨fun g hg => by
          rcases List.mem_append.1 hg with hg | hg
          · exact h.ok g hg
          · rw [List.mem_singleton] at hg; subst hg; exact ⟨by simpa using h1, h3⟩⟩
      · exact h
    · split
      · exact h
      · exact h
theorem mendA_guards (l : List Pg) : Guards (mendA l).2.1 := by
  have key : ∀ (l : List Pg) (st : List Pg × List Pg × Int), Guards st.2.1 → Guards (l.foldl mendF st).2.1 := by
    intro l
    induction l with
    | nil => intro st h; exact h
    | cons p l ih => intro st h; exact ih _ (mendF_guards h p)
  exact key l _ ⟨fun g h => by cases h⟩
theorem isG_bd {p : Pg} (h : isG p = true) : 3 < p.body.length ∧ 1 ≤ p.body.getD 0 0 ∧ p.body.getD 0 0 ≤ 8 := by
  have := of_decide_eq_true h
  exact this.2
theorem mendF_top {st : List Pg × List Pg × Int} (h : -1 ≤ st.2.2 ∧ st.2.2 ≤ 2147483655) (p : Pg) : -1 ≤ (mendF st p).2.2 ∧ (mendF st p).2.2 ≤ 2147483655 := by
  unfold mendF
  split
  · exact h
  · rename_i h1
    have hs := pgOk_seqM (p := p) (by simpa using h1)
    split
    · split
      · rename_i _ h3
        have := isG_bd h3
        show -1 ≤ max st.2.2 (p.seq + p.body.getD 0 0 - 1) ∧ max st.2.2 (p.seq + p.body.getD 0 0 - 1) ≤ _
        omega
      · exact h
    · split
      · exact h
      · show -1 ≤ max st.2.2 p.seq ∧ max st.2.2 p.seq ≤ _
        omega
theorem mendA_top (l : List Pg) : -1 ≤ (mendA l).2.2 ∧ (mendA l).2.2 ≤ 2147483655 := by
  have key : ∀ (l : List Pg) (st : List Pg × List Pg × Int), -1 ≤ st.2.2 ∧ st.2.2 ≤ 2147483655 → -1 ≤ (l.foldl mendF st).2.2 ∧ (l.foldl mendF st).2.2 ≤ 2147483655 := by
    intro l
    induction l with
    | nil => intro st h; exact h
    | cons p l ih => intro st h; exact ih _ (mendF_top h p)
  exact key l _ (by simp)
theorem mendA_len (l : List Pg) : (mendA l).1.length ≤ l.length ∧ (mendA l).2.1.length ≤ l.length := by
  have key : ∀ (l : List Pg) (st : List Pg × List Pg × Int), (l.foldl mendF st).1.length ≤ st.1.length + l.length ∧ (l.foldl mendF st).2.1.length ≤ st.2.1.length + l.length := by
    intro l
    induction l with
    | nil => intro st; simp
    | cons p l ih =>
      intro st
      rw [List.foldl_cons]
      have h1 := ih (mendF st p)
      have h2 : (mendF st p).1.length ≤ st.1.length + 1 ∧ (mendF st p).2.1.length ≤ st.2.1.length + 1 := by
        unfold mendF
        split
        · simp
        · split
          · split
            · simp
            · simp
          · split
            · simp
            · simp
      simp only [List.length_cons]
      omega
  have := key l ([], [], -1)
  simpa [mendA] using this
theorem back_len (gs : List Pg) : ∀ (out : List Pg), (gs.foldl backF out).length ≤ out.length + gs.length := by
  induction gs with
  | nil => intro out; simp
  | cons g gs ih =>
    intro out
    rw [List.foldl_cons]
    have h1 := ih (backF out g)
    have h2 : (backF out g).length ≤ out.length + 1 := by unfold backF; split <;> simp
    simp only [List.length_cons]
    omega
theorem backP_wf {g : Pg} {o : List Pg} {s : Int} (hg : byteB g.body) (h : backOk g o s = true) : (backP g o s).wf := by
  have h1 := pgOk_len (backOk_ok h)
  have h2 := pgOk_seqM (backOk_ok h)
  refine ⟨⟨by omega, by omega⟩, by omega, fun x hx => ?_⟩
  exact sumX_bytes (fun y hy => hg y (List.mem_of_mem_drop hy)) x (List.mem_of_mem_take hx)

structure MdM (w0 W : World) (B b : Nat) (vg vo : Value) (hv gs out : List Pg) (D : Nat → Prop) : Prop where
  old : Below B w0 W
  base : B ≤ W.heap.size
  bB : B ≤ b
  map : MapPg W b D hv
  og : OwnG PgR 5 33 W B D vg gs
  oo : OwnG PgR 5 33 W B D vo out
  dx : ∀ x, D x → x < W.heap.size ∧ x ≠ b ∧ vg.ownBlock ≠ some x ∧ vo.ownBlock ≠ some x
  gb : vg.ownBlock ≠ some b
  ob : vo.ownBlock ≠ some b
  go : ∀ x, vg.ownBlock = some x → vo.ownBlock ≠ some x

section
variable {w0 W W' : World} {B b : Nat} {vg vo : Value} {hv gs out : List Pg} {D : Nat → Prop}
theorem MdM.fresh (h : MdM w0 W B b vg vo hv gs out D) (hb : Below W.heap.size W W') : MdM w0 W' B b vg vo hv gs out D :=
  have hm := Mod.of_fresh (M := fun _ => False) hb
  { old := h.old.trans (hb.mono h.base)
    base := Nat.le_trans h.base hb.size
    bB := h.bB
    map := h.map.keep hm (fun h => h) (fun _ _ _ h => h)
    og := h.og.keep PgR.good hm (fun _ _ _ h => h) (fun _ _ h => h)
    oo := h.oo.keep PgR.good hm (fun _ _ _ h => h) (fun _ _ h => h)
    dx := fun x hx => ⟨Nat.lt_of_lt_of_le (h.dx x hx).1 hb.size, (h.dx x hx).2⟩
    gb := h.gb
    ob := h.ob
    go := h.go }
/-- What the call has laid since may be read too. -/
theorem MdM.more (h : MdM w0 W B b vg vo hv gs out D) (hb : Below W.heap.size W W') : MdM w0 W' B b vg vo hv gs out (fun x => D x ∨ (W.heap.size ≤ x ∧ x < W'.heap.size)) :=
  have h' := h.fresh hb
  have lg := h.og.own_ge
  have lo := h.oo.own_ge
  have lm := h.map.lt
  { h' with
    map := h'.map.weak (fun x hx _ => .inl hx)
    og := h'.og.weak PgR.good (fun x hx _ => .inl hx)
    oo := h'.oo.weak PgR.good (fun x hx _ => .inl hx)
    dx := fun x hx => by
      rcases hx with hx | ⟨h1, h2⟩
      · exact h'.dx x hx
      · exact ⟨h2, by omega, fun e => by have := (lg x e).2; omega, fun e => by have := (lo x e).2; omega⟩ }
theorem MdM.put_ (h : MdM w0 W B b vg vo hv gs out D) {q : Pg} (hm : MapPg W' b D (hv ++ [q])) (hg : W.grownBy W' (some b)) : MdM w0 W' B b vg vo (hv ++ [q]) gs out D :=
  have hM := Mod.of_only (M := (· = b)) hg (fun _ => rfl)
  { old := h.old.trans (hM.below h.base (fun x hx => by have hx' : x = b := hx; have := h.bB; omega))
    base := Nat.le_trans h.base hg.size
    bB := h.bB
    map := hm
    og := h.og.keep PgR.good hM (fun x hx _ e => (h.dx x hx).2.1 e) (fun x hx e => h.gb (by rw [hx]; exact congrArg some e))
    oo := h.oo.keep PgR.good hM (fun x hx _ e => (h.dx x hx).2.1 e) (fun x hx e => h.ob (by rw [hx]; exact congrArg some e))
    dx := fun x hx => ⟨Nat.lt_of_lt_of_le (h.dx x hx).1 hg.size, (h.dx x hx).2⟩
    gb := h.gb
    ob := h.ob
    go := h.go }
theorem MdM.push_o (h : MdM w0 W B b vg vo hv gs out D) {cs : Array Value} {e : TypeId} {v' : Value} {q : Pg} (ho : OwnG PgR 5 33 W' B (fun x => D x ∨ x = W.heap.size) v' (out ++ [q])) (hg : (W.alloc (.cells cs e)).grownBy W' vo.ownBlock) (hv' : v'.ownBlock = vo.ownBlock ∨ v'.ownBlock = some (W.heap.size + 1)) : MdM w0 W' B b vg v' hv gs (out ++ [q]) (fun x => D x ∨ x = W.heap.size) :=
  have hg' := only_trans (only_alloc (only_refl W vo.ownBlock) (.cells cs e)) hg
  have lg := h.og.own_ge
  have lo := h.oo.own_ge
  have lm := h.map.lt
  have hsz : W.heap.size + 1 ≤ W'.heap.size := by have := hg.size; simpa using this
  have hM : Mod (fun x => vo.ownBlock = some x) W W' := Mod.of_grown hg' (fun x e _ => e)
  { old := h.old.trans (hM.below h.base (fun x hx => (lo x hx).1))
    base := by have := h.base; omega
    bB := h.bB
    map := (h.map.keep hM h.ob (fun x hx _ e => (h.dx x hx).2.2.2 e)).weak (fun x hx _ => .inl hx)
    og := (h.og.keep PgR.good hM (fun x hx _ e => (h.dx x hx).2.2.2 e) (fun x hx e => h.go x hx e)).weak PgR.good (fun x hx _ => .inl hx)
    oo := ho
    dx := fun x hx => by
      rcases hx with hx | rfl
      · obtain ⟨a1, a2, a3, a4⟩ := h.dx x hx
        refine ⟨by omega, a2, a3, fun e => ?_⟩
        rcases hv' with hv' | hv'
        · exact a4 (hv' ▸ e)
        · rw [hv'] at e; injection e with e; omega
      · refine ⟨by omega, by omega, fun e => ?_, fun e => ?_⟩
        · have := (lg _ e).2; omega
        · rcases hv' with hv' | hv'
          · have := (lo _ (hv' ▸ e)).2; omega
          · rw [hv'] at e; injection e with e; omega
    gb := h.gb
    ob := fun e => by
      rcases hv' with hv' | hv'
      · exact h.ob (hv' ▸ e)
      · rw [hv'] at e; injection e with e; omega
    go := fun x hx e => by
      rcases hv' with hv' | hv'
      · exact h.go x hx (hv' ▸ e)
      · rw [hv'] at e; injection e with e; have := (lg x hx).2; omega }
theorem MdM.push_g (h : MdM w0 W B b vg vo hv gs out D) {cs : Array Value} {e : TypeId} {v' : Value} {q : Pg} (ho : OwnG PgR 5 33 W' B (fun x => D x ∨ x = W.heap.size) v' (gs ++ [q])) (hg : (W.alloc (.cells cs e)).grownBy W' vg.ownBlock) (hv' : v'.ownBlock = vg.ownBlock ∨ v'.ownBlock = some (W.heap.size + 1)) : MdM w0 W' B b v' vo hv (gs ++ [q]) out (fun x => D x ∨ x = W.heap.size) :=
  have hg' := only_trans (only_alloc (only_refl W vg.ownBlock) (.cells cs e)) hg
  have lg := h.og.own_ge
  have lo := h.oo.own_ge
  have lm := h.map.lt
  have hsz : W.heap.size + 1 ≤ W'.heap.size := by have := hg.size; simpa using this
  have hM : Mod (fun x => vg.ownBlock = some x) W W' := Mod.of_grown hg' (fun x e _ => e)
  { old := h.old.trans (hM.below h.base (fun x hx => (lg x hx).1))
    base := by have := h.base; omega
    bB := h.bB
    map := (h.map.keep hM h.gb (fun x hx _ e => (h.dx x hx).2.2.1 e)).weak (fun x hx _ => .inl hx)
    og := ho
    oo := (h.oo.keep PgR.good hM (fun x hx _ e => (h.dx x hx).2.2.1 e) (fun x hx e => h.go x e hx)).weak PgR.good (fun x hx _ => .inl hx)
    dx := fun x hx => by
      rcases hx with hx | rfl
      · obtain ⟨a1, a2, a3, a4⟩ := h.dx x hx
        refine ⟨by omega, a2, fun e => ?_, a4⟩
        rcases hv' with hv' | hv'
        · exact a3 (hv' ▸ e)
        · rw [hv'] at e; injection e with e; omega
      · refine ⟨by omega, by omega, fun e => ?_, fun e => ?_⟩
        · rcases hv' with hv' | hv'
          · have := (lg _ (hv' ▸ e)).2; omega
          · rw [hv'] at e; injection e with e; omega
        · have := (lo _ e).2; omega
    gb := fun e => by
      rcases hv' with hv' | hv'
      · exact h.gb (hv' ▸ e)
      · rw [hv'] at e; injection e with e; omega
    ob := h.ob
    go := fun x hx e => by
      rcases hv' with hv' | hv'
      · exact h.go x (hv' ▸ hx) e
      · rw [hv'] at hx; injection hx with hx; have := (lo x e).2; omega }
end
end Go.Proofs.Ytdnkdjaokmibjaa
