/- WeaveLive in memory: a Weaver, what was got of it (own slice v), the packet that was taken last (its bytes at A). -/
import Derived.Test.YtnflhogjonlnmaaWvN
import Derived.Test.YtnflhogjonlnmaaPkInfo
set_option linter.unusedSimpArgs false
set_option linter.unusedVariables false
namespace Go.Proofs.Ytnflhogjonlnmaa
open Go.RowKit

def LvM (w0 : World) (X : Nat → Prop) (w : World) (g : Nat) (s : Wv) (v : Value) (got : List Pk) (p : Pk) (A : Option Addr) (c : Nat) : Prop :=
  ∃ F D G : Nat → Prop, WvR w F D g s ∧ (∀ b, F b → w0.heap.size ≤ b ∧ ¬ X b) ∧ (∀ b, D b → w0.heap.size ≤ b ∧ ¬ X b) ∧ (∀ b, X b → b < w.heap.size) ∧
    OwnG PkR 6 40 w w0.heap.size G v got ∧ (∀ b, G b → w0.heap.size ≤ b ∧ b < w.heap.size ∧ ¬ F b ∧ ¬ X b) ∧ (∀ b, v.ownBlock = some b → ¬ F b ∧ ¬ D b ∧ ¬ X b) ∧
    RdS w D .u8 A p.data ∧ p.data.length ≤ c ∧ p.wf ∧ w0.heap.size ≤ w.heap.size
section
variable {w0 w w' : World} {X : Nat → Prop} {g : Nat} {s : Wv} {v : Value} {got : List Pk} {p : Pk} {A : Option Addr} {c : Nat}
theorem LvM.lt (h : LvM w0 X w g s v got p A c) : g < w.heap.size := by obtain ⟨F, D, G, h1, _⟩ := h; exact h1.lt
theorem LvM.ge (h : LvM w0 X w g s v got p A c) : w0.heap.size ≤ w.heap.size := by obtain ⟨F, D, G, h1, h2, h3, h4, h5, h6, h7, h8, h9, h10, h11⟩ := h; exact h11
theorem LvM.Xlt (h : LvM w0 X w g s v got p A c) : ∀ b, X b → b < w.heap.size := by obtain ⟨F, D, G, h1, h2, h3, h4, _⟩ := h; exact h4
theorem LvM.wf (h : LvM w0 X w g s v got p A c) : p.wf ∧ p.data.length ≤ c := by obtain ⟨F, D, G, h1, h2, h3, h4, h5, h6, h7, h8, h9, h10, h11⟩ := h; exact ⟨h10, h9⟩
theorem LvM.keepX (h : LvM w0 X w g s v got p A c) (hm : Mod X w w') : LvM w0 X w' g s v got p A c := by
  obtain ⟨F, D, G, h1, h2, h3, h4, h5, h6, h7, h8, h9, h10, h11⟩ := h
  have hs := hm.size
  exact ⟨F, D, G, h1.keep hm (fun b hb => (h2 b hb).2) (fun b hb => (h3 b hb).2), h2, h3, fun b hb => Nat.lt_of_lt_of_le (h4 b hb) hs, h5.keep PkR.good hm (fun b hb _ => (h6 b hb).2.2.2) (fun b hb => (h7 b hb).2.2),
    fun b hb => ⟨(h6 b hb).1, Nat.lt_of_lt_of_le (h6 b hb).2.1 hs, (h6 b hb).2.2⟩, h7, h8.keep hm (fun b hb _ => (h3 b hb).2), h9, h10, Nat.le_trans h11 hs⟩
theorem LvM.below (h : LvM w0 X w g s v got p A c) (hb : Below w.heap.size w w') : LvM w0 X w' g s v got p A c := h.keepX (Mod.of_fresh hb)
theorem LvM.drewN (h : LvM w0 X w g s v got p A c) (n : Nat) : LvM w0 X (w.drewN n) g s v got p A c := h.keepX ((Mod.refl _ _).drewN n)
theorem LvM.sub (h : LvM w0 X w g s v got p A c) {Y : Nat → Prop} (hy : ∀ b, Y b → X b) : LvM w0 Y w g s v got p A c := by
  obtain ⟨F, D, G, h1, h2, h3, h4, h5, h6, h7, h8, h9, h10, h11⟩ := h
  exact ⟨F, D, G, h1, fun b hb => ⟨(h2 b hb).1, fun hx => (h2 b hb).2 (hy b hx)⟩, fun b hb => ⟨(h3 b hb).1, fun hx => (h3 b hb).2 (hy b hx)⟩, fun b hb => h4 b (hy b hb), h5,
    fun b hb => ⟨(h6 b hb).1, (h6 b hb).2.1, (h6 b hb).2.2.1, fun hx => (h6 b hb).2.2.2 (hy b hx)⟩, fun b hb => ⟨(h7 b hb).1, (h7 b hb).2.1, fun hx => (h7 b hb).2.2 (hy b hx)⟩, h8, h9, h10, h11⟩
/-- What is laid beside it is kept from it. -/
theorem LvM.protect (h : LvM w0 X w g s v got p A c) (hb : Below w.heap.size w w') : LvM w0 (fun b => X b ∨ (w.heap.size ≤ b ∧ b < w'.heap.size)) w' g s v got p A c := by
  have hs := hb.size
  have hk := h.below hb
  obtain ⟨F, D, G, h1, h2, h3, h4, h5, h6, h7, h8, h9, h10, h11⟩ := h
  have hm : Mod (fun _ => False) w w' := Mod.of_fresh hb
  have hlt := h5.own_ge
  refine ⟨F, D, G, h1.below hb, fun b hb => ⟨(h2 b hb).1, fun hx => ?_⟩, fun b hb => ⟨(h3 b hb).1, fun hx => ?_⟩, fun b hx => ?_, h5.keep PkR.good hm (fun _ _ _ h => h) (fun _ _ h => h),
    fun b hb => ⟨(h6 b hb).1, Nat.lt_of_lt_of_le (h6 b hb).2.1 hs, (h6 b hb).2.2.1, fun hx => ?_⟩, fun b hb => ⟨(h7 b hb).1, (h7 b hb).2.1, fun hx => ?_⟩, h8.keep hm (fun _ _ _ h => h), h9, h10, Nat.le_trans h11 hs⟩
  · rcases hx with hx | hx
    · exact (h2 b hb).2 hx
    · have := h1.Flt b hb; omega
  · rcases hx with hx | hx
    · exact (h3 b hb).2 hx
    · have := (h1.Dlt b hb).1; omega
  · rcases hx with hx | hx
    · exact Nat.lt_of_lt_of_le (h4 b hx) hs
    · exact hx.2
  · rcases hx with hx | hx
    · exact (h6 b hb).2.2.2 hx
    · have := (h6 b hb).2.1; omega
  · rcases hx with hx | hx
    · exact (h7 b hb).2.2 hx
    · have := (hlt b hb).2; omega
theorem lv_new {n most : Int} {N : Nat} (hn : n = (N : Int)) (h1 : 1 ≤ N) (h4 : N ≤ 4) (m0 : 0 ≤ most) (m1 : most ≤ 1125899906842624) (w : World) :
    Calls Try.prog 17 #[.int .i64 n, .int .i64 most] w fun e w' => e = .returned (.tuple #[.pointer (some ⟨w.heap.size + 1, 0, none⟩), .int .i64 0]) ∧ LvM w (fun _ => False) w' (w.heap.size + 1) ⟨most, List.replicate N ⟨[], 0, false⟩, 0, 0⟩ (.slice none 0 0) [] pz none 0 ∧ Below w.heap.size w w' := by
  refine (weavenew_ok hn h1 h4 m0 m1 w).mono ?_
  rintro e w' ⟨he, hr, hb⟩
  exact ⟨he, ⟨_, _, fun _ => False, hr, fun b hb' => ⟨by omega, fun h => h⟩, fun b hb' => hb'.elim, fun b h => h.elim, OwnG.nil_ _ _ _ _ _ _, fun b h => h.elim, fun b h => (by cases h), RdS.nil_, Nat.le_refl _, pz_wf, hb.size⟩, hb⟩
theorem lv_put (h : LvM w0 X w g s v got p A c) (q : Pk) (B : Option Addr) (k : Nat) (hw : q.wf) (hr : RdI w w.heap.size .u8 B q.data) :
    Calls Try.prog 18 #[.pointer (some ⟨g, 0, none⟩), q.val B k] w fun e w' => e = .returned (.int .i64 (s.putE q)) ∧ LvM w0 X w' g (s.put q) v got p A c ∧ Mod (Free w0 X) w w' := by
  obtain ⟨F, D, G, h1, h2, h3, h4, h5, h6, h7, h8, h9, h10, h11⟩ := h
  have hlt := h5.own_ge
  refine (wput_any h1 q B k hw hr).mono ?_
  rintro e w' ⟨F', D', he, hr', _, hF', hDD, hD', hm⟩
  refine ⟨he, ⟨F', D', G, hr', fun b hb => ?_, fun b hb => ?_, fun b hb => Nat.lt_of_lt_of_le (h4 b hb) hm.size, h5.keep PkR.good hm (fun b hb _ => (h6 b hb).2.2.1) (fun b hb => (h7 b hb).1),
    fun b hb => ⟨(h6 b hb).1, Nat.lt_of_lt_of_le (h6 b hb).2.1 hm.size, fun hf => ?_, (h6 b hb).2.2.2⟩, fun b hb => ⟨fun hf => ?_, fun hf => ?_, (h7 b hb).2.2⟩, (h8.keep hm (fun b hb _ => (h1.Dlt b hb).2)).weak (fun b hb _ => hDD b hb), h9, h10, Nat.le_trans h11 hm.size⟩, hm.mono (fun b hb _ => h2 b hb)⟩
  · rcases hF' b hb with hb | hb
    · exact h2 b hb
    · exact ⟨by omega, fun hx => by have := h4 b hx; omega⟩
  · rcases hD' b hb with hb | hb
    · exact h3 b hb
    · exact ⟨by omega, fun hx => by have := h4 b hx; omega⟩
  · rcases hF' b hf with hf | hf
    · exact (h6 b hb).2.2.1 hf
    · have := (h6 b hb).2.1; omega
  · rcases hF' b hf with hf | hf
    · exact (h7 b hb).1 hf
    · have := (hlt b hb).2; omega
  · rcases hD' b hf with hf | hf
    · exact (h7 b hb).2.1 hf
    · have := (hlt b hb).2; omega
theorem lv_take (h : LvM w0 X w g s v got p A c) (hl0 : 0 ≤ s.late) (hl1 : s.late ≤ 4611686018427387904) :
    Calls Try.prog 20 #[.pointer (some ⟨g, 0, none⟩)] w fun e w' => ∃ A' c', e = .returned (.tuple #[(s.take.1.getD pz).val A' c', .bool s.take.1.isSome]) ∧ LvM w0 X w' g s.take.2 v got (s.take.1.getD pz) A' c' ∧ Mod (Free w0 X) w w' := by
  obtain ⟨F, D, G, h1, h2, h3, h4, h5, h6, h7, h8, h9, h10, h11⟩ := h
  have hlt := h5.own_ge
  refine (wtake_any h1 hl0 hl1).mono ?_
  rintro e w' ⟨F', A', c', he, hr', _, hF', hm, k1, k2, k3⟩
  refine ⟨A', c', he, ⟨F', D, G, hr', fun b hb => ?_, h3, fun b hb => Nat.lt_of_lt_of_le (h4 b hb) hm.size, h5.keep PkR.good hm (fun b hb _ => (h6 b hb).2.2.1) (fun b hb => (h7 b hb).1),
    fun b hb => ⟨(h6 b hb).1, Nat.lt_of_lt_of_le (h6 b hb).2.1 hm.size, fun hf => ?_, (h6 b hb).2.2.2⟩, fun b hb => ⟨fun hf => ?_, (h7 b hb).2⟩, k1, k2, k3, Nat.le_trans h11 hm.size⟩, hm.mono (fun b hb _ => h2 b hb)⟩
  · rcases hF' b hb with hb | hb
    · exact h2 b hb
    · exact ⟨by omega, fun hx => by have := h4 b hx; omega⟩
  · rcases hF' b hf with hf | hf
    · exact (h6 b hb).2.2.1 hf
    · have := (h6 b hb).2.1; omega
  · rcases hF' b hf with hf | hf
    · exact (h7 b hb).1 hf
    · have := (hlt b hb).2; omega
theorem lv_end (h : LvM w0 X w g s v got p A c) (n : Int) :
    Calls Try.prog 26 #[.pointer (some ⟨g, 0, none⟩), .int .i64 n] w fun e w' => e = .returned (.tuple #[]) ∧ LvM w0 X w' g (s.stop n) v got p A c ∧ Mod (Free w0 X) w w' := by
  obtain ⟨F, D, G, h1, h2, h3, h4, h5, h6, h7, h8, h9, h10, h11⟩ := h
  refine (wend_any h1 n).mono ?_
  rintro e w' ⟨he, hr', hm⟩
  exact ⟨he, ⟨F, D, G, hr', h2, h3, fun b hb => Nat.lt_of_lt_of_le (h4 b hb) hm.size, h5.keep PkR.good hm (fun b hb _ => (h6 b hb).2.2.1) (fun b hb => (h7 b hb).1),
    fun b hb => ⟨(h6 b hb).1, Nat.lt_of_lt_of_le (h6 b hb).2.1 hm.size, (h6 b hb).2.2⟩, h7, h8.keep hm (fun b hb _ => (h1.Dlt b hb).2), h9, h10, Nat.le_trans h11 hm.size⟩, hm.mono (fun b hb _ => h2 b hb)⟩
theorem lv_late (h : LvM w0 X w g s v got p A c) :
    Calls Try.prog 28 #[.pointer (some ⟨g, 0, none⟩)] w fun e w' => e = .returned (.int .i64 s.late) ∧ w = w' := by
  obtain ⟨F, D, G, h1, _⟩ := h
  exact wlate_any h1
/-- The slice of what was got, as it reads. -/
theorem LvM.reads (h : LvM w0 X w g s v got p A c) : ∃ A' c', v = .slice A' got.length c' ∧ got.length ≤ c' ∧ RdG PkR 6 w (fun b => b < w.heap.size) A' got := by
  obtain ⟨F, D, G, h1, h2, h3, h4, h5, h6, h7, h8, h9, h10, h11⟩ := h
  exact h5.reads PkR.good (fun _ _ hl => hl)
theorem LvM.done {v' : Value} (h : LvM w0 X w g s v got p A c) {F D G : Nat → Prop} (h1 : WvR w F D g s) (h2 : ∀ b, F b → w0.heap.size ≤ b ∧ ¬ X b) (h3 : ∀ b, D b → w0.heap.size ≤ b ∧ ¬ X b) (h5 : OwnG PkR 6 40 w w0.heap.size G v got)
    (h6 : ∀ b, G b → w0.heap.size ≤ b ∧ b < w.heap.size ∧ ¬ F b ∧ ¬ X b) (h7 : ∀ b, v.ownBlock = some b → ¬ F b ∧ ¬ D b ∧ ¬ X b) (h8 : RdS w D .u8 A p.data)
    (k1 : OwnG PkR 6 40 w' w0.heap.size (fun b => (G b ∨ D b) ∨ b = w.heap.size) v' (got ++ [p])) (k2 : (w.alloc (.cells (p.cells A c).toArray 40)).grownBy w' v.ownBlock) (k3 : v'.ownBlock = v.ownBlock ∨ v'.ownBlock = some (w.heap.size + 1)) :
    LvM w0 X w' g s v' (got ++ [p]) p A c ∧ Mod (Free w0 X) w w' := by
  have h4 := h.Xlt
  have h11 := h.ge
  obtain ⟨h10, h9⟩ := h.wf
  have hlt := h5.own_ge
  have hm : Mod (fun b => v.ownBlock = some b) w w' := ((Mod.refl _ _).alloc _).then_ (Mod.of_grown k2 (fun g' e _ => e))
  have hsz : w.heap.size < w'.heap.size := by have := k2.size; simp at this; omega
  refine ⟨⟨F, D, _, h1.keep hm (fun b hb e => (h7 b e).1 hb) (fun b hb e => (h7 b e).2.1 hb), h2, h3, fun b hb => Nat.lt_of_lt_of_le (h4 b hb) hm.size, k1, fun b hb => ?_, fun b hb => ?_, h8.keep hm (fun b hb _ e => (h7 b e).2.1 hb), h9, h10, Nat.le_trans h11 hm.size⟩, hm.mono (fun b hb _ => ⟨(hlt b hb).1, (h7 b hb).2.2⟩)⟩
  · rcases hb with (hb | hb) | hb
    · exact ⟨(h6 b hb).1, Nat.lt_trans (h6 b hb).2.1 hsz, (h6 b hb).2.2⟩
    · exact ⟨(h3 b hb).1, Nat.lt_trans (h1.Dlt b hb).1 hsz, (h1.Dlt b hb).2, (h3 b hb).2⟩
    · exact ⟨by omega, by omega, fun hf => by have := h1.Flt b hf; omega, fun hx => by have := h4 b hx; omega⟩
  · rcases k3 with k3 | k3
    · rw [k3] at hb; exact h7 b hb
    · rw [k3] at hb
      injection hb with hb
      exact ⟨fun hf => by have := h1.Flt b hf; omega, fun hf => by have := (h1.Dlt b hf).1; omega, fun hx => by have := h4 b hx; omega⟩
/-- got = append(got, p). -/
theorem lv_step_push {ops : Array Oper} {o : Oper} {a : Act} {K : Act → World → Prop} {E : Prop} {Q : Exit → Act → World → Prop} (hgd : o.guard = none) (S x : Operand)
    (ho : o.op = .call { callee := .builtin .append, args := #[S, x], argTypes := #[49, 49] })
    (h : LvM w0 X w g s v got p A c) (hl : got.length ≤ 1000) (hs : a.eval S = v) {k : Nat} (hx : a.eval x = .slice (some ⟨w.heap.size, 0, none⟩) 1 k)
    (hk : ∀ v' w', LvM w0 X w' g s v' (got ++ [p]) p A c → Mod (Free w0 X) w w' → K (a.put o.dst v') w') : if Region.wanted o (yielded ops a.tmps) = true then Oper.wp Try.prog o a (w.alloc (.cells (p.cells A c).toArray 40)) K Q else E := by
  have hh := h
  obtain ⟨F, D, G, h1, h2, h3, h4, h5, h6, h7, h8, h9, h10, h11⟩ := h
  refine step_push_G hgd S x _ ho PkR.good w (.agg #[.int .i64 0, .int .i64 0, .int .i64 0, .bool false, .bool false, .slice none 0 0]) 56 Try.underlying49 info_pk (by rfl) (by omega) hs h5 D _ k (p.cells A c) p hx rfl ⟨A, c, rfl, h9, h8, h10⟩ (fun b => (G b ∨ D b) ∨ b = w.heap.size) (fun b hb _ => .inl (.inl hb)) (fun b hb _ => .inl (.inr hb)) (fun b hb => (h7 b hb).2.1) (fun b hb => ?_) (.inr rfl) (by omega) h11 (fun v' w' k1 k2 k3 => ?_)
  · rcases hb with (hb | hb) | hb
    · exact Nat.le_of_lt (h6 b hb).2.1
    · exact Nat.le_of_lt (h1.Dlt b hb).1
    · exact Nat.le_of_eq hb
  · obtain ⟨z1, z2⟩ := hh.done h1 h2 h3 h5 h6 h7 h8 k1 k2 k3
    exact hk v' w' z1 z2
theorem lv_push {ops : Array Oper} {rest : List Oper} {o : Oper} {a : Act} {Q : Exit → Act → World → Prop} (hgd : o.guard = none) (S x : Operand)
    (ho : o.op = .call { callee := .builtin .append, args := #[S, x], argTypes := #[49, 49] })
    (h : LvM w0 X w g s v got p A c) (hl : got.length ≤ 1000) (hs : a.eval S = v) {k : Nat} (hx : a.eval x = .slice (some ⟨w.heap.size, 0, none⟩) 1 k)
    (hk : ∀ v' w', LvM w0 X w' g s v' (got ++ [p]) p A c → Mod (Free w0 X) w w' → wpList Try.prog ops Q rest (a.put o.dst v') w') : wpList Try.prog ops Q (o :: rest) a (w.alloc (.cells (p.cells A c).toArray 40)) := by
  have hh := h
  obtain ⟨F, D, G, h1, h2, h3, h4, h5, h6, h7, h8, h9, h10, h11⟩ := h
  refine wpList_push_G hgd S x _ ho PkR.good w (.agg #[.int .i64 0, .int .i64 0, .int .i64 0, .bool false, .bool false, .slice none 0 0]) 56 Try.underlying49 info_pk (by rfl) (by omega) hs h5 D _ k (p.cells A c) p hx rfl ⟨A, c, rfl, h9, h8, h10⟩ (fun b => (G b ∨ D b) ∨ b = w.heap.size) (fun b hb _ => .inl (.inl hb)) (fun b hb _ => .inl (.inr hb)) (fun b hb => (h7 b hb).2.1) (fun b hb => ?_) (.inr rfl) (by omega) h11 (fun v' w' k1 k2 k3 => ?_)
  · rcases hb with (hb | hb) | hb
    · exact Nat.le_of_lt (h6 b hb).2.1
    · exact Nat.le_of_lt (h1.Dlt b hb).1
    · exact Nat.le_of_eq hb
  · obtain ⟨z1, z2⟩ := hh.done h1 h2 h3 h5 h6 h7 h8 k1 k2 k3
    exact hk v' w' z1 z2
end
end Go.Proofs.Ytnflhogjonlnmaa
