/- disk: New, Len, Waits, Write. -/
import Derived.Test.YtdlbjilbdbjadaaDkM
import Derived.BigQuiet
import Derived.Deep.QuietTactic
import Derived.Deep.DeepCutAuto
import Derived.Deep.RegionHeld3
import Derived.WalkSpells
set_option linter.unusedSimpArgs false
set_option linter.unusedVariables false
namespace Go.Proofs.Ytdlbjilbdbjadaa
open Go.RowKit

theorem made_rep (n : Nat) (v : Value) : madeCells (Array.replicate 64 v) n = Array.replicate n v := by
  apply Array.ext
  · simp [size_madeCells]
  · intro i h1 h2
    have h3 : i % 64 < 64 := Nat.mod_lt _ (by omega)
    simp [madeCells, h3]
theorem run_make_se (W : World) (n : Nat) (hn : n ≤ 1000000) : (Instr.makeSlice 66 (.int .i64 (n : Int)) (.int .i64 (n : Int))).run Try.prog W = .ok (.slice (some ⟨W.heap.size, 0, none⟩) n n) (W.alloc (.cells (Array.replicate (64 * n) (.int .u8 0)) 79)) := by
  have h := run_make_any (P := Try.prog) W 66 Try.underlying66 info_se (by omega) .i64 n (by omega)
  have e : (Value.agg (Array.replicate 64 (Value.int .u8 0))).cells = Array.replicate 64 (Value.int .u8 0) := rfl
  rw [e, made_rep, Nat.mul_comm n 64] at h
  exact h
theorem ic_rep (n : Nat) : Array.replicate n (Value.int .u8 0) = (ic .u8 (List.replicate n 0)).toArray := by simp [ic]
/-- The three blocks as laid. -/
theorem dk_start (w W0 : World) (hW : Below w.heap.size w W0) (hs : W0.heap.size = w.heap.size) {N : Nat} (h2 : 2 ≤ N) (h4 : N ≤ 1024) (a b : Nat) (hab : (a = w.heap.size ∧ b = w.heap.size + 1) ∨ (a = w.heap.size + 1 ∧ b = w.heap.size)) :
    DkM (((W0.alloc (.cells (Array.replicate (64 * N) (.int .u8 0)) 79)).alloc (.cells (Array.replicate (64 * N) (.int .u8 0)) 79)).alloc (.cells #[.slice (some ⟨a, 0, none⟩) N N, .slice (some ⟨b, 0, none⟩) N N, .slice none 0 0] 69))
      w.heap.size (w.heap.size + 2) a b (.slice none 0 0) ⟨N, List.replicate (64 * N) 0, List.replicate (64 * N) 0, []⟩ := by
  have k1 := Blk.new W0 79 (Array.replicate (64 * N) (.int .u8 0))
  have b1 := below_alloc (Below.refl W0.heap.size W0) (.cells (Array.replicate (64 * N) (.int .u8 0)) 79)
  have s1 : (W0.alloc (.cells (Array.replicate (64 * N) (.int .u8 0)) 79)).heap.size = w.heap.size + 1 := by simp [hs]
  generalize W0.alloc (.cells (Array.replicate (64 * N) (.int .u8 0)) 79) = W1 at *
  have k2 := Blk.new W1 79 (Array.replicate (64 * N) (.int .u8 0))
  have b2 := below_alloc (Below.refl W1.heap.size W1) (.cells (Array.replicate (64 * N) (.int .u8 0)) 79)
  have s2 : (W1.alloc (.cells (Array.replicate (64 * N) (.int .u8 0)) 79)).heap.size = w.heap.size + 2 := by simp [s1]
  generalize W1.alloc (.cells (Array.replicate (64 * N) (.int .u8 0)) 79) = W2 at *
  have k3 := Blk.new W2 69 #[.slice (some ⟨a, 0, none⟩) N N, .slice (some ⟨b, 0, none⟩) N N, .slice none 0 0]
  have b3 := below_alloc (Below.refl W2.heap.size W2) (.cells #[.slice (some ⟨a, 0, none⟩) N N, .slice (some ⟨b, 0, none⟩) N N, .slice none 0 0] 69)
  have s3 : (W2.alloc (.cells #[.slice (some ⟨a, 0, none⟩) N N, .slice (some ⟨b, 0, none⟩) N N, .slice none 0 0] 69)).heap.size = w.heap.size + 3 := by simp [s2]
  generalize W2.alloc (.cells #[.slice (some ⟨a, 0, none⟩) N N, .slice (some ⟨b, 0, none⟩) N N, .slice none 0 0] 69) = W3 at *
  have q1 := (k1.below b2 k1.lt).below b3 (by omega)
  have q2 := k2.below b3 k2.lt
  rw [s2] at k3
  rw [hs] at q1
  rw [s1] at q2
  rw [ic_rep] at q1 q2
  have hz : ∀ x ∈ List.replicate (64 * N) (0 : Int), 0 ≤ x ∧ x ≤ 255 := fun x hx => by rw [(List.mem_replicate.1 hx).2]; omega
  refine ⟨k3, ?_, ?_, OwnG.nil_ _ _ _ _ _ _, by omega, fun b hb => (by cases hb), by omega, ⟨h2, h4, by simp, by simp, hz, hz, fun x hx => (by cases hx)⟩⟩
  · rcases hab with ⟨rfl, rfl⟩ | ⟨rfl, rfl⟩
    · exact q1
    · exact q2
  · rcases hab with ⟨rfl, rfl⟩ | ⟨rfl, rfl⟩
    · exact q2
    · exact q1
theorem dlen_any {w : World} {base gd gs ge : Nat} {vq : Value} {s : Dk} (h : DkM w base gd gs ge vq s) :
    Calls Try.prog 32 #[.pointer (some ⟨gd, 0, none⟩)] w fun e w' => e = .returned (.int .i64 (s.n : Int)) ∧ w = w' := by
  have c0 := h.bd.cell 0
  have c1 := h.bd.cell 1
  have c2 := h.bd.cell 2
  go_enter Try.func32, Try.ntmps32
  go_wp2
  go_ret
  exact ⟨rfl, rfl⟩
theorem dwaits_any {w : World} {base gd gs ge : Nat} {vq : Value} {s : Dk} (h : DkM w base gd gs ge vq s) :
    Calls Try.prog 37 #[.pointer (some ⟨gd, 0, none⟩)] w fun e w' => e = .returned (.int .i64 (s.qs.length : Int)) ∧ w = w' := by
  obtain ⟨A, c, rfl, _⟩ := h.oq.form WrR.good
  have c2 := h.bd.cell 2
  go_enter Try.func37, Try.ntmps37
  go_wp2
  go_ret
  exact ⟨rfl, rfl⟩
set_option maxRecDepth 100000 in
theorem dnew_any {N : Nat} (h2 : 2 ≤ N) (h4 : N ≤ 1024) (w : World) :
    Calls Try.prog 7 #[.int .i64 (N : Int)] w fun e w' => ∃ gd gs ge, e = .returned (.tuple #[.pointer (some ⟨gd, 0, none⟩), .int .i64 0]) ∧ DkM w' w.heap.size gd gs ge (.slice none 0 0) ⟨N, List.replicate (64 * N) 0, List.replicate (64 * N) 0, []⟩ ∧ Below w.heap.size w w' := by
  have g1 : decide ((N : Int) < 2) = false := decide_eq_false (by omega)
  have g2 : decide (1024 < (N : Int)) = false := decide_eq_false (by omega)
  go_enter Try.func7, Try.ntmps7
  go_wp2_with (fail)
  have hmk := fun W => run_make_se W N (by omega)
  refine wp_region_held_drew (S := (fun _ => True)) (by kernel_rfl) ?_ (fun hHeld => ?_)
  focus exact trivial
  refine wpAnyH_take (i := 0) (v := ?_) rfl (by kernel_rfl) (by kernel_rfl) (by kernel_rfl) (fun _ _ _ h => h) (Or.inl ⟨by kernel_rfl, ?_⟩) (by assumption) ?_
  rotate_left
  focus
    intro w9 hSw
    (try dsimp only at hSw)
    go_simp
    (try with_reducible rfl)
  (try simp only [Act.put, List.getElem_toArray, List.getElem_cons_succ, List.getElem_cons_zero, List.setIfInBounds_toArray, List.set_cons_zero, List.set_cons_succ])
  refine wpAnyH_take (i := 2) (v := ?_) rfl (by kernel_rfl) (by kernel_rfl) (by kernel_rfl) (fun _ _ _ h => h) (Or.inl ⟨by kernel_rfl, ?_⟩) (by assumption) ?_
  rotate_left
  focus
    intro w9 hSw
    (try dsimp only at hSw)
    go_simp
    (try with_reducible rfl)
  (try simp only [Act.put, List.getElem_toArray, List.getElem_cons_succ, List.getElem_cons_zero, List.setIfInBounds_toArray, List.set_cons_zero, List.set_cons_succ])
  refine wpAnyH_ready (rs := [1, 3]) (by kernel_rfl) (by simp) (AllReadyH.cons rfl (fun K hK => ?_) (AllReadyH.cons rfl (fun K hK => ?_) AllReadyH.nil))
  · go_simp
    refine hK.out _ _ ?_ (fun hHeld => ?_)
    focus exact trivial
    clear hK K
    (try simp only [Act.put, List.getElem_toArray, List.getElem_cons_succ, List.getElem_cons_zero, List.setIfInBounds_toArray, List.set_cons_zero, List.set_cons_succ])
    refine wpAnyH_ready (rs := [3]) (by kernel_rfl) (by simp) (AllReadyH.cons rfl (fun K hK => ?_) AllReadyH.nil)
    go_simp
    refine hK.out _ _ ?_ (fun hHeld => ?_)
    focus exact trivial
    clear hK K
    (try simp only [Act.put, List.getElem_toArray, List.getElem_cons_succ, List.getElem_cons_zero, List.setIfInBounds_toArray, List.set_cons_zero, List.set_cons_succ])
    refine wpAnyH_take (i := 4) (v := ?_) rfl (by kernel_rfl) (by kernel_rfl) (by kernel_rfl) (fun _ _ _ h => h) (Or.inl ⟨by kernel_rfl, ?_⟩) (by assumption) ?_
    rotate_left
    focus
      intro w9 hSw
      (try dsimp only at hSw)
      go_simp
      (try with_reducible rfl)
    (try simp only [Act.put, List.getElem_toArray, List.getElem_cons_succ, List.getElem_cons_zero, List.setIfInBounds_toArray, List.set_cons_zero, List.set_cons_succ])
    refine wpAnyH_ready (rs := [5]) (by kernel_rfl) (by simp) (AllReadyH.cons rfl (fun K hK => ?_) AllReadyH.nil)
    go_simp
    refine hK.out _ _ ?_ (fun hHeld => ?_)
    focus exact trivial
    clear hK K
    (try simp only [Act.put, List.getElem_toArray, List.getElem_cons_succ, List.getElem_cons_zero, List.setIfInBounds_toArray, List.set_cons_zero, List.set_cons_succ])
    refine wpAnyH_take (i := 6) (v := ?_) rfl (by kernel_rfl) (by kernel_rfl) (by kernel_rfl) (fun _ _ _ h => h) (Or.inl ⟨by kernel_rfl, ?_⟩) (by assumption) ?_
    rotate_left
    focus
      intro w9 hSw
      (try dsimp only at hSw)
      go_simp
      (try with_reducible rfl)
    (try simp only [Act.put, List.getElem_toArray, List.getElem_cons_succ, List.getElem_cons_zero, List.setIfInBounds_toArray, List.set_cons_zero, List.set_cons_succ])
    refine wpAnyH_take (i := 7) (v := ?_) rfl (by kernel_rfl) (by kernel_rfl) (by kernel_rfl) (fun _ _ _ h => h) (Or.inl ⟨by kernel_rfl, ?_⟩) (by assumption) ?_
    rotate_left
    focus
      intro w9 hSw
      (try dsimp only at hSw)
      go_simp
      (try with_reducible rfl)
    (try simp only [Act.put, List.getElem_toArray, List.getElem_cons_succ, List.getElem_cons_zero, List.setIfInBounds_toArray, List.set_cons_zero, List.set_cons_succ])
    refine wpAnyH_done (by kernel_rfl) ?_ _
    (try simp only [Act.put, List.getElem_toArray, List.getElem_cons_succ, List.getElem_cons_zero, List.setIfInBounds_toArray, List.set_cons_zero, List.set_cons_succ])
    go_wp2
    go_ret2
    have hD := dk_start w w.drew (Below.refl _ _).drew rfl h2 h4 w.heap.size (w.heap.size + 1) (.inl ⟨rfl, rfl⟩)
    exact ⟨_, _, _, by simp, hD, by exact below_alloc (below_alloc (below_alloc (Below.refl _ _).drew _) _) _⟩
  · go_simp
    refine hK.out _ _ ?_ (fun hHeld => ?_)
    focus exact trivial
    clear hK K
    (try simp only [Act.put, List.getElem_toArray, List.getElem_cons_succ, List.getElem_cons_zero, List.setIfInBounds_toArray, List.set_cons_zero, List.set_cons_succ])
    refine wpAnyH_ready (rs := [1]) (by kernel_rfl) (by simp) (AllReadyH.cons rfl (fun K hK => ?_) AllReadyH.nil)
    go_simp
    refine hK.out _ _ ?_ (fun hHeld => ?_)
    focus exact trivial
    clear hK K
    (try simp only [Act.put, List.getElem_toArray, List.getElem_cons_succ, List.getElem_cons_zero, List.setIfInBounds_toArray, List.set_cons_zero, List.set_cons_succ])
    refine wpAnyH_take (i := 4) (v := ?_) rfl (by kernel_rfl) (by kernel_rfl) (by kernel_rfl) (fun _ _ _ h => h) (Or.inl ⟨by kernel_rfl, ?_⟩) (by assumption) ?_
    rotate_left
    focus
      intro w9 hSw
      (try dsimp only at hSw)
      go_simp
      (try with_reducible rfl)
    (try simp only [Act.put, List.getElem_toArray, List.getElem_cons_succ, List.getElem_cons_zero, List.setIfInBounds_toArray, List.set_cons_zero, List.set_cons_succ])
    refine wpAnyH_ready (rs := [5]) (by kernel_rfl) (by simp) (AllReadyH.cons rfl (fun K hK => ?_) AllReadyH.nil)
    go_simp
    refine hK.out _ _ ?_ (fun hHeld => ?_)
    focus exact trivial
    clear hK K
    (try simp only [Act.put, List.getElem_toArray, List.getElem_cons_succ, List.getElem_cons_zero, List.setIfInBounds_toArray, List.set_cons_zero, List.set_cons_succ])
    refine wpAnyH_take (i := 6) (v := ?_) rfl (by kernel_rfl) (by kernel_rfl) (by kernel_rfl) (fun _ _ _ h => h) (Or.inl ⟨by kernel_rfl, ?_⟩) (by assumption) ?_
    rotate_left
    focus
      intro w9 hSw
      (try dsimp only at hSw)
      go_simp
      (try with_reducible rfl)
    (try simp only [Act.put, List.getElem_toArray, List.getElem_cons_succ, List.getElem_cons_zero, List.setIfInBounds_toArray, List.set_cons_zero, List.set_cons_succ])
    refine wpAnyH_take (i := 7) (v := ?_) rfl (by kernel_rfl) (by kernel_rfl) (by kernel_rfl) (fun _ _ _ h => h) (Or.inl ⟨by kernel_rfl, ?_⟩) (by assumption) ?_
    rotate_left
    focus
      intro w9 hSw
      (try dsimp only at hSw)
      go_simp
      (try with_reducible rfl)
    (try simp only [Act.put, List.getElem_toArray, List.getElem_cons_succ, List.getElem_cons_zero, List.setIfInBounds_toArray, List.set_cons_zero, List.set_cons_succ])
    refine wpAnyH_done (by kernel_rfl) ?_ _
    (try simp only [Act.put, List.getElem_toArray, List.getElem_cons_succ, List.getElem_cons_zero, List.setIfInBounds_toArray, List.set_cons_zero, List.set_cons_succ])
    go_wp2
    go_ret2
    have hD := dk_start w w.drew (Below.refl _ _).drew rfl h2 h4 (w.heap.size + 1) w.heap.size (.inr ⟨rfl, rfl⟩)
    exact ⟨_, _, _, by simp, hD, by exact below_alloc (below_alloc (below_alloc (Below.refl _ _).drew _) _) _⟩
end Go.Proofs.Ytdlbjilbdbjadaa
