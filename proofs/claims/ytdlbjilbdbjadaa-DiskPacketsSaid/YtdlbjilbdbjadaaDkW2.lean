/- disk: Write. -/
import Derived.Test.YtdlbjilbdbjadaaDkM
import Derived.BigQuiet
import Derived.Deep.QuietTactic
import Derived.Deep.DeepCutAuto
import Derived.Deep.RegionHeld3
import Derived.WalkSpells
import Derived.Test.YtdlbjilbdbjadaaPicLast
import Derived.Deep.WholeRow
set_option linter.unusedSimpArgs false
set_option linter.unusedVariables false
namespace Go.Proofs.Ytdlbjilbdbjadaa
open Go.RowKit

theorem made_rep (n : Nat) (v : Value) : madeCells (Array.replicate 64 v) n = Array.replicate n v := by
  apply Array.ext
  · simp [size_madeCells]
  · intro i h1 h2
    have h3 : i % 64 < 64 := Nat.mod_lt _ (by omega)
    simp [madeCells, h3]
theorem run_make_se (W : World) (n : Nat) (hn : n ≤ 1000000) : (Instr.makeSlice 66 (.int .i64 (n : Int)) (.int .i64 (n : Int))).run Try.prog W = .ok (.slice (some ⟨W.heap.size, 0, none⟩) n n) (W.alloc (.cells (Array.replicate (64 * n) (.int .u8 0)) 79)) := by
  have h := run_make_any (P := Try.prog) W 66 Try.underlying66 info_se (by omega) .i64 n (by omega)
  have e : (Value.agg (Array.replicate 64 (Value.int .u8 0))).cells = Array.replicate 64 (Value.int .u8 0) := rfl
  rw [e, made_rep, Nat.mul_comm n 64] at h
  exact h
theorem ic_rep (n : Nat) : Array.replicate n (Value.int .u8 0) = (ic .u8 (List.replicate n 0)).toArray := by simp [ic]
/-- The three blocks as laid. -/
theorem dk_start (w W0 : World) (hW : Below w.heap.size w W0) (hs : W0.heap.size = w.heap.size) {N : Nat} (h2 : 2 ≤ N) (h4 : N ≤ 1024) (a b : Nat) (hab : (a = w.heap.size ∧ b = w.heap.size + 1) ∨ (a = w.heap.size + 1 ∧ b = w.heap.size)) :
    DkM (((W0.alloc (.cells (Array.replicate (64 * N) (.int .u8 0)) 79)).alloc (.cells (Array.replicate (64 * N) (.int .u8 0)) 79)).alloc (.cells #[.slice (some ⟨a, 0, none⟩) N N, .slice (some ⟨b, 0, none⟩) N N, .slice none 0 0] 69))
      w.heap.size (w.heap.size + 2) a b (.slice none 0 0) ⟨N, List.replicate (64 * N) 0, List.replicate (64 * N) 0, []⟩ := by
  have k1 := Blk.new W0 79 (Array.replicate (64 * N) (.int .u8 0))
  have b1 := below_alloc (Below.refl W0.heap.size W0) (.cells (Array.replicate (64 * N) (.int .u8 0)) 79)
  have s1 : (W0.alloc (.cells (Array.replicate (64 * N) (.int .u8 0)) 79)).heap.size = w.heap.size + 1 := by simp [hs]
  generalize W0.alloc (.cells (Array.replicate (64 * N) (.int .u8 0)) 79) = W1 at *
  have k2 := Blk.new W1 79 (Array.replicate (64 * N) (.int .u8 0))
  have b2 := below_alloc (Below.refl W1.heap.size W1) (.cells (Array.replicate (64 * N) (.int .u8 0)) 79)
  have s2 : (W1.alloc (.cells (Array.replicate (64 * N) (.int .u8 0)) 79)).heap.size = w.heap.size + 2 := by simp [s1]
  generalize W1.alloc (.cells (Array.replicate (64 * N) (.int .u8 0)) 79) = W2 at *
  have k3 := Blk.new W2 69 #[.slice (some ⟨a, 0, none⟩) N N, .slice (some ⟨b, 0, none⟩) N N, .slice none 0 0]
  have b3 := below_alloc (Below.refl W2.heap.size W2) (.cells #[.slice (some ⟨a, 0, none⟩) N N, .slice (some ⟨b, 0, none⟩) N N, .slice none 0 0] 69)
  have s3 : (W2.alloc (.cells #[.slice (some ⟨a, 0, none⟩) N N, .slice (some ⟨b, 0, none⟩) N N, .slice none 0 0] 69)).heap.size = w.heap.size + 3 := by simp [s2]
  generalize W2.alloc (.cells #[.slice (some ⟨a, 0, none⟩) N N, .slice (some ⟨b, 0, none⟩) N N, .slice none 0 0] 69) = W3 at *
  have q1 := (k1.below b2 k1.lt).below b3 (by omega)
  have q2 := k2.below b3 k2.lt
  rw [s2] at k3
  rw [hs] at q1
  rw [s1] at q2
  rw [ic_rep] at q1 q2
  have hz : ∀ x ∈ List.replicate (64 * N) (0 : Int), 0 ≤ x ∧ x ≤ 255 := fun x hx => by rw [(List.mem_replicate.1 hx).2]; omega
  refine ⟨k3, ?_, ?_, OwnG.nil_ _ _ _ _ _ _, by omega, fun b hb => (by cases hb), by omega, ⟨h2, h4, by simp, by simp, hz, hz, fun x hx => (by cases hx)⟩⟩
  · rcases hab with ⟨rfl, rfl⟩ | ⟨rfl, rfl⟩
    · exact q1
    · exact q2
  · rcases hab with ⟨rfl, rfl⟩ | ⟨rfl, rfl⟩
    · exact q2
    · exact q1
theorem dlen_any {w : World} {base gd gs ge : Nat} {vq : Value} {s : Dk} (h : DkM w base gd gs ge vq s) :
    Calls Try.prog 32 #[.pointer (some ⟨gd, 0, none⟩)] w fun e w' => e = .returned (.int .i64 (s.n : Int)) ∧ w = w' := by
  have c0 := h.bd.cell 0
  have c1 := h.bd.cell 1
  have c2 := h.bd.cell 2
  go_enter Try.func32, Try.ntmps32
  go_wp2
  go_ret
  exact ⟨rfl, rfl⟩
theorem dwaits_any {w : World} {base gd gs ge : Nat} {vq : Value} {s : Dk} (h : DkM w base gd gs ge vq s) :
    Calls Try.prog 37 #[.pointer (some ⟨gd, 0, none⟩)] w fun e w' => e = .returned (.int .i64 (s.qs.length : Int)) ∧ w = w' := by
  obtain ⟨A, c, rfl, _⟩ := h.oq.form WrR.good
  have c2 := h.bd.cell 2
  go_enter Try.func37, Try.ntmps37
  go_wp2
  go_ret
  exact ⟨rfl, rfl⟩
set_option maxRecDepth 100000 in
theorem dnew_any {N : Nat} (h2 : 2 ≤ N) (h4 : N ≤ 1024) (w : World) :
    Calls Try.prog 7 #[.int .i64 (N : Int)] w fun e w' => ∃ gd gs ge, e = .returned (.tuple #[.pointer (some ⟨gd, 0, none⟩), .int .i64 0]) ∧ DkM w' w.heap.size gd gs ge (.slice none 0 0) ⟨N, List.replicate (64 * N) 0, List.replicate (64 * N) 0, []⟩ ∧ Below w.heap.size w w' := by
  have g1 : decide ((N : Int) < 2) = false := decide_eq_false (by omega)
  have g2 : decide (1024 < (N : Int)) = false := decide_eq_false (by omega)
  go_enter Try.func7, Try.ntmps7
  go_wp2_with (fail)
  have hmk := fun W => run_make_se W N (by omega)
  refine wp_region_held_drew (S := (fun _ => True)) (by kernel_rfl) ?_ (fun hHeld => ?_)
  focus exact trivial
  refine wpAnyH_take (i := 0) (v := ?_) rfl (by kernel_rfl) (by kernel_rfl) (by kernel_rfl) (fun _ _ _ h => h) (Or.inl ⟨by kernel_rfl, ?_⟩) (by assumption) ?_
  rotate_left
  focus
    intro w9 hSw
    (try dsimp only at hSw)
    go_simp
    (try with_reducible rfl)
  (try simp only [Act.put, List.getElem_toArray, List.getElem_cons_succ, List.getElem_cons_zero, List.setIfInBounds_toArray, List.set_cons_zero, List.set_cons_succ])
  refine wpAnyH_take (i := 2) (v := ?_) rfl (by kernel_rfl) (by kernel_rfl) (by kernel_rfl) (fun _ _ _ h => h) (Or.inl ⟨by kernel_rfl, ?_⟩) (by assumption) ?_
  rotate_left
  focus
    intro w9 hSw
    (try dsimp only at hSw)
    go_simp
    (try with_reducible rfl)
  (try simp only [Act.put, List.getElem_toArray, List.getElem_cons_succ, List.getElem_cons_zero, List.setIfInBounds_toArray, List.set_cons_zero, List.set_cons_succ])
  refine wpAnyH_ready (rs := [1, 3]) (by kernel_rfl) (by simp) (AllReadyH.cons rfl (fun K hK => ?_) (AllReadyH.cons rfl (fun K hK => ?_) AllReadyH.nil))
  · go_simp
    refine hK.out _ _ ?_ (fun hHeld => ?_)
    focus exact trivial
    clear hK K
    (try simp only [Act.put, List.getElem_toArray, List.getElem_cons_succ, List.getElem_cons_zero, List.setIfInBounds_toArray, List.set_cons_zero, List.set_cons_succ])
    refine wpAnyH_ready (rs := [3]) (by kernel_rfl) (by simp) (AllReadyH.cons rfl (fun K hK => ?_) AllReadyH.nil)
    go_simp
    refine hK.out _ _ ?_ (fun hHeld => ?_)
    focus exact trivial
    clear hK K
    (try simp only [Act.put, List.getElem_toArray, List.getElem_cons_succ, List.getElem_cons_zero, List.setIfInBounds_toArray, List.set_cons_zero, List.set_cons_succ])
    refine wpAnyH_take (i := 4) (v := ?_) rfl (by kernel_rfl) (by kernel_rfl) (by kernel_rfl) (fun _ _ _ h => h) (Or.inl ⟨by kernel_rfl, ?_⟩) (by assumption) ?_
    rotate_left
    focus
      intro w9 hSw
      (try dsimp only at hSw)
      go_simp
      (try with_reducible rfl)
    (try simp only [Act.put, List.getElem_toArray, List.getElem_cons_succ, List.getElem_cons_zero, List.setIfInBounds_toArray, List.set_cons_zero, List.set_cons_succ])
    refine wpAnyH_ready (rs := [5]) (by kernel_rfl) (by simp) (AllReadyH.cons rfl (fun K hK => ?_) AllReadyH.nil)
    go_simp
    refine hK.out _ _ ?_ (fun hHeld => ?_)
    focus exact trivial
    clear hK K
    (try simp only [Act.put, List.getElem_toArray, List.getElem_cons_succ, List.getElem_cons_zero, List.setIfInBounds_toArray, List.set_cons_zero, List.set_cons_succ])
    refine wpAnyH_take (i := 6) (v := ?_) rfl (by kernel_rfl) (by kernel_rfl) (by kernel_rfl) (fun _ _ _ h => h) (Or.inl ⟨by kernel_rfl, ?_⟩) (by assumption) ?_
    rotate_left
    focus
      intro w9 hSw
      (try dsimp only at hSw)
      go_simp
      (try with_reducible rfl)
    (try simp only [Act.put, List.getElem_toArray, List.getElem_cons_succ, List.getElem_cons_zero, List.setIfInBounds_toArray, List.set_cons_zero, List.set_cons_succ])
    refine wpAnyH_take (i := 7) (v := ?_) rfl (by kernel_rfl) (by kernel_rfl) (by kernel_rfl) (fun _ _ _ h => h) (Or.inl ⟨by kernel_rfl, ?_⟩) (by assumption) ?_
    rotate_left
    focus
      intro w9 hSw
      (try dsimp only at hSw)
      go_simp
      (try with_reducible rfl)
    (try simp only [Act.put, List.getElem_toArray, List.getElem_cons_succ, List.getElem_cons_zero, List.setIfInBounds_toArray, List.set_cons_zero, List.set_cons_succ])
    refine wpAnyH_done (by kernel_rfl) ?_ _
    (try simp only [Act.put, List.getElem_toArray, List.getElem_cons_succ, List.getElem_cons_zero, List.setIfInBounds_toArray, List.set_cons_zero, List.set_cons_succ])
    go_wp2
    go_ret2
    have hD := dk_start w w.drew (Below.refl _ _).drew rfl h2 h4 w.heap.size (w.heap.size + 1) (.inl ⟨rfl, rfl⟩)
    exact ⟨_, _, _, by simp, hD, by exact below_alloc (below_alloc (below_alloc (Below.refl _ _).drew _) _) _⟩
  · go_simp
    refine hK.out _ _ ?_ (fun hHeld => ?_)
    focus exact trivial
    clear hK K
    (try simp only [Act.put, List.getElem_toArray, List.getElem_cons_succ, List.getElem_cons_zero, List.setIfInBounds_toArray, List.set_cons_zero, List.set_cons_succ])
    refine wpAnyH_ready (rs := [1]) (by kernel_rfl) (by simp) (AllReadyH.cons rfl (fun K hK => ?_) AllReadyH.nil)
    go_simp
    refine hK.out _ _ ?_ (fun hHeld => ?_)
    focus exact trivial
    clear hK K
    (try simp only [Act.put, List.getElem_toArray, List.getElem_cons_succ, List.getElem_cons_zero, List.setIfInBounds_toArray, List.set_cons_zero, List.set_cons_succ])
    refine wpAnyH_take (i := 4) (v := ?_) rfl (by kernel_rfl) (by kernel_rfl) (by kernel_rfl) (fun _ _ _ h => h) (Or.inl ⟨by kernel_rfl, ?_⟩) (by assumption) ?_
    rotate_left
    focus
      intro w9 hSw
      (try dsimp only at hSw)
      go_simp
      (try with_reducible rfl)
    (try simp only [Act.put, List.getElem_toArray, List.getElem_cons_succ, List.getElem_cons_zero, List.setIfInBounds_toArray, List.set_cons_zero, List.set_cons_succ])
    refine wpAnyH_ready (rs := [5]) (by kernel_rfl) (by simp) (AllReadyH.cons rfl (fun K hK => ?_) AllReadyH.nil)
    go_simp
    refine hK.out _ _ ?_ (fun hHeld => ?_)
    focus exact trivial
    clear hK K
    (try simp only [Act.put, List.getElem_toArray, List.getElem_cons_succ, List.getElem_cons_zero, List.setIfInBounds_toArray, List.set_cons_zero, List.set_cons_succ])
    refine wpAnyH_take (i := 6) (v := ?_) rfl (by kernel_rfl) (by kernel_rfl) (by kernel_rfl) (fun _ _ _ h => h) (Or.inl ⟨by kernel_rfl, ?_⟩) (by assumption) ?_
    rotate_left
    focus
      intro w9 hSw
      (try dsimp only at hSw)
      go_simp
      (try with_reducible rfl)
    (try simp only [Act.put, List.getElem_toArray, List.getElem_cons_succ, List.getElem_cons_zero, List.setIfInBounds_toArray, List.set_cons_zero, List.set_cons_succ])
    refine wpAnyH_take (i := 7) (v := ?_) rfl (by kernel_rfl) (by kernel_rfl) (by kernel_rfl) (fun _ _ _ h => h) (Or.inl ⟨by kernel_rfl, ?_⟩) (by assumption) ?_
    rotate_left
    focus
      intro w9 hSw
      (try dsimp only at hSw)
      go_simp
      (try with_reducible rfl)
    (try simp only [Act.put, List.getElem_toArray, List.getElem_cons_succ, List.getElem_cons_zero, List.setIfInBounds_toArray, List.set_cons_zero, List.set_cons_succ])
    refine wpAnyH_done (by kernel_rfl) ?_ _
    (try simp only [Act.put, List.getElem_toArray, List.getElem_cons_succ, List.getElem_cons_zero, List.setIfInBounds_toArray, List.set_cons_zero, List.set_cons_succ])
    go_wp2
    go_ret2
    have hD := dk_start w w.drew (Below.refl _ _).drew rfl h2 h4 (w.heap.size + 1) w.heap.size (.inr ⟨rfl, rfl⟩)
    exact ⟨_, _, _, by simp, hD, by exact below_alloc (below_alloc (below_alloc (Below.refl _ _).drew _) _) _⟩
end Go.Proofs.Ytdlbjilbdbjadaa

namespace Go.Proofs.Ytdlbjilbdbjadaa
open Go.RowKit

def Dk.write (s : Dk) (N : Nat) (b : List Int) : Dk := ⟨s.n, s.sto, updB s.see (64 * N) b, s.qs ++ [(N, b)]⟩
def zWr : Array Value := (.int .i64 0 :: ic .u8 (List.replicate 64 0)).toArray
def rWr (N : Nat) (b : List Int) : List Value := .int .i64 (N : Int) :: ic .u8 b
theorem zWr_ne : (zWr = #[]) = False := eq_false (fun h => by simpa [zWr] using congrArg Array.size h)
def z64 : List Int := List.replicate 64 0
theorem z64_len : z64.length = 64 := by simp [z64]
theorem zWr_set (N : Nat) : zWr.setIfInBounds 0 (.int .i64 (N : Int)) = (rWr N z64).toArray := by simp [zWr, rWr, z64]
theorem rWr_len (N : Nat) {b : List Int} (h : b.length = 64) : (rWr N b).length = 65 := by simp [rWr, ic_length, h]
theorem zWr_size : zWr.size = 65 := by simp [zWr, ic_length]
theorem rWr_cell (N : Nat) (b : List Int) : ∀ v ∈ rWr N b, v.oneCell' = true := fun v hv => by
  rcases List.mem_cons.1 hv with rfl | hv
  · rfl
  · exact ic_cell _ _ v hv
theorem zero_wr (w : World) : (zeroValue 81).run Try.prog w = .ok (.agg zWr) w := (zero_of_info (P := Try.prog) (v := .agg zWr) (n := 65) (by kernel_rfl)).1 w

set_option maxHeartbeats 4000000 in
set_option maxRecDepth 100000 in
theorem dwrite_any {w : World} {base gd gs ge : Nat} {vq : Value} {s : Dk} (h : DkM w base gd gs ge vq s) {N : Nat} (hN : N < s.n) (A : Option Addr) (c : Nat) (b : List Int) (hb : b.length = 64) (hbb : byteB b) (hq : s.qs.length ≤ 1000000) (hr : RdI w w.heap.size .u8 A b) :
    Calls Try.prog 20 #[.pointer (some ⟨gd, 0, none⟩), .int .i64 (N : Int), .slice A b.length c] w fun e w' => e = .returned (.int .i64 0) ∧ ∃ vq', DkM w' base gd gs ge vq' (s.write N b) ∧ Mod (dkF gd gs ge vq) w w' ∧ (∀ x, vq'.ownBlock = some x → vq.ownBlock = some x ∨ w.heap.size ≤ x) := by
  have c0 := h.bd.cell 0
  have c1 := h.bd.cell 1
  have c2 := h.bd.cell 2
  have g1 : decide ((N : Int) < 0) = false := decide_eq_false (by omega)
  have g2 : decide ((s.n : Int) ≤ (N : Int)) = false := decide_eq_false (by omega)
  have g3 : decide (s.n ≤ N) = false := decide_eq_false (by omega)
  obtain ⟨ad, rfl, _, hcell⟩ := Rd.addr hr (by omega)
  obtain ⟨Aq, cq, hvq, hcq, hrq, hoq⟩ := h.oq.form WrR.good
  have hD := Lib.hid h
  subst hvq
  rw [hb]
  go_enter Try.func20, Try.ntmps20
  have hz0 := zero_wr
  have hz1 := zWr_ne
  have hz2 := zWr_set N
  have hst : (storeCells ⟨w.heap.size, 0, none⟩ (rWr N z64) 0).run Try.prog (w.alloc (.cells zWr 81)) = .ok () (w.alloc (.cells (rWr N z64).toArray 81)) := by
    have h1 := run_storeCells_new (P := Try.prog) w 81 zWr (rWr N z64).toArray (by rw [List.size_toArray, rWr_len N z64_len]; exact size_wr) (by simp [zWr_size, rWr_len N z64_len]) (by rw [List.all_toArray, List.all_eq_true]; exact rWr_cell N z64)
    exact h1
  go_upto_region 6 with (fail)
  clear hst hz0 hz1 hz2
  have k1 := Blk.new w 81 (rWr N z64).toArray
  have b1 := below_alloc (Below.refl w.heap.size w) (.cells (rWr N z64).toArray 81)
  have hs1 : (w.alloc (.cells (rWr N z64).toArray 81)).heap.size = w.heap.size + 1 := by simp
  generalize w.alloc (.cells (rWr N z64).toArray 81) = w1 at *
  have e1 : putAt (rWr N z64) 1 (ic .u8 b) = rWr N b := by
    simp [putAt, rWr, ic_length, hb, z64]
  have hcp : ∀ ty, (Builtin.copy_ #[36, 36] ty #[.slice (some ⟨w.heap.size, 1, none⟩) 64 64, .slice (some ad) 64 c]).run Try.prog w1 = .ok (goInt 64) (w1.setRow w.heap.size (rWr N b).toArray) := fun ty => by
    have h1 := run_copy_row Try.prog w1 36 36 ty 5 w.heap.size 1 64 64 ad 64 c _ _ (ic .u8 b) Try.underlying36 (by kernel_rfl) k1 (by rw [ic_length, hb]; rfl) (fun j v hv => (b1.cell (World.block_lt_of_cell? w _ (hcell j v hv))).trans (hcell j v hv)) (by rw [ic_length, hb, List.size_toArray, rWr_len N z64_len]; omega) (ic_cell _ _)
    rw [ic_length, hb] at h1
    rw [h1, ← e1]
    simp [putAt, ic_length, hb]
  go_upto_region 7 with (fail)
  clear hcp e1
  have k2 := k1.setRow (rWr N b).toArray
  have m2 : Mod (· = w.heap.size) w1 (w1.setRow w.heap.size (rWr N b).toArray) := (Mod.refl (fun x => x = w.heap.size) w1).setRow (fun _ => rfl) _
  generalize w1.setRow w.heap.size (rWr N b).toArray = w2 at *
  have hm2 : Mod (fun _ => False) w w2 := (Mod.of_fresh (M := fun _ => False) b1).trans (M' := (· = w.heap.size)) m2 (fun b e hb => by subst e; exact absurd hb (Nat.lt_irrefl _))
  have hD2 := hD.out.keep hm2 (fun _ _ h => h)
  have c2' := hD2.bd.cell 2
  have f2' := hD2.bd.frozen 2
  have hoq2 := hD2.oq
  have hs2 : w2.heap.size = w.heap.size + 1 ∨ w.heap.size + 1 ≤ w2.heap.size := by have := m2.size; omega
  replace hD2 := Lib.hid hD2
  clear c0 c1 c2 h hrq hoq k1 b1 m2
  have hbs := fun W => run_build1 (P := Try.prog) W 67 81 (rWr N b) Try.underlying67 info_wr (rWr_len N hb) (by omega) (by omega)
  have hld := fun (w9 : World) (h9 : Blk w9 w.heap.size 81 (rWr N b).toArray) => (show ∀ (j : Nat) (v : Value), (rWr N b)[j]? = some v → w9.cell? ((⟨w.heap.size, 0, none⟩ : Addr).add j) = some v from fun j v hv => by rw [add_mk, Nat.zero_add, h9.cell j, List.getElem?_toArray]; exact hv)
  have hsz : (Try.prog.info? 81).map (·.size) = some (rWr N b).length := by rw [rWr_len N hb]; exact size_wr
  replace hld := Lib.hid hld
  replace hsz := Lib.hid hsz
  refine wp_region_last (S := (fun w' => w'.cell? ⟨gd, 2, none⟩ = some (.slice Aq s.qs.length cq) ∧ Blk w' w.heap.size 81 (rWr N b).toArray)) 10 _ (by simp only [List.pop_toArray, List.dropLast_cons_cons, List.dropLast_singleton]; rfl) (by kernel_rfl) (by kernel_rfl) (by kernel_rfl) (by kernel_rfl) (by kernel_rfl) ?_ (fun hHeld => ?_)
  focus exact ⟨c2', k2⟩
  refine wpAnyH_take (i := 0) (v := ?_) rfl (by kernel_rfl) (by kernel_rfl) (by kernel_rfl) (fun _ _ _ h => h) (Or.inl ⟨by kernel_rfl, ?_⟩) (by assumption) ?_
  rotate_left
  focus
    intro w9 hSw
    (try dsimp only at hSw)
    go_simp
    (try with_reducible rfl)
  (try simp only [Act.put, List.getElem_toArray, List.getElem_cons_succ, List.getElem_cons_zero, List.setIfInBounds_toArray, List.set_cons_zero, List.set_cons_succ])
  refine wpAnyH_take (i := 1) (v := ?_) rfl (by kernel_rfl) (by kernel_rfl) (by kernel_rfl) (fun _ _ _ h => h) (Or.inl ⟨by kernel_rfl, ?_⟩) (by assumption) ?_
  rotate_left
  focus
    intro w9 hSw
    (try dsimp only at hSw)
    go_simp
    (try with_reducible rfl)
  (try simp only [Act.put, List.getElem_toArray, List.getElem_cons_succ, List.getElem_cons_zero, List.setIfInBounds_toArray, List.set_cons_zero, List.set_cons_succ])
  refine wpAnyH_take (i := 2) (v := ?_) rfl (by kernel_rfl) (by kernel_rfl) (by kernel_rfl) (fun _ _ _ h => h) (Or.inl ⟨by kernel_rfl, ?_⟩) (by assumption) ?_
  rotate_left
  focus
    intro w9 hSw
    (try dsimp only at hSw)
    go_simp
    (try with_reducible rfl)
  (try simp only [Act.put, List.getElem_toArray, List.getElem_cons_succ, List.getElem_cons_zero, List.setIfInBounds_toArray, List.set_cons_zero, List.set_cons_succ])
  refine wpAnyH_take (i := 3) (v := ?_) rfl (by kernel_rfl) (by kernel_rfl) (by kernel_rfl) (fun _ _ _ h => h) (Or.inl ⟨by kernel_rfl, ?_⟩) (by assumption) ?_
  rotate_left
  focus
    intro w9 hSw
    (try dsimp only at hSw)
    go_simp
    (try with_reducible rfl)
  (try simp only [Act.put, List.getElem_toArray, List.getElem_cons_succ, List.getElem_cons_zero, List.setIfInBounds_toArray, List.set_cons_zero, List.set_cons_succ])
  refine wpAnyH_take (i := 4) (v := ?_) rfl (by kernel_rfl) (by kernel_rfl) (by kernel_rfl) (fun _ _ _ h => h) (Or.inl ⟨by kernel_rfl, ?_⟩) (by assumption) ?_
  rotate_left
  focus
    intro w9 hSw
    (try dsimp only at hSw)
    go_simp
    (try with_reducible rfl)
  (try simp only [Act.put, List.getElem_toArray, List.getElem_cons_succ, List.getElem_cons_zero, List.setIfInBounds_toArray, List.set_cons_zero, List.set_cons_succ])
  refine wpAnyH_take (i := 5) (v := .agg (rWr N b).toArray) rfl (by kernel_rfl) (by kernel_rfl) (by kernel_rfl) (fun _ _ _ h => h) (Or.inl ⟨by kernel_rfl, fun w9 h9 => yields_load 81 (.tmp 7) rfl ⟨w.heap.size, 0, none⟩ rfl (rWr N b) _ Try.underlying81 rfl hsz.out (hld.out w9 h9.2)⟩) (by assumption) ?_
  (try simp only [Act.put, List.getElem_toArray, List.getElem_cons_succ, List.getElem_cons_zero, List.setIfInBounds_toArray, List.set_cons_zero, List.set_cons_succ])
  refine wpAnyH_ready (rs := [6]) (by kernel_rfl) (by simp) (AllReadyH.cons rfl (fun K hK => ?_) AllReadyH.nil)
  refine step_build1 (by rfl) 67 81 (.tmp 33) (by rfl) (rWr N b) (by rfl) Try.underlying67 info_wr (rWr_len N hb) (by omega) (by omega) ?_
  have bl1 : Below w2.heap.size w2 (w2.drew.alloc (.cells (rWr N b).toArray 81)) := below_alloc (Below.refl _ _).drew _
  refine hK.out _ _ ?_ (fun hHeld => ?_)
  focus exact ⟨(bl1.cell (hD2.out.bd.lt)).trans c2', k2.below bl1 k2.lt⟩
  clear hK K
  (try simp only [Act.put, List.getElem_toArray, List.getElem_cons_succ, List.getElem_cons_zero, List.setIfInBounds_toArray, List.set_cons_zero, List.set_cons_succ])
  refine wpAnyH_ready (rs := [7]) (by kernel_rfl) (by simp) (AllReadyH.cons rfl (fun K hK => ?_) AllReadyH.nil)
  refine step_push_G (by rfl) (.tmp 32) (.tmp 34) _ (by rfl) WrR.good w2.drew (.agg (Array.replicate 65 (.int .u8 0) |>.setIfInBounds 0 (.int .i64 0))) 72 Try.underlying67 info_wr (by simp [Value.cells]) (by omega) (by rfl) (show OwnG WrR 65 81 w2.drew base (fun _ => False) (.slice Aq s.qs.length cq) s.qs from hoq2) (fun _ => False) _ _ (rWr N b) (N, b) (by rfl) (by rfl) (show WrR _ _ _ _ from ⟨rfl, hb⟩) (fun b => b = w2.heap.size) (fun _ h _ => False.elim h) (fun _ h _ => False.elim h) (fun _ _ h => h) (fun b hb => Nat.le_of_eq hb) rfl (by omega) (by exact hD2.out.ge_.2.2.2) ?_
  intro v5 w5 ow5 hg5 hv5
  obtain ⟨A5, c5, hv5e, _, _⟩ := ow5.form WrR.good
  rw [List.length_append, List.length_singleton] at hv5e
  subst hv5e
  have hv5' : (Value.slice A5 (s.qs.length + 1) c5).ownBlock = (Value.slice Aq s.qs.length cq).ownBlock ∨ (Value.slice A5 (s.qs.length + 1) c5).ownBlock = some (w2.heap.size + 1) := hv5
  have hg5' : (w2.drew.alloc (.cells (rWr N b).toArray 81)).grownBy w5 (Value.slice Aq s.qs.length cq).ownBlock := hg5
  clear hv5 hg5
  have hM5 : Mod (fun b => (Value.slice Aq s.qs.length cq).ownBlock = some b) w2 w5 := (Mod.of_fresh bl1).then_ (Mod.of_grown hg5' (fun x e _ => e))
  have hnq := hD2.out.nq
  have n1 : ¬ (Value.slice Aq s.qs.length cq).ownBlock = some gd := fun e => (hnq _ e).1 rfl
  have n2 : ¬ (Value.slice Aq s.qs.length cq).ownBlock = some w.heap.size := fun e => by have := (hD.out.oq.own_ge _ e).2; omega
  have c2b := hM5.cell c2' n1
  have k5 := k2.mod hM5 n2
  refine hK.out _ _ ?_ (fun hHeld => ?_)
  focus exact ⟨c2b, k5⟩
  clear hK K
  (try simp only [Act.put, List.getElem_toArray, List.getElem_cons_succ, List.getElem_cons_zero, List.setIfInBounds_toArray, List.set_cons_zero, List.set_cons_succ])
  refine wpAnyH_take (i := 8) (v := ?_) rfl (by kernel_rfl) (by kernel_rfl) (by kernel_rfl) (fun _ _ _ h => h) (Or.inl ⟨by kernel_rfl, ?_⟩) (by assumption) ?_
  rotate_left
  focus
    intro w9 hSw
    (try dsimp only at hSw)
    go_simp
    (try with_reducible rfl)
  (try simp only [Act.put, List.getElem_toArray, List.getElem_cons_succ, List.getElem_cons_zero, List.setIfInBounds_toArray, List.set_cons_zero, List.set_cons_succ])
  refine wpAnyH_take (i := 9) (v := ?_) rfl (by kernel_rfl) (by kernel_rfl) (by kernel_rfl) (fun _ _ _ h => h) (Or.inl ⟨by kernel_rfl, ?_⟩) (by assumption) ?_
  rotate_left
  focus
    intro w9 hSw
    (try dsimp only at hSw)
    go_simp
    (try with_reducible rfl)
  (try simp only [Act.put, List.getElem_toArray, List.getElem_cons_succ, List.getElem_cons_zero, List.setIfInBounds_toArray, List.set_cons_zero, List.set_cons_succ])
  have f2b := (hM5.frozen hD2.out.bd.lt n1).trans f2'
  refine wpAnyH_done (by kernel_rfl) (lastQ_step rfl (fun K hK => ?_)) _
  go_simp
  refine hK _ _ ?_
  clear hK K
  have hMs : Mod (· = gd) w5 (w5.setCell ⟨gd, 2, none⟩ (.slice A5 (s.qs.length + 1) c5)) := mod_put (Mod.refl _ _) (fun _ => rfl)
  have kd6 := (hD2.out.bd.mod hM5 n1).set_ 2 (.slice A5 (s.qs.length + 1) c5)
  have hM6 : Mod (fun b => b = gd ∨ (Value.slice Aq s.qs.length cq).ownBlock = some b) w2 (w5.setCell ⟨gd, 2, none⟩ (.slice A5 (s.qs.length + 1) c5)) := (hM5.mono (fun b h _ => .inr h)).trans (M' := (· = gd)) hMs (fun b h _ => .inl h)
  generalize w5.setCell ⟨gd, 2, none⟩ (.slice A5 (s.qs.length + 1) c5) = w6 at *
  have hne := hD2.out.ne
  have hlo : ∀ x, (Value.slice A5 (s.qs.length + 1) c5).ownBlock = some x → (Value.slice Aq s.qs.length cq).ownBlock = some x ∨ x = w2.heap.size + 1 := fun x hx => by
    rcases hv5' with e | e
    · exact .inl (e ▸ hx)
    · rw [e] at hx; injection hx with hx; exact .inr hx.symm
  have m3 : ¬ (Value.slice Aq s.qs.length cq).ownBlock = some ge := fun e => (hnq _ e).2.2 rfl
  have m4 : ¬ (Value.slice Aq s.qs.length cq).ownBlock = some gs := fun e => (hnq _ e).2.1 rfl
  have ke6 := (hD2.out.be.mod hM5 m3).mod hMs (fun e => hne.2.1 e.symm)
  have ks6 := (hD2.out.bs.mod hM5 m4).mod hMs (fun e => hne.1 e.symm)
  have hgd2 := hD2.out.bd.lt
  have hge2 := hD2.out.be.lt
  have hgs2 := hD2.out.bs.lt
  have hgdw := hD.out.bd.lt
  have hgew := hD.out.be.lt
  have k6 := k5.mod hMs (by omega)
  have ow6 := ow5.keep WrR.good hMs (fun b hb _ e => by have h8 : b = w2.heap.size := hb; have h9 : b = gd := e; omega) (fun x hx e => by
    have h9 : x = gd := e
    rcases hlo x hx with hx | hx
    · exact (hnq x hx).1 h9
    · omega)
  have ow6 : OwnG WrR 65 81 w6 base (fun _ => False) (.slice A5 (s.qs.length + 1) c5) (s.qs ++ [(N, b)]) := ow6
  rw [show (#[Value.slice (some ⟨gs, 0, none⟩) s.n s.n, .slice (some ⟨ge, 0, none⟩) s.n s.n, .slice Aq s.qs.length cq].setIfInBounds 2 (.slice A5 (s.qs.length + 1) c5)) = #[.slice (some ⟨gs, 0, none⟩) s.n s.n, .slice (some ⟨ge, 0, none⟩) s.n s.n, .slice A5 (s.qs.length + 1) c5] by simp] at kd6
  have c1' := kd6.cell 1
  have hse : s.see.length = 64 * s.n := hD.out.ok.l2
  have hdr : (rWr N b).drop 1 = ic .u8 b := by simp [rWr]
  have hseg : Hid (∀ (w9 : World), Blk w9 w.heap.size 81 (rWr N b).toArray → ∀ (j : Nat) (v : Value), (ic .u8 b)[j]? = some v → w9.cell? ((⟨w.heap.size, 1, none⟩ : Addr).add j) = some v) := Lib.hid (fun w9 h9 j v hv => by
    have h1 := h9.seg 1 64 j v
    rw [hdr, List.take_of_length_le (by rw [ic_length]; omega)] at h1
    exact h1 hv)
  have hsz2 : Hid ((Try.prog.info? 79).map (·.size) = some (ic .u8 b).length) := Lib.hid (by rw [ic_length, hb]; exact size_se)
  clear hdr
  generalize hrw : rWr N b = rw_ at *
  replace hrw := Lib.hid hrw
  replace hse := Lib.hid hse
  clear hHeld c2' k2 c2b k5 f2b f2' hM5 hMs hg5' bl1 hoq2 hbs hld hsz
  go_upto_region 8 with (fail)
  refine wp_region_last (S := (fun w' => w'.cell? ⟨gd, 1, none⟩ = some (.slice (some ⟨ge, 0, none⟩) s.n s.n) ∧ Blk w' w.heap.size 81 rw_.toArray ∧ Blk w' ge 79 (ic .u8 s.see).toArray)) 8 _ (by simp only [List.pop_toArray, List.dropLast_cons_cons, List.dropLast_singleton]; rfl) (by kernel_rfl) (by kernel_rfl) (by kernel_rfl) (by kernel_rfl) (by kernel_rfl) ?_ (fun hHeld => ?_)
  focus exact ⟨c1', k6, ke6⟩
  refine wpAnyH_take (i := 0) (v := ?_) rfl (by kernel_rfl) (by kernel_rfl) (by kernel_rfl) (fun _ _ _ h => h) (Or.inl ⟨by kernel_rfl, ?_⟩) (by assumption) ?_
  rotate_left
  focus
    intro w9 hSw
    (try dsimp only at hSw)
    go_simp
    (try with_reducible rfl)
  (try simp only [Act.put, List.getElem_toArray, List.getElem_cons_succ, List.getElem_cons_zero, List.setIfInBounds_toArray, List.set_cons_zero, List.set_cons_succ])
  refine wpAnyH_take (i := 1) (v := ?_) rfl (by kernel_rfl) (by kernel_rfl) (by kernel_rfl) (fun _ _ _ h => h) (Or.inl ⟨by kernel_rfl, ?_⟩) (by assumption) ?_
  rotate_left
  focus
    intro w9 hSw
    (try dsimp only at hSw)
    go_simp
    (try with_reducible rfl)
  (try simp only [Act.put, List.getElem_toArray, List.getElem_cons_succ, List.getElem_cons_zero, List.setIfInBounds_toArray, List.set_cons_zero, List.set_cons_succ])
  refine wpAnyH_take (i := 2) (v := ?_) rfl (by kernel_rfl) (by kernel_rfl) (by kernel_rfl) (fun _ _ _ h => h) (Or.inl ⟨by kernel_rfl, ?_⟩) (by assumption) ?_
  rotate_left
  focus
    intro w9 hSw
    (try dsimp only at hSw)
    go_simp
    (try with_reducible rfl)
  (try simp only [Act.put, List.getElem_toArray, List.getElem_cons_succ, List.getElem_cons_zero, List.setIfInBounds_toArray, List.set_cons_zero, List.set_cons_succ])
  refine wpAnyH_take (i := 3) (v := ?_) rfl (by kernel_rfl) (by kernel_rfl) (by kernel_rfl) (fun _ _ _ h => h) (Or.inl ⟨by kernel_rfl, ?_⟩) (by assumption) ?_
  rotate_left
  focus
    intro w9 hSw
    (try dsimp only at hSw)
    go_simp
    (try with_reducible rfl)
  (try simp only [Act.put, List.getElem_toArray, List.getElem_cons_succ, List.getElem_cons_zero, List.setIfInBounds_toArray, List.set_cons_zero, List.set_cons_succ])
  refine wpAnyH_take (i := 4) (v := ?_) rfl (by kernel_rfl) (by kernel_rfl) (by kernel_rfl) (fun _ _ _ h => h) (Or.inl ⟨by kernel_rfl, ?_⟩) (by assumption) ?_
  rotate_left
  focus
    intro w9 hSw
    (try dsimp only at hSw)
    go_simp
    (try with_reducible rfl)
  (try simp only [Act.put, List.getElem_toArray, List.getElem_cons_succ, List.getElem_cons_zero, List.setIfInBounds_toArray, List.set_cons_zero, List.set_cons_succ])
  refine wpAnyH_take (i := 5) (v := ?_) rfl (by kernel_rfl) (by kernel_rfl) (by kernel_rfl) (fun _ _ _ h => h) (Or.inl ⟨by kernel_rfl, ?_⟩) (by assumption) ?_
  rotate_left
  focus
    intro w9 hSw
    (try dsimp only at hSw)
    go_simp
    (try with_reducible rfl)
  (try simp only [Act.put, List.getElem_toArray, List.getElem_cons_succ, List.getElem_cons_zero, List.setIfInBounds_toArray, List.set_cons_zero, List.set_cons_succ])
  refine wpAnyH_take (i := 6) (v := .agg (ic .u8 b).toArray) rfl (by kernel_rfl) (by kernel_rfl) (by kernel_rfl) (fun _ _ _ h => h) (Or.inl ⟨by kernel_rfl, fun w9 h9 => yields_load 79 (.tmp 43) rfl ⟨w.heap.size, 1, none⟩ rfl (ic .u8 b) _ Try.underlying79 rfl hsz2.out (hseg.out w9 h9.2.1)⟩) (by assumption) ?_
  (try simp only [Act.put, List.getElem_toArray, List.getElem_cons_succ, List.getElem_cons_zero, List.setIfInBounds_toArray, List.set_cons_zero, List.set_cons_succ])
  refine wpAnyH_take (i := 7) (v := ?_) rfl (by kernel_rfl) (by kernel_rfl) (by kernel_rfl) (fun _ _ _ h => h) (Or.inl ⟨by kernel_rfl, ?_⟩) (by assumption) ?_
  rotate_left
  focus
    intro w9 hSw
    (try dsimp only at hSw)
    go_simp
    (try with_reducible rfl)
  (try simp only [Act.put, List.getElem_toArray, List.getElem_cons_succ, List.getElem_cons_zero, List.setIfInBounds_toArray, List.set_cons_zero, List.set_cons_succ])
  refine wpAnyH_done (by kernel_rfl) (lastQ_step rfl (fun K hK => ?_)) _
  refine step_store_any (by rfl) 79 (.tmp 45) (.tmp 44) (by rfl) ge (N * 64) (by rfl) 79 (ic .u8 s.see).toArray (ic .u8 b) (by rfl) ke6 hsz2.out (by rw [ic_length, hb, List.size_toArray, ic_length, hse.out]; omega) (ic_cell _ _) ?_
  (try simp only [Act.put])
  refine hK _ _ ?_
  clear hK K
  have hMr : Mod (· = ge) w6 (w6.drew.setRow ge (putAt (ic .u8 s.see) (N * 64) (ic .u8 b)).toArray) := (Mod.refl (fun x => x = ge) w6).drew.setRow (fun _ => rfl) _
  have hk7 : Blk (w6.drew.setRow ge (putAt (ic .u8 s.see) (N * 64) (ic .u8 b)).toArray) ge 79 (ic .u8 (updB s.see (64 * N) b)).toArray := by
    have h1 := Blk.setRow (w := w6.drew) ke6 (putAt (ic .u8 s.see) (N * 64) (ic .u8 b)).toArray
    rw [putAt_ic, Nat.mul_comm N 64] at h1
    rw [putAt_ic, Nat.mul_comm N 64]
    exact h1
  change Exit.then _ _ Exit.normal _ (w6.drew.setRow ge (putAt (ic .u8 s.see) (N * 64) (ic .u8 b)).toArray)
  generalize w6.drew.setRow ge (putAt (ic .u8 s.see) (N * 64) (ic .u8 b)).toArray = w7 at *
  go_wp2
  go_ret
  have hse' := hse.out
  have hok := hD.out.ok
  have hgex := hD.out.ge_
  have hsz6 := hMr.size
  refine ⟨rfl, .slice A5 (s.qs.length + 1) c5, ⟨?_, ks6.mod hMr hne.2.2, hk7, ow6.keep WrR.good hMr (fun b hb _ _ => hb) (fun x hx e => ?_), hne, fun x hx => ?_, ⟨hgex.1, hgex.2.1, hgex.2.2.1, ?_⟩, ⟨hok.n0, hok.n1, hok.l1, ?_, hok.b1, ?_, ?_⟩⟩, ?_, ?_⟩
  · exact kd6.mod hMr hne.2.1
  · have h9 : x = ge := e
    rcases hlo x hx with hx | hx
    · exact (hnq x hx).2.2 h9
    · omega
  · rcases hlo x hx with hx | hx
    · exact hnq x hx
    · exact ⟨by omega, by omega, by omega⟩
  · have := hgex.2.2.2
    have h1 := hM6.size
    omega
  · show (updB s.see (64 * N) b).length = 64 * s.n
    rw [updB_len (by omega), hse']
  · exact updB_byte hok.b2 hbb
  · intro x hx
    rcases List.mem_append.1 hx with hx | hx
    · exact hok.q x hx
    · rw [List.mem_singleton] at hx
      subst hx
      exact ⟨hN, hb, hbb⟩
  · exact ((hm2.mono (fun b h _ => h.elim)).trans (M' := fun b => b = gd ∨ (Value.slice Aq s.qs.length cq).ownBlock = some b) hM6 (fun b h _ => h.imp id (fun h => .inr (.inr h)))).trans (M' := (· = ge)) hMr (fun b h _ => .inr (.inr (.inl h)))
  · intro x hx
    rcases hlo x hx with hx | hx
    · exact .inl hx
    · exact .inr (by omega)
end Go.Proofs.Ytdlbjilbdbjadaa
