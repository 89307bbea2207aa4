/- known() of chapter 34. -/
import Derived.Test.YtaimjlnhdobgeaaSched
import Derived.Test.YtaimjlnhdobgeaaMkOf
import Derived.Test.YtaimjlnhdobgeaaMkRead
import Derived.Test.YtaimjlnhdobgeaaRPgSplit
import Derived.Outline
set_option linter.unusedSimpArgs false
set_option linter.unusedVariables false
namespace Go.Proofs.Ytaimjlnhdobgeaa
open Go.RowKit

/-- A slice that a call lays out itself. -/
theorem RdG.lits {α : Type} {R : Rel α} {size : Nat} (g : R.Good size) (w : World) {S : Nat → Prop} {cells : List Value} {xs : List α} (h : Cells R size w S cells xs) (e : TypeId) :
    RdG R size (w.alloc (.cells cells.toArray e)) (fun b => (S b ∧ b < w.heap.size) ∨ b = w.heap.size) (some ⟨w.heap.size, 0, none⟩) xs := fun j hj => by
  refine ⟨_, _, rfl, .inr rfl, g.keep (g.weak (S' := fun b => (S b ∧ b < w.heap.size) ∨ b = w.heap.size) (h.2 j hj) fun b hb hl => .inl ⟨hb, hl⟩) (M := fun _ => False) ((Mod.refl _ _).alloc _) (fun _ _ _ h => h), fun i u hu => ?_⟩
  rw [add_mk, cell_of_row _ w.heap.size (0 + (j * size + i)) cells.toArray e (0, 0) (heap_alloc_new w _)]
  rw [List.getElem?_take] at hu
  split at hu
  · rw [List.getElem?_drop] at hu
    simpa using hu
  · cases hu

def kp1 : Pk := ⟨1, 3, 0, true, false, []⟩
def kp2 : Pk := ⟨1, 9, 0, false, false, []⟩
def kb1 : List Int := [1, 1, 0, 0, 0, 0, 0, 0, 0, 3, 0, 0, 0, 0, 0, 0, 0, 0]
def kb2 : List Int := [1, 0, 0, 0, 0, 0, 0, 0, 0, 9, 0, 0, 0, 0, 0, 0, 0, 0]
def kg1 : Pg := ⟨4, true, true, false, kb1⟩
def kg2 : Pg := ⟨5, true, true, false, kb2⟩
def km : Mk := ⟨1, 3, 4⟩
theorem kp1_E : layE kp1 = 0 := by decide +kernel
theorem kp2_E : layE kp2 = 0 := by decide +kernel
theorem kp1_bytes : kp1.bytes = kb1 := by decide +kernel
theorem kp2_bytes : kp2.bytes = kb2 := by decide +kernel
theorem kp_wf {p : Pk} (h : p = kp1 ∨ p = kp2) : p.wf := by
  rcases h with rfl | rfl
  · exact ⟨by simp [kp1, i64B], by simp [kp1, i64B], by simp [kp1, i64B], by simp [kp1], fun x hx => by simp [kp1] at hx⟩
  · exact ⟨by simp [kp2, i64B], by simp [kp2, i64B], by simp [kp2, i64B], by simp [kp2], fun x hx => by simp [kp2] at hx⟩
theorem k_all : pagesAll 4 ([kp1, kp2].map Pk.bytes) = [kg1, kg2] := by rw [List.map_cons, List.map_cons, List.map_nil, kp1_bytes, kp2_bytes]; decide +kernel
theorem k_bad : layBad [kp1, kp2] = 0 := layBad_none fun p hp => by
  simp only [List.mem_cons, List.not_mem_nil, or_false] at hp
  rcases hp with rfl | rfl
  · exact kp1_E
  · exact kp2_E
theorem k_E : splitE [kp1, kp2] 4 = 0 := by rw [splitE, if_neg (by omega), if_neg (by rw [k_bad]; simp), k_all, if_neg (by simp)]
theorem k_P : splitP [kp1, kp2] 4 = [kg1, kg2] := by rw [splitP, if_pos k_E, k_all]
theorem k_of : ofM [kg1, kg2] = [km] := by decide +kernel
theorem k_ok : mkAll [km] = true := by decide +kernel
theorem k_mkE : mkE [km] = 0 := by rw [mkE, if_pos k_ok]
theorem k_mkB : mkB [km] = mkBytes [km] := by rw [mkB, if_pos k_ok]
theorem k_len : (mkBytes [km]).length = 8 := by decide +kernel
theorem k_head : (mkBytes [km]).take 4 = [1, 1, 6, 8] := by decide +kernel
theorem k_f1 : findM [km] 1 5 = some km := by decide +kernel
theorem k_f2 : findM [km] 1 2 = none := by decide +kernel
theorem k_s4 : str ((mkBytes [km]).take 4) = ⟨#[1, 1, 6, 8]⟩ := by rw [k_head]; kernel_rfl

theorem kSplit (W : World) {A : Option Addr} {c : Nat} {S : Nat → Prop} (hr : RdPk W S A [kp1, kp2]) :
    Calls Try.prog 15 #[.slice A 2 c, .int .i64 4] W fun e w' => ∃ A' c', e = .returned (.tuple #[.slice A' 2 c', .int .i64 0]) ∧ RdPg w' (fun b => b < w'.heap.size) A' [kg1, kg2] ∧ Below W.heap.size W w' := by
  have h := rsplit_any (c := c) hr (by simp) 4 (by omega) (by omega) (by simp only [List.map_cons, List.map_nil, kp1_bytes, kp2_bytes]; decide +kernel)
  rw [k_E, k_P] at h
  refine h.mono ?_
  rintro e w' ⟨v, rfl, ho, hb⟩
  obtain ⟨A', c', rfl, hc, hr⟩ := ho.reads PgR.good (S := fun b => b < w'.heap.size) (fun b hb hl => hl)
  exact ⟨A', c', rfl, hr, hb⟩
theorem kOf (W : World) {A : Option Addr} {c : Nat} (hr : RdPg W (fun b => b < W.heap.size) A [kg1, kg2]) :
    Calls Try.prog 16 #[.slice A 2 c] W fun e w' => ∃ A' c', e = .returned (.slice A' 1 c') ∧ RdMk w' (fun b => b < w'.heap.size) A' [km] ∧ Below W.heap.size W w' := by
  have h := of_any (c := c) hr (by simp)
  rw [k_of] at h
  refine h.mono ?_
  rintro e w' ⟨v, rfl, ho, hb⟩
  obtain ⟨A', c', rfl, hc, hr⟩ := ho.reads MkR.good (S := fun b => b < w'.heap.size) (fun b hb hl => hl)
  exact ⟨A', c', rfl, hr, hb⟩
theorem kBytes (W : World) {A : Option Addr} {c : Nat} (hr : RdMk W (fun b => b < W.heap.size) A [km]) :
    Calls Try.prog 8 #[.slice A 1 c] W fun e w' => ∃ A' c', e = .returned (.tuple #[.slice A' 8 c', .int .i64 0]) ∧ RdI w' w'.heap.size .u8 A' (mkBytes [km]) ∧ 8 ≤ c' ∧ Below W.heap.size W w' := by
  have h := mkbytes_any (c := c) hr (by simp)
  rw [k_mkE, k_mkB] at h
  refine h.mono ?_
  rintro e w' ⟨v, rfl, ho, hb⟩
  obtain ⟨A', c', rfl, hc, hr, _⟩ := ho.form
  rw [k_len] at hc
  exact ⟨A', c', by rw [k_len], hr, hc, hb⟩
theorem kRead (W : World) {A : Option Addr} {c : Nat} (hr : RdI W W.heap.size .u8 A (mkBytes [km])) (hc : 8 ≤ c) :
    Calls Try.prog 9 #[.slice A 8 c] W fun e w' => ∃ A' c', e = .returned (.tuple #[.slice A' 1 c', .int .i64 0]) ∧ RdMk w' (fun b => b < w'.heap.size) A' [km] ∧ Below W.heap.size W w' := by
  have h := mkread_ok (c := c) hr k_ok (by simp) k_len.symm hc
  refine h.mono ?_
  rintro e w' ⟨v, rfl, ho, hb⟩
  obtain ⟨A', c', rfl, hc, hr⟩ := ho.reads MkR.good (S := fun b => b < w'.heap.size) (fun b hb hl => hl)
  exact ⟨A', c', rfl, hr, hb⟩
theorem kFind1 (W : World) {A : Option Addr} {c : Nat} (hr : RdMk W (fun b => b < W.heap.size) A [km]) :
    Calls Try.prog 20 #[.slice A 1 c, .int .i64 1, .int .i64 5] W fun e w' => e = .returned (.tuple #[.agg #[.int .i64 1, .int .i64 3, .int .i64 4], .bool true]) ∧ Below W.heap.size W w' := by
  have h := find_any (c := c) hr (by simp) 1 5
  rw [k_f1] at h
  exact h
theorem kFind2 (W : World) {A : Option Addr} {c : Nat} (hr : RdMk W (fun b => b < W.heap.size) A [km]) :
    Calls Try.prog 20 #[.slice A 1 c, .int .i64 1, .int .i64 2] W fun e w' => e = .returned (.tuple #[.agg #[.int .i64 0, .int .i64 0, .int .i64 0], .bool false]) ∧ Below W.heap.size W w' := by
  have h := find_any (c := c) hr (by simp) 1 2
  rw [k_f2] at h
  exact h
theorem kMarks (W : World) {A A' : Option Addr} (c c' : Nat) {S S' : Nat → Prop} (ha : RdMk W S A [km]) (hb : RdMk W S' A' [km]) :
    Calls Try.prog 10 #[.slice A 1 c, .slice A' 1 c'] W fun e w' => e = .returned (.bool true) ∧ ∃ n, w' = W.drewN n := by
  have h := marks_any c c' ha hb (by simp) (by simp)
  rw [decide_eq_true rfl] at h
  exact h
theorem kmAt {w : World} {S : Nat → Prop} {A : Option Addr} (h : RdMk w S A [km]) : ∃ ad, A = some ad ∧ w.cell? ad = some (.int .i64 1) ∧ w.cell? ⟨ad.block, ad.off + 1, none⟩ = some (.int .i64 3) ∧ w.cell? ⟨ad.block, ad.off + 2, none⟩ = some (.int .i64 4) ∧ ad.block < w.heap.size := by
  obtain ⟨ad, p, rfl, hS, hp, y0, y1, y2, _⟩ := RdMk.at_ h (j := 0) (by simp)
  have : p = ad := by rw [← hp]; simp [Addr.add]
  subst this
  exact ⟨p, rfl, y0, y1, y2, World.block_lt_of_cell? w _ y0⟩

set_option maxHeartbeats 8000000 in
set_option maxRecDepth 100000 in
theorem known_any (w : World) : Calls Try.prog 12 #[] w fun e w' => e = .returned (.bool true) ∧ Below w.heap.size w w' := by
  have HSpl := Lib.hid (fun W (A : Option Addr) (c : Nat) (S : Nat → Prop) (hr : RdPk W S A [kp1, kp2]) => kSplit W (c := c) hr)
  have HOf := Lib.hid (fun W (A : Option Addr) (c : Nat) hr => kOf W (A := A) (c := c) hr)
  have HBy := Lib.hid (fun W (A : Option Addr) (c : Nat) hr => kBytes W (A := A) (c := c) hr)
  have HRd := Lib.hid (fun W (A : Option Addr) (c : Nat) hr hc => kRead W (A := A) (c := c) hr hc)
  have HF1 := Lib.hid (fun W (A : Option Addr) (c : Nat) hr => kFind1 W (A := A) (c := c) hr)
  have HF2 := Lib.hid (fun W (A : Option Addr) (c : Nat) hr => kFind2 W (A := A) (c := c) hr)
  have HL : RdPk (w.alloc (.cells #[.int .i64 1, .int .i64 3, .int .i64 0, .bool true, .bool false, .slice none 0 0, .int .i64 1, .int .i64 9, .int .i64 0, .bool false, .bool false, .slice none 0 0] 47)) (fun b => (False ∧ b < w.heap.size) ∨ b = w.heap.size) (some ⟨w.heap.size, 0, none⟩) [kp1, kp2] :=
    RdG.lits PkR.good w ((Cells.one PkR.good (⟨none, 0, rfl, Nat.le_refl _, RdS.nil_, kp_wf (.inl rfl)⟩ : PkR w (fun _ => False) [.int .i64 1, .int .i64 3, .int .i64 0, .bool true, .bool false, .slice none 0 0] kp1)).append (Cells.one PkR.good (⟨none, 0, rfl, Nat.le_refl _, RdS.nil_, kp_wf (.inr rfl)⟩ : PkR w (fun _ => False) [.int .i64 1, .int .i64 9, .int .i64 0, .bool false, .bool false, .slice none 0 0] kp2))) 47
  replace HL := Lib.hid HL
  go_enter Try.func12, Try.ntmps12
  go_upto_region 5 with (first
    | (go_at_call 15; (with_reducible refine (HSpl.out _ _ _ _ HL.out).mono ?_); rintro e w1 ⟨A1, c1, rfl, hg1, hb1⟩)
    | (go_at_call 16; (with_reducible refine (HOf.out _ _ _ hg1).mono ?_); rintro e w2 ⟨A2, c2, rfl, hm2, hb2⟩)
    | (go_at_call 8; (with_reducible refine (HBy.out _ _ _ hm2).mono ?_); rintro e w3 ⟨A3, c3, rfl, hr3, hc3, hb3⟩)
    | (go_at_call 9; (with_reducible refine (HRd.out _ _ _ hr3 hc3).mono ?_); rintro e w4 ⟨A4, c4, rfl, hm4, hb4⟩))
  have b1 := (below_alloc (Below.refl w.heap.size w) (.cells #[.int .i64 1, .int .i64 3, .int .i64 0, .bool true, .bool false, .slice none 0 0, .int .i64 1, .int .i64 9, .int .i64 0, .bool false, .bool false, .slice none 0 0] 47))
  have b2 := below_then (below_then b1 hb1) hb2
  have b24 := below_then hb3 hb4
  have b4 := below_then b2 b24
  have hm24 := (hm2.below MkR.good b24).weak MkR.good (S' := fun b => b < w4.heap.size) (fun b _ hl => hl)
  clear b1 hb1 hb2 hg1 HSpl HOf HBy HRd HL b2 hm2 b24
  go_upto_region 6 with (first
    | (go_at_call 20; (with_reducible refine (HF1.out _ _ _ hm24).mono ?_); rintro e w5 ⟨rfl, hb5⟩))
  have kf := Blk.new w5 49 #[.int .i64 1, .int .i64 3, .int .i64 4]
  have b6' : Below w5.heap.size w5 (w5.alloc (.cells #[.int .i64 1, .int .i64 3, .int .i64 4] 49)) := below_alloc (Below.refl _ _) _
  generalize w5.alloc (.cells #[.int .i64 1, .int .i64 3, .int .i64 4] 49) = w6 at *
  have b46 := below_then hb5 b6'
  have hm6 := (hm24.below MkR.good b46).weak MkR.good (S' := fun b => b < w6.heap.size) (fun b _ hl => hl)
  go_upto_region 7 with (first
    | (go_at_call 20; (with_reducible refine (HF2.out _ _ _ hm6).mono ?_); rintro e w7 ⟨rfl, hb7⟩))
  have b8' : Below w7.heap.size w7 (w7.alloc (.cells #[.int .i64 0, .int .i64 0, .int .i64 0] 49)) := below_alloc (Below.refl _ _) _
  generalize w7.alloc (.cells #[.int .i64 0, .int .i64 0, .int .i64 0] 49) = w8 at *
  have b68 := below_then hb7 b8'
  have b48 := below_then b46 b68
  have bw8 := below_then b4 b48
  have kf8 := kf.below b68 kf.lt
  have hmA := hm6.below MkR.good b68
  have hmB := hm4.below MkR.good b48
  have hrB := hr3.below (below_then hb4 b48) (Nat.le_refl _)
  obtain ⟨ad, rfl, y0, y1, y2, hal⟩ := kmAt hmA
  have u0 := kf8.cell 0
  have u1 := kf8.cell 1
  have u2 := kf8.cell 2
  have g4 : ∀ W, Below w8.heap.size w8 W → (convert 27 9 (.slice A3 4 c3)).run Try.prog W = .ok (.string ⟨#[1, 1, 6, 8]⟩) W := fun W hW => by
    have hs := b48.size
    have hs4 := hb4.size
    have h := RdI.take (hrB.below hW (by omega)) (n := 4) (by rw [k_len]; omega)
    have r := run_str (P := Try.prog) Try.underlying27 Try.underlying5 Try.underlying9 h c3
    rw [k_s4, k_head] at r
    exact r
  have G4 := Lib.hid g4
  have hc3i : (4 : Int) ≤ ↑c3 := by omega
  clear hr3 hm4 hm24 b4 hb4 hb5 kf b6' b46 hm6 hb7 b8' HF1 HF2 b68 b48 g4 hrB
  refine wp_region_sched (S := (fun w' => Below w8.heap.size w8 w')) [(0, 2), (1, 1), (2, 0), (3, 0), (4, 1), (5, 1), (6, 1), (7, 1), (8, 1), (9, 1), (10, 1), (11, 1), (12, 1), (13, 1), (14, 1), (15, 1), (16, 1), (17, 1), (18, 1), (19, 1), (20, 1), (21, 1), (22, 1), (23, 1), (24, 2), (25, 1), (26, 0), (27, 1), (28, 1), (29, 1), (30, 1), (31, 1), (32, 2), (33, 1), (34, 1), (35, 1), (36, 1), (37, 1), (38, 1), (39, 1), (40, 1), (41, 1), (42, 1)] (by kernel_rfl) (by kernel_rfl) (by kernel_rfl) (fun _ _ d _ _ h => by cases d <;> exact h) ?_ (fun hHeld opsV hOps => ?_)
  focus exact (Below.refl _ _).drew
  refine wpSched_take (v := ?_) hOps rfl (Or.inl ⟨by kernel_rfl, ?_⟩) ?_
  rotate_left
  focus
    intro w9 hSw'
    (try dsimp only at hSw')
    have zK : ∀ {a9 : Addr} {u9 : Value}, w8.cell? a9 = some u9 → w9.cell? a9 = some u9 := fun {a9} {u9} h9 => (hSw'.cell (World.block_lt_of_cell? w8 a9 h9)).trans h9
    have z0 := zK u0
    clear zK hSw'
    go_simp
    (try with_reducible rfl)
  (try simp only [Act.put, List.getElem_toArray, List.getElem_cons_succ, List.getElem_cons_zero, List.setIfInBounds_toArray, List.set_cons_zero, List.set_cons_succ])
  refine wpSched_take (v := ?_) hOps rfl (Or.inl ⟨by kernel_rfl, ?_⟩) ?_
  rotate_left
  focus
    intro w9 hSw'
    (try dsimp only at hSw')
    have zK : ∀ {a9 : Addr} {u9 : Value}, w8.cell? a9 = some u9 → w9.cell? a9 = some u9 := fun {a9} {u9} h9 => (hSw'.cell (World.block_lt_of_cell? w8 a9 h9)).trans h9
    have z0 := zK u0
    clear zK hSw'
    go_simp
    (try with_reducible rfl)
  (try simp only [Act.put, List.getElem_toArray, List.getElem_cons_succ, List.getElem_cons_zero, List.setIfInBounds_toArray, List.set_cons_zero, List.set_cons_succ])
  refine wpSched_step hOps rfl (fun K hK => ?_)
  go_simp
  have hl1 : RdMk (w8.alloc (.cells #[.int .i64 1, .int .i64 3, .int .i64 4] 49)).drew (fun b => (False ∧ b < w8.heap.size) ∨ b = w8.heap.size) (some ⟨w8.heap.size, 0, none⟩) [km] := RdG.one_ MkR.good w8 (S := fun _ => False) (cs := [.int .i64 1, .int .i64 3, .int .i64 4]) (x := km) ⟨rfl, by simp [km, i64B], by simp [km, i64B], by simp [km, i64B]⟩ 49
  have bH : Below w8.heap.size w8 (w8.alloc (.cells #[.int .i64 1, .int .i64 3, .int .i64 4] 49)).drew := (below_alloc (Below.refl _ _) _).drew
  refine hK.out _ _ ?_ (fun hHeld => ?_)
  focus exact bH
  clear hK K
  (try simp only [Act.put, List.getElem_toArray, List.getElem_cons_succ, List.getElem_cons_zero, List.setIfInBounds_toArray, List.set_cons_zero, List.set_cons_succ])
  refine wpSched_step hOps rfl (fun K hK => ?_)
  go_simp
  go_at_call 10
  with_reducible refine (kMarks _ c2 1 (hmA.below MkR.good bH) hl1).mono ?_
  rintro e w9 ⟨rfl, n9, hn9⟩
  have bH9 : Below w8.heap.size w8 w9 := by rw [hn9]; exact below_drewN bH n9
  clear hn9
  refine hK.out _ _ ?_ (fun hHeld => ?_)
  focus exact bH9
  clear hK K
  (try simp only [Act.put, List.getElem_toArray, List.getElem_cons_succ, List.getElem_cons_zero, List.setIfInBounds_toArray, List.set_cons_zero, List.set_cons_succ])
  refine wpSched_take (v := ?_) hOps rfl (Or.inl ⟨by kernel_rfl, ?_⟩) ?_
  rotate_left
  focus
    intro w9 hSw'
    (try dsimp only at hSw')
    have zK : ∀ {a9 : Addr} {u9 : Value}, w8.cell? a9 = some u9 → w9.cell? a9 = some u9 := fun {a9} {u9} h9 => (hSw'.cell (World.block_lt_of_cell? w8 a9 h9)).trans h9
    have z0 := zK u0
    clear zK hSw'
    go_simp
    (try with_reducible rfl)
  (try simp only [Act.put, List.getElem_toArray, List.getElem_cons_succ, List.getElem_cons_zero, List.setIfInBounds_toArray, List.set_cons_zero, List.set_cons_succ])
  refine wpSched_take (v := ?_) hOps rfl (Or.inl ⟨by kernel_rfl, ?_⟩) ?_
  rotate_left
  focus
    intro w9 hSw'
    (try dsimp only at hSw')
    have zK : ∀ {a9 : Addr} {u9 : Value}, w8.cell? a9 = some u9 → w9.cell? a9 = some u9 := fun {a9} {u9} h9 => (hSw'.cell (World.block_lt_of_cell? w8 a9 h9)).trans h9
    have z0 := zK u0
    clear zK hSw'
    go_simp
    (try with_reducible rfl)
  (try simp only [Act.put, List.getElem_toArray, List.getElem_cons_succ, List.getElem_cons_zero, List.setIfInBounds_toArray, List.set_cons_zero, List.set_cons_succ])
  refine wpSched_take (v := ?_) hOps rfl (Or.inl ⟨by kernel_rfl, ?_⟩) ?_
  rotate_left
  focus
    intro w9 hSw'
    (try dsimp only at hSw')
    have zK : ∀ {a9 : Addr} {u9 : Value}, w8.cell? a9 = some u9 → w9.cell? a9 = some u9 := fun {a9} {u9} h9 => (hSw'.cell (World.block_lt_of_cell? w8 a9 h9)).trans h9
    have z0 := zK u0
    clear zK hSw'
    go_simp
    (try with_reducible rfl)
  (try simp only [Act.put, List.getElem_toArray, List.getElem_cons_succ, List.getElem_cons_zero, List.setIfInBounds_toArray, List.set_cons_zero, List.set_cons_succ])
  refine wpSched_take (v := ?_) hOps rfl (Or.inl ⟨by kernel_rfl, ?_⟩) ?_
  rotate_left
  focus
    intro w9 hSw'
    (try dsimp only at hSw')
    have zK : ∀ {a9 : Addr} {u9 : Value}, w8.cell? a9 = some u9 → w9.cell? a9 = some u9 := fun {a9} {u9} h9 => (hSw'.cell (World.block_lt_of_cell? w8 a9 h9)).trans h9
    have z0 := zK u0
    clear zK hSw'
    go_simp
    (try with_reducible rfl)
  (try simp only [Act.put, List.getElem_toArray, List.getElem_cons_succ, List.getElem_cons_zero, List.setIfInBounds_toArray, List.set_cons_zero, List.set_cons_succ])
  refine wpSched_take (v := ?_) hOps rfl (Or.inl ⟨by kernel_rfl, ?_⟩) ?_
  rotate_left
  focus
    intro w9 hSw'
    (try dsimp only at hSw')
    have zK : ∀ {a9 : Addr} {u9 : Value}, w8.cell? a9 = some u9 → w9.cell? a9 = some u9 := fun {a9} {u9} h9 => (hSw'.cell (World.block_lt_of_cell? w8 a9 h9)).trans h9
    have z0 := zK u0
    clear zK hSw'
    go_simp
    (try with_reducible rfl)
  (try simp only [Act.put, List.getElem_toArray, List.getElem_cons_succ, List.getElem_cons_zero, List.setIfInBounds_toArray, List.set_cons_zero, List.set_cons_succ])
  refine wpSched_take (v := ?_) hOps rfl (Or.inl ⟨by kernel_rfl, ?_⟩) ?_
  rotate_left
  focus
    intro w9 hSw'
    (try dsimp only at hSw')
    have zK : ∀ {a9 : Addr} {u9 : Value}, w8.cell? a9 = some u9 → w9.cell? a9 = some u9 := fun {a9} {u9} h9 => (hSw'.cell (World.block_lt_of_cell? w8 a9 h9)).trans h9
    have z0 := zK u0
    clear zK hSw'
    go_simp
    (try with_reducible rfl)
  (try simp only [Act.put, List.getElem_toArray, List.getElem_cons_succ, List.getElem_cons_zero, List.setIfInBounds_toArray, List.set_cons_zero, List.set_cons_succ])
  refine wpSched_take (v := ?_) hOps rfl (Or.inl ⟨by kernel_rfl, ?_⟩) ?_
  rotate_left
  focus
    intro w9 hSw'
    (try dsimp only at hSw')
    have zK : ∀ {a9 : Addr} {u9 : Value}, w8.cell? a9 = some u9 → w9.cell? a9 = some u9 := fun {a9} {u9} h9 => (hSw'.cell (World.block_lt_of_cell? w8 a9 h9)).trans h9
    have z0 := zK u0
    clear zK hSw'
    go_simp
    (try with_reducible rfl)
  (try simp only [Act.put, List.getElem_toArray, List.getElem_cons_succ, List.getElem_cons_zero, List.setIfInBounds_toArray, List.set_cons_zero, List.set_cons_succ])
  refine wpSched_take (v := ?_) hOps rfl (Or.inl ⟨by kernel_rfl, ?_⟩) ?_
  rotate_left
  focus
    intro w9 hSw'
    (try dsimp only at hSw')
    have zK : ∀ {a9 : Addr} {u9 : Value}, w8.cell? a9 = some u9 → w9.cell? a9 = some u9 := fun {a9} {u9} h9 => (hSw'.cell (World.block_lt_of_cell? w8 a9 h9)).trans h9
    have z0 := zK u0
    clear zK hSw'
    go_simp
    (try with_reducible rfl)
  (try simp only [Act.put, List.getElem_toArray, List.getElem_cons_succ, List.getElem_cons_zero, List.setIfInBounds_toArray, List.set_cons_zero, List.set_cons_succ])
  refine wpSched_take (v := ?_) hOps rfl (Or.inl ⟨by kernel_rfl, ?_⟩) ?_
  rotate_left
  focus
    intro w9 hSw'
    (try dsimp only at hSw')
    have zK : ∀ {a9 : Addr} {u9 : Value}, w8.cell? a9 = some u9 → w9.cell? a9 = some u9 := fun {a9} {u9} h9 => (hSw'.cell (World.block_lt_of_cell? w8 a9 h9)).trans h9
    have z0 := zK u0
    clear zK hSw'
    go_simp
    (try with_reducible rfl)
  (try simp only [Act.put, List.getElem_toArray, List.getElem_cons_succ, List.getElem_cons_zero, List.setIfInBounds_toArray, List.set_cons_zero, List.set_cons_succ])
  refine wpSched_take (v := ?_) hOps rfl (Or.inl ⟨by kernel_rfl, ?_⟩) ?_
  rotate_left
  focus
    intro w9 hSw'
    (try dsimp only at hSw')
    have zK : ∀ {a9 : Addr} {u9 : Value}, w8.cell? a9 = some u9 → w9.cell? a9 = some u9 := fun {a9} {u9} h9 => (hSw'.cell (World.block_lt_of_cell? w8 a9 h9)).trans h9
    have z0 := zK u0
    clear zK hSw'
    go_simp
    (try with_reducible rfl)
  (try simp only [Act.put, List.getElem_toArray, List.getElem_cons_succ, List.getElem_cons_zero, List.setIfInBounds_toArray, List.set_cons_zero, List.set_cons_succ])
  refine wpSched_take (v := ?_) hOps rfl (Or.inl ⟨by kernel_rfl, ?_⟩) ?_
  rotate_left
  focus
    intro w9 hSw'
    (try dsimp only at hSw')
    have zK : ∀ {a9 : Addr} {u9 : Value}, w8.cell? a9 = some u9 → w9.cell? a9 = some u9 := fun {a9} {u9} h9 => (hSw'.cell (World.block_lt_of_cell? w8 a9 h9)).trans h9
    have z0 := zK u0
    clear zK hSw'
    go_simp
    (try with_reducible rfl)
  (try simp only [Act.put, List.getElem_toArray, List.getElem_cons_succ, List.getElem_cons_zero, List.setIfInBounds_toArray, List.set_cons_zero, List.set_cons_succ])
  refine wpSched_take (v := ?_) hOps rfl (Or.inl ⟨by kernel_rfl, ?_⟩) ?_
  rotate_left
  focus
    intro w9 hSw'
    (try dsimp only at hSw')
    have zK : ∀ {a9 : Addr} {u9 : Value}, w8.cell? a9 = some u9 → w9.cell? a9 = some u9 := fun {a9} {u9} h9 => (hSw'.cell (World.block_lt_of_cell? w8 a9 h9)).trans h9
    have z0 := zK u0
    clear zK hSw'
    go_simp
    (try with_reducible rfl)
  (try simp only [Act.put, List.getElem_toArray, List.getElem_cons_succ, List.getElem_cons_zero, List.setIfInBounds_toArray, List.set_cons_zero, List.set_cons_succ])
  refine wpSched_take (v := ?_) hOps rfl (Or.inl ⟨by kernel_rfl, ?_⟩) ?_
  rotate_left
  focus
    intro w9 hSw'
    (try dsimp only at hSw')
    have zr := G4.out w9 hSw'
    clear hSw'
    go_simp
    (try with_reducible rfl)
  (try simp only [Act.put, List.getElem_toArray, List.getElem_cons_succ, List.getElem_cons_zero, List.setIfInBounds_toArray, List.set_cons_zero, List.set_cons_succ])
  refine wpSched_take (v := ?_) hOps rfl (Or.inl ⟨by kernel_rfl, ?_⟩) ?_
  rotate_left
  focus
    intro w9 hSw'
    (try dsimp only at hSw')
    have zK : ∀ {a9 : Addr} {u9 : Value}, w8.cell? a9 = some u9 → w9.cell? a9 = some u9 := fun {a9} {u9} h9 => (hSw'.cell (World.block_lt_of_cell? w8 a9 h9)).trans h9
    have z0 := zK u0
    clear zK hSw'
    go_simp
    (try with_reducible rfl)
  (try simp only [Act.put, List.getElem_toArray, List.getElem_cons_succ, List.getElem_cons_zero, List.setIfInBounds_toArray, List.set_cons_zero, List.set_cons_succ])
  refine wpSched_take (v := ?_) hOps rfl (Or.inl ⟨by kernel_rfl, ?_⟩) ?_
  rotate_left
  focus
    intro w9 hSw'
    (try dsimp only at hSw')
    have zK : ∀ {a9 : Addr} {u9 : Value}, w8.cell? a9 = some u9 → w9.cell? a9 = some u9 := fun {a9} {u9} h9 => (hSw'.cell (World.block_lt_of_cell? w8 a9 h9)).trans h9
    have z0 := zK u0
    clear zK hSw'
    go_simp
    (try with_reducible rfl)
  (try simp only [Act.put, List.getElem_toArray, List.getElem_cons_succ, List.getElem_cons_zero, List.setIfInBounds_toArray, List.set_cons_zero, List.set_cons_succ])
  refine wpSched_take (v := ?_) hOps rfl (Or.inl ⟨by kernel_rfl, ?_⟩) ?_
  rotate_left
  focus
    intro w9 hSw'
    (try dsimp only at hSw')
    have zK : ∀ {a9 : Addr} {u9 : Value}, w8.cell? a9 = some u9 → w9.cell? a9 = some u9 := fun {a9} {u9} h9 => (hSw'.cell (World.block_lt_of_cell? w8 a9 h9)).trans h9
    have z0 := zK u0
    clear zK hSw'
    go_simp
    (try with_reducible rfl)
  (try simp only [Act.put, List.getElem_toArray, List.getElem_cons_succ, List.getElem_cons_zero, List.setIfInBounds_toArray, List.set_cons_zero, List.set_cons_succ])
  refine wpSched_take (v := ?_) hOps rfl (Or.inl ⟨by kernel_rfl, ?_⟩) ?_
  rotate_left
  focus
    intro w9 hSw'
    (try dsimp only at hSw')
    have zK : ∀ {a9 : Addr} {u9 : Value}, w8.cell? a9 = some u9 → w9.cell? a9 = some u9 := fun {a9} {u9} h9 => (hSw'.cell (World.block_lt_of_cell? w8 a9 h9)).trans h9
    have z0 := zK u0
    clear zK hSw'
    go_simp
    (try with_reducible rfl)
  (try simp only [Act.put, List.getElem_toArray, List.getElem_cons_succ, List.getElem_cons_zero, List.setIfInBounds_toArray, List.set_cons_zero, List.set_cons_succ])
  refine wpSched_take (v := ?_) hOps rfl (Or.inl ⟨by kernel_rfl, ?_⟩) ?_
  rotate_left
  focus
    intro w9 hSw'
    (try dsimp only at hSw')
    have zK : ∀ {a9 : Addr} {u9 : Value}, w8.cell? a9 = some u9 → w9.cell? a9 = some u9 := fun {a9} {u9} h9 => (hSw'.cell (World.block_lt_of_cell? w8 a9 h9)).trans h9
    have z0 := zK u0
    clear zK hSw'
    go_simp
    (try with_reducible rfl)
  (try simp only [Act.put, List.getElem_toArray, List.getElem_cons_succ, List.getElem_cons_zero, List.setIfInBounds_toArray, List.set_cons_zero, List.set_cons_succ])
  refine wpSched_take (v := ?_) hOps rfl (Or.inl ⟨by kernel_rfl, ?_⟩) ?_
  rotate_left
  focus
    intro w9 hSw'
    (try dsimp only at hSw')
    have zK : ∀ {a9 : Addr} {u9 : Value}, w8.cell? a9 = some u9 → w9.cell? a9 = some u9 := fun {a9} {u9} h9 => (hSw'.cell (World.block_lt_of_cell? w8 a9 h9)).trans h9
    have z0 := zK u0
    clear zK hSw'
    go_simp
    (try with_reducible rfl)
  (try simp only [Act.put, List.getElem_toArray, List.getElem_cons_succ, List.getElem_cons_zero, List.setIfInBounds_toArray, List.set_cons_zero, List.set_cons_succ])
  refine wpSched_take (v := ?_) hOps rfl (Or.inl ⟨by kernel_rfl, ?_⟩) ?_
  rotate_left
  focus
    intro w9 hSw'
    (try dsimp only at hSw')
    have zK : ∀ {a9 : Addr} {u9 : Value}, w8.cell? a9 = some u9 → w9.cell? a9 = some u9 := fun {a9} {u9} h9 => (hSw'.cell (World.block_lt_of_cell? w8 a9 h9)).trans h9
    have z0 := zK u0
    clear zK hSw'
    go_simp
    (try with_reducible rfl)
  (try simp only [Act.put, List.getElem_toArray, List.getElem_cons_succ, List.getElem_cons_zero, List.setIfInBounds_toArray, List.set_cons_zero, List.set_cons_succ])
  refine wpSched_take (v := ?_) hOps rfl (Or.inl ⟨by kernel_rfl, ?_⟩) ?_
  rotate_left
  focus
    intro w9 hSw'
    (try dsimp only at hSw')
    have zK : ∀ {a9 : Addr} {u9 : Value}, w8.cell? a9 = some u9 → w9.cell? a9 = some u9 := fun {a9} {u9} h9 => (hSw'.cell (World.block_lt_of_cell? w8 a9 h9)).trans h9
    have z0 := zK u0
    clear zK hSw'
    go_simp
    (try with_reducible rfl)
  (try simp only [Act.put, List.getElem_toArray, List.getElem_cons_succ, List.getElem_cons_zero, List.setIfInBounds_toArray, List.set_cons_zero, List.set_cons_succ])
  refine wpSched_take (v := ?_) hOps rfl (Or.inl ⟨by kernel_rfl, ?_⟩) ?_
  rotate_left
  focus
    intro w9 hSw'
    (try dsimp only at hSw')
    have zK : ∀ {a9 : Addr} {u9 : Value}, w8.cell? a9 = some u9 → w9.cell? a9 = some u9 := fun {a9} {u9} h9 => (hSw'.cell (World.block_lt_of_cell? w8 a9 h9)).trans h9
    have z0 := zK u0
    clear zK hSw'
    go_simp
    (try with_reducible rfl)
  (try simp only [Act.put, List.getElem_toArray, List.getElem_cons_succ, List.getElem_cons_zero, List.setIfInBounds_toArray, List.set_cons_zero, List.set_cons_succ])
  refine wpSched_step hOps rfl (fun K hK => ?_)
  go_simp
  go_at_call 10
  with_reducible refine (kMarks _ c4 c2 (hmB.below MkR.good bH9) (hmA.below MkR.good bH9)).mono ?_
  rintro e w10 ⟨rfl, n10, hn10⟩
  have bH10 : Below w8.heap.size w8 w10 := by rw [hn10]; exact below_drewN bH9 n10
  clear hn10
  refine hK.out _ _ ?_ (fun hHeld => ?_)
  focus exact bH10
  clear hK K
  (try simp only [Act.put, List.getElem_toArray, List.getElem_cons_succ, List.getElem_cons_zero, List.setIfInBounds_toArray, List.set_cons_zero, List.set_cons_succ])
  refine wpSched_take (v := ?_) hOps rfl (Or.inl ⟨by kernel_rfl, ?_⟩) ?_
  rotate_left
  focus
    intro w9 hSw'
    (try dsimp only at hSw')
    have zK : ∀ {a9 : Addr} {u9 : Value}, w8.cell? a9 = some u9 → w9.cell? a9 = some u9 := fun {a9} {u9} h9 => (hSw'.cell (World.block_lt_of_cell? w8 a9 h9)).trans h9
    have z0 := zK u0
    have z1 := zK u1
    have z2 := zK u2
    have z3 := zK y0
    have z4 := zK y1
    have z5 := zK y2
    clear zK hSw'
    go_simp
    (try with_reducible rfl)
  (try simp only [Act.put, List.getElem_toArray, List.getElem_cons_succ, List.getElem_cons_zero, List.setIfInBounds_toArray, List.set_cons_zero, List.set_cons_succ])
  refine wpSched_take (v := ?_) hOps rfl (Or.inl ⟨by kernel_rfl, ?_⟩) ?_
  rotate_left
  focus
    intro w9 hSw'
    (try dsimp only at hSw')
    have zK : ∀ {a9 : Addr} {u9 : Value}, w8.cell? a9 = some u9 → w9.cell? a9 = some u9 := fun {a9} {u9} h9 => (hSw'.cell (World.block_lt_of_cell? w8 a9 h9)).trans h9
    have z0 := zK u0
    have z1 := zK u1
    have z2 := zK u2
    have z3 := zK y0
    have z4 := zK y1
    have z5 := zK y2
    clear zK hSw'
    go_simp
    (try with_reducible rfl)
  (try simp only [Act.put, List.getElem_toArray, List.getElem_cons_succ, List.getElem_cons_zero, List.setIfInBounds_toArray, List.set_cons_zero, List.set_cons_succ])
  refine wpSched_take (v := ?_) hOps rfl (Or.inl ⟨by kernel_rfl, ?_⟩) ?_
  rotate_left
  focus
    intro w9 hSw'
    (try dsimp only at hSw')
    have zK : ∀ {a9 : Addr} {u9 : Value}, w8.cell? a9 = some u9 → w9.cell? a9 = some u9 := fun {a9} {u9} h9 => (hSw'.cell (World.block_lt_of_cell? w8 a9 h9)).trans h9
    have z0 := zK u0
    have z1 := zK u1
    have z2 := zK u2
    have z3 := zK y0
    have z4 := zK y1
    have z5 := zK y2
    clear zK hSw'
    go_simp
    (try with_reducible rfl)
  (try simp only [Act.put, List.getElem_toArray, List.getElem_cons_succ, List.getElem_cons_zero, List.setIfInBounds_toArray, List.set_cons_zero, List.set_cons_succ])
  refine wpSched_take (v := ?_) hOps rfl (Or.inl ⟨by kernel_rfl, ?_⟩) ?_
  rotate_left
  focus
    intro w9 hSw'
    (try dsimp only at hSw')
    have zK : ∀ {a9 : Addr} {u9 : Value}, w8.cell? a9 = some u9 → w9.cell? a9 = some u9 := fun {a9} {u9} h9 => (hSw'.cell (World.block_lt_of_cell? w8 a9 h9)).trans h9
    have z0 := zK u0
    have z1 := zK u1
    have z2 := zK u2
    have z3 := zK y0
    have z4 := zK y1
    have z5 := zK y2
    clear zK hSw'
    go_simp
    (try with_reducible rfl)
  (try simp only [Act.put, List.getElem_toArray, List.getElem_cons_succ, List.getElem_cons_zero, List.setIfInBounds_toArray, List.set_cons_zero, List.set_cons_succ])
  refine wpSched_take (v := ?_) hOps rfl (Or.inl ⟨by kernel_rfl, ?_⟩) ?_
  rotate_left
  focus
    intro w9 hSw'
    (try dsimp only at hSw')
    have zK : ∀ {a9 : Addr} {u9 : Value}, w8.cell? a9 = some u9 → w9.cell? a9 = some u9 := fun {a9} {u9} h9 => (hSw'.cell (World.block_lt_of_cell? w8 a9 h9)).trans h9
    have z0 := zK u0
    have z1 := zK u1
    have z2 := zK u2
    have z3 := zK y0
    have z4 := zK y1
    have z5 := zK y2
    clear zK hSw'
    go_simp
    (try with_reducible rfl)
  (try simp only [Act.put, List.getElem_toArray, List.getElem_cons_succ, List.getElem_cons_zero, List.setIfInBounds_toArray, List.set_cons_zero, List.set_cons_succ])
  refine wpSched_take (v := ?_) hOps rfl (Or.inl ⟨by kernel_rfl, ?_⟩) ?_
  rotate_left
  focus
    intro w9 hSw'
    (try dsimp only at hSw')
    have zK : ∀ {a9 : Addr} {u9 : Value}, w8.cell? a9 = some u9 → w9.cell? a9 = some u9 := fun {a9} {u9} h9 => (hSw'.cell (World.block_lt_of_cell? w8 a9 h9)).trans h9
    have z0 := zK u0
    have z1 := zK u1
    have z2 := zK u2
    have z3 := zK y0
    have z4 := zK y1
    have z5 := zK y2
    clear zK hSw'
    go_simp
    (try with_reducible rfl)
  (try simp only [Act.put, List.getElem_toArray, List.getElem_cons_succ, List.getElem_cons_zero, List.setIfInBounds_toArray, List.set_cons_zero, List.set_cons_succ])
  refine wpSched_take (v := ?_) hOps rfl (Or.inl ⟨by kernel_rfl, ?_⟩) ?_
  rotate_left
  focus
    intro w9 hSw'
    (try dsimp only at hSw')
    have zK : ∀ {a9 : Addr} {u9 : Value}, w8.cell? a9 = some u9 → w9.cell? a9 = some u9 := fun {a9} {u9} h9 => (hSw'.cell (World.block_lt_of_cell? w8 a9 h9)).trans h9
    have z0 := zK u0
    have z1 := zK u1
    have z2 := zK u2
    have z3 := zK y0
    have z4 := zK y1
    have z5 := zK y2
    clear zK hSw'
    go_simp
    (try with_reducible rfl)
  (try simp only [Act.put, List.getElem_toArray, List.getElem_cons_succ, List.getElem_cons_zero, List.setIfInBounds_toArray, List.set_cons_zero, List.set_cons_succ])
  refine wpSched_take (v := ?_) hOps rfl (Or.inl ⟨by kernel_rfl, ?_⟩) ?_
  rotate_left
  focus
    intro w9 hSw'
    (try dsimp only at hSw')
    have zK : ∀ {a9 : Addr} {u9 : Value}, w8.cell? a9 = some u9 → w9.cell? a9 = some u9 := fun {a9} {u9} h9 => (hSw'.cell (World.block_lt_of_cell? w8 a9 h9)).trans h9
    have z0 := zK u0
    have z1 := zK u1
    have z2 := zK u2
    have z3 := zK y0
    have z4 := zK y1
    have z5 := zK y2
    clear zK hSw'
    go_simp
    (try with_reducible rfl)
  (try simp only [Act.put, List.getElem_toArray, List.getElem_cons_succ, List.getElem_cons_zero, List.setIfInBounds_toArray, List.set_cons_zero, List.set_cons_succ])
  refine wpSched_take (v := ?_) hOps rfl (Or.inl ⟨by kernel_rfl, ?_⟩) ?_
  rotate_left
  focus
    intro w9 hSw'
    (try dsimp only at hSw')
    have zK : ∀ {a9 : Addr} {u9 : Value}, w8.cell? a9 = some u9 → w9.cell? a9 = some u9 := fun {a9} {u9} h9 => (hSw'.cell (World.block_lt_of_cell? w8 a9 h9)).trans h9
    have z0 := zK u0
    have z1 := zK u1
    have z2 := zK u2
    have z3 := zK y0
    have z4 := zK y1
    have z5 := zK y2
    clear zK hSw'
    go_simp
    (try with_reducible rfl)
  (try simp only [Act.put, List.getElem_toArray, List.getElem_cons_succ, List.getElem_cons_zero, List.setIfInBounds_toArray, List.set_cons_zero, List.set_cons_succ])
  refine wpSched_take (v := ?_) hOps rfl (Or.inl ⟨by kernel_rfl, ?_⟩) ?_
  rotate_left
  focus
    intro w9 hSw'
    (try dsimp only at hSw')
    have zK : ∀ {a9 : Addr} {u9 : Value}, w8.cell? a9 = some u9 → w9.cell? a9 = some u9 := fun {a9} {u9} h9 => (hSw'.cell (World.block_lt_of_cell? w8 a9 h9)).trans h9
    have z0 := zK u0
    have z1 := zK u1
    have z2 := zK u2
    have z3 := zK y0
    have z4 := zK y1
    have z5 := zK y2
    clear zK hSw'
    go_simp
    (try with_reducible rfl)
  (try simp only [Act.put, List.getElem_toArray, List.getElem_cons_succ, List.getElem_cons_zero, List.setIfInBounds_toArray, List.set_cons_zero, List.set_cons_succ])
  refine wpSched_take (v := ?_) hOps rfl (Or.inl ⟨by kernel_rfl, ?_⟩) ?_
  rotate_left
  focus
    intro w9 hSw'
    (try dsimp only at hSw')
    have zK : ∀ {a9 : Addr} {u9 : Value}, w8.cell? a9 = some u9 → w9.cell? a9 = some u9 := fun {a9} {u9} h9 => (hSw'.cell (World.block_lt_of_cell? w8 a9 h9)).trans h9
    have z0 := zK u0
    have z1 := zK u1
    have z2 := zK u2
    have z3 := zK y0
    have z4 := zK y1
    have z5 := zK y2
    clear zK hSw'
    go_simp
    (try with_reducible rfl)
  (try simp only [Act.put, List.getElem_toArray, List.getElem_cons_succ, List.getElem_cons_zero, List.setIfInBounds_toArray, List.set_cons_zero, List.set_cons_succ])
  refine wpSched_take (v := ?_) hOps rfl (Or.inl ⟨by kernel_rfl, ?_⟩) ?_
  rotate_left
  focus
    intro w9 hSw'
    (try dsimp only at hSw')
    have zK : ∀ {a9 : Addr} {u9 : Value}, w8.cell? a9 = some u9 → w9.cell? a9 = some u9 := fun {a9} {u9} h9 => (hSw'.cell (World.block_lt_of_cell? w8 a9 h9)).trans h9
    have z0 := zK u0
    have z1 := zK u1
    have z2 := zK u2
    have z3 := zK y0
    have z4 := zK y1
    have z5 := zK y2
    clear zK hSw'
    go_simp
    (try with_reducible rfl)
  (try simp only [Act.put, List.getElem_toArray, List.getElem_cons_succ, List.getElem_cons_zero, List.setIfInBounds_toArray, List.set_cons_zero, List.set_cons_succ])
  refine wpSched_take (v := ?_) hOps rfl (Or.inl ⟨by kernel_rfl, ?_⟩) ?_
  rotate_left
  focus
    intro w9 hSw'
    (try dsimp only at hSw')
    have zK : ∀ {a9 : Addr} {u9 : Value}, w8.cell? a9 = some u9 → w9.cell? a9 = some u9 := fun {a9} {u9} h9 => (hSw'.cell (World.block_lt_of_cell? w8 a9 h9)).trans h9
    have z0 := zK u0
    have z1 := zK u1
    have z2 := zK u2
    have z3 := zK y0
    have z4 := zK y1
    have z5 := zK y2
    clear zK hSw'
    go_simp
    (try with_reducible rfl)
  (try simp only [Act.put, List.getElem_toArray, List.getElem_cons_succ, List.getElem_cons_zero, List.setIfInBounds_toArray, List.set_cons_zero, List.set_cons_succ])
  refine wpSched_take (v := ?_) hOps rfl (Or.inl ⟨by kernel_rfl, ?_⟩) ?_
  rotate_left
  focus
    intro w9 hSw'
    (try dsimp only at hSw')
    have zK : ∀ {a9 : Addr} {u9 : Value}, w8.cell? a9 = some u9 → w9.cell? a9 = some u9 := fun {a9} {u9} h9 => (hSw'.cell (World.block_lt_of_cell? w8 a9 h9)).trans h9
    have z0 := zK u0
    have z1 := zK u1
    have z2 := zK u2
    have z3 := zK y0
    have z4 := zK y1
    have z5 := zK y2
    clear zK hSw'
    go_simp
    (try with_reducible rfl)
  (try simp only [Act.put, List.getElem_toArray, List.getElem_cons_succ, List.getElem_cons_zero, List.setIfInBounds_toArray, List.set_cons_zero, List.set_cons_succ])
  refine wpSched_take (v := ?_) hOps rfl (Or.inl ⟨by kernel_rfl, ?_⟩) ?_
  rotate_left
  focus
    intro w9 hSw'
    (try dsimp only at hSw')
    have zK : ∀ {a9 : Addr} {u9 : Value}, w8.cell? a9 = some u9 → w9.cell? a9 = some u9 := fun {a9} {u9} h9 => (hSw'.cell (World.block_lt_of_cell? w8 a9 h9)).trans h9
    have z0 := zK u0
    have z1 := zK u1
    have z2 := zK u2
    have z3 := zK y0
    have z4 := zK y1
    have z5 := zK y2
    clear zK hSw'
    go_simp
    (try with_reducible rfl)
  (try simp only [Act.put, List.getElem_toArray, List.getElem_cons_succ, List.getElem_cons_zero, List.setIfInBounds_toArray, List.set_cons_zero, List.set_cons_succ])
  refine wpSched_take (v := ?_) hOps rfl (Or.inl ⟨by kernel_rfl, ?_⟩) ?_
  rotate_left
  focus
    intro w9 hSw'
    (try dsimp only at hSw')
    have zK : ∀ {a9 : Addr} {u9 : Value}, w8.cell? a9 = some u9 → w9.cell? a9 = some u9 := fun {a9} {u9} h9 => (hSw'.cell (World.block_lt_of_cell? w8 a9 h9)).trans h9
    have z0 := zK u0
    have z1 := zK u1
    have z2 := zK u2
    have z3 := zK y0
    have z4 := zK y1
    have z5 := zK y2
    clear zK hSw'
    go_simp
    (try with_reducible rfl)
  (try simp only [Act.put, List.getElem_toArray, List.getElem_cons_succ, List.getElem_cons_zero, List.setIfInBounds_toArray, List.set_cons_zero, List.set_cons_succ])
  refine wpSched_nil ?_
  (try simp only [Act.put, List.getElem_toArray, List.getElem_cons_succ, List.getElem_cons_zero, List.setIfInBounds_toArray, List.set_cons_zero, List.set_cons_succ])
  go_wp2
  go_ret
  exact ⟨rfl, below_then bw8 bH10⟩
end Go.Proofs.Ytaimjlnhdobgeaa
