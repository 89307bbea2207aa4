/- known of the palette laws. -/
import Derived.Test.YtbbflddhbamjbaaPicFacts
import Derived.Test.YtbbflddhbamjbaaAgg
import Derived.Deep.DeepCutAuto
import Derived.Laws.BitsAllLaws
import Derived.Test.YtbbflddhbamjbaaPlOf
import Derived.Test.YtbbflddhbamjbaaPlRank
import Derived.Test.YtbbflddhbamjbaaPlMay
set_option linter.unusedSimpArgs false
set_option linter.unusedVariables false
namespace Go.Proofs.Ytbbflddhbamjbaa
open Go.RowKit

theorem bits5_any (w : World) : Calls Try.prog 36 #[.int .i64 5] w fun e w' => e = .returned (.int .i64 4) ∧ w = w' := by
  go_enter Try.func36, Try.ntmps36
  go_wp2
  go_ret
  exact ⟨rfl, rfl⟩
theorem issize1_any (w : World) : Calls Try.prog 60 #[.int .i64 1] w fun e w' => e = .returned (.bool true) ∧ w = w' := by
  go_enter Try.func60, Try.ntmps60
  go_wp2
  go_ret
  exact ⟨rfl, rfl⟩
set_option maxHeartbeats 4000000 in
set_option maxRecDepth 100000 in
theorem pack3_any {w : World} {g : Nat} (h : Blk w g 3 #[.int .i64 1, .int .i64 0, .int .i64 1]) :
    Calls Try.prog 34 #[.slice (some ⟨g, 0, none⟩) 3 3, .int .i64 1] w fun e w' => ∃ g', e = .returned (.tuple #[.slice (some ⟨g', 0, none⟩) 1 1, .bool true]) ∧ RdI w' w'.heap.size .u8 (some ⟨g', 0, none⟩) [160] ∧ Below w.heap.size w w' := by
  have HS := Lib.hid (fun W => issize1_any W)
  have hmk : (Instr.makeSlice 62 (.int .i64 1) (.int .i64 1)).run Try.prog w = .ok (.slice (some ⟨w.heap.size, 0, none⟩) 1 1) (w.alloc (.cells #[.int .u8 0] 5)) := run_make_ints (P := Try.prog) w 62 Try.underlying62 info_u8 (by omega) .i64 1 1 (Nat.le_refl _) (by omega)
  go_enter Try.func34, Try.ntmps34
  go_upto_region 4 with (first
    | (go_at_call 60; (with_reducible refine (HS.out _).mono ?_); rintro e w1 ⟨rfl, rfl⟩))
  have kg := Blk.new w 5 #[.int .u8 0]
  have h1 := h.alloc (.cells #[.int .u8 0] 5)
  have b1 := below_alloc (Below.refl w.heap.size w) (.cells #[.int .u8 0] 5)
  have hne : g ≠ w.heap.size := by have := h.lt; omega
  generalize w.alloc (.cells #[.int .u8 0] 5) = w1 at *
  have c0 := h1.cell 0
  have c1 := h1.cell 1
  have c2 := h1.cell 2
  clear hmk h
  go_wp2
  refine wp_loop_rounds 4 ?_
  rw [rounds_succ]
  have v0 : IntKind.i64.wrap 0 = 0 := by decide
  have v7 : IntKind.i64.wrap 7 = 7 := by decide
  have v1 : IntKind.i64.wrap 1 = 1 := by decide
  have v2 : IntKind.i64.wrap 2 = 2 := by decide
  have v5 : IntKind.i64.wrap 5 = 5 := by decide
  have v6 : IntKind.i64.wrap 6 = 6 := by decide
  have v128 : IntKind.i64.wrap 128 = 128 := by decide
  have v32 : IntKind.i64.wrap 32 = 32 := by decide
  have u0 : w1.cell? ⟨w.heap.size, 0, none⟩ = some (.int .u8 0) := kg.cell 0
  have f0 := kg.frozen 0
  have d0 : w1.drew.cell? ⟨w.heap.size, 0, none⟩ = some (.int .u8 0) := u0
  have d1 : w1.drew.frozen? ⟨w.heap.size, 0, none⟩ = false := f0
  have o1 : bits .or .u8 0 128 = 128 := by decide
  have o2 : bits .or .u8 128 0 = 128 := by decide
  have o3 : bits .or .u8 128 32 = 160 := by decide
  go_upto_region 10 with fail
  refine wp_still_tail 15 (by kernel_rfl) (by kernel_rfl) ?_
  simp only [List.take_succ_cons, List.take_zero, List.drop_succ_cons, List.drop_zero]
  repeat still_step
  refine wpStill_nil ?_
  go_wp2
  have kg2 : Blk (w1.setCell ⟨w.heap.size, 0, none⟩ (.int .u8 128)).drew w.heap.size 5 #[.int .u8 128] := kg.set_ 0 (.int .u8 128)
  have h2 : Blk (w1.setCell ⟨w.heap.size, 0, none⟩ (.int .u8 128)).drew g 3 #[.int .i64 1, .int .i64 0, .int .i64 1] := h1.far hne _
  have b2 : Below w.heap.size w (w1.setCell ⟨w.heap.size, 0, none⟩ (.int .u8 128)).drew := (b1.setCell (by simp) _).drew
  clear u0 f0 d0 d1 c0 c1 c2 kg h1 b1
  generalize (w1.setCell ⟨w.heap.size, 0, none⟩ (.int .u8 128)).drew = w2 at *
  have c0 := h2.cell 0
  have c1 := h2.cell 1
  have c2 := h2.cell 2
  have u0 : w2.cell? ⟨w.heap.size, 0, none⟩ = some (.int .u8 128) := kg2.cell 0
  have f0 := kg2.frozen 0
  have d0 : w2.drew.cell? ⟨w.heap.size, 0, none⟩ = some (.int .u8 128) := u0
  have d1 : w2.drew.frozen? ⟨w.heap.size, 0, none⟩ = false := f0
  rw [rounds_succ]
  go_upto_region 10 with fail
  refine wp_still_tail 15 (by kernel_rfl) (by kernel_rfl) ?_
  simp only [List.take_succ_cons, List.take_zero, List.drop_succ_cons, List.drop_zero]
  repeat still_step
  refine wpStill_nil ?_
  go_wp2
  have kg3 : Blk (w2.setCell ⟨w.heap.size, 0, none⟩ (.int .u8 128)).drew w.heap.size 5 #[.int .u8 128] := kg2.set_ 0 (.int .u8 128)
  have h3 : Blk (w2.setCell ⟨w.heap.size, 0, none⟩ (.int .u8 128)).drew g 3 #[.int .i64 1, .int .i64 0, .int .i64 1] := h2.far hne _
  have b3 : Below w.heap.size w (w2.setCell ⟨w.heap.size, 0, none⟩ (.int .u8 128)).drew := (b2.setCell (by simp) _).drew
  clear u0 f0 d0 d1 c0 c1 c2 kg2 h2 b2
  generalize (w2.setCell ⟨w.heap.size, 0, none⟩ (.int .u8 128)).drew = w3 at *
  have c0 := h3.cell 0
  have c1 := h3.cell 1
  have c2 := h3.cell 2
  have u0 : w3.cell? ⟨w.heap.size, 0, none⟩ = some (.int .u8 128) := kg3.cell 0
  have f0 := kg3.frozen 0
  have d0 : w3.drew.cell? ⟨w.heap.size, 0, none⟩ = some (.int .u8 128) := u0
  have d1 : w3.drew.frozen? ⟨w.heap.size, 0, none⟩ = false := f0
  rw [rounds_succ]
  go_upto_region 10 with fail
  refine wp_still_tail 15 (by kernel_rfl) (by kernel_rfl) ?_
  simp only [List.take_succ_cons, List.take_zero, List.drop_succ_cons, List.drop_zero]
  repeat still_step
  refine wpStill_nil ?_
  go_wp2
  have kg4 : Blk (w3.setCell ⟨w.heap.size, 0, none⟩ (.int .u8 160)).drew w.heap.size 5 (ic .u8 [160]).toArray := kg3.set_ 0 (.int .u8 160)
  have b4 : Below w.heap.size w (w3.setCell ⟨w.heap.size, 0, none⟩ (.int .u8 160)).drew := (b3.setCell (by simp) _).drew
  clear u0 f0 d0 d1 c0 c1 c2 kg3 h3 b3
  generalize (w3.setCell ⟨w.heap.size, 0, none⟩ (.int .u8 160)).drew = w4 at *
  rw [rounds_succ]
  go_wp2
  go_ret2
  refine ⟨w.heap.size, rfl, ⟨rfl, fun _ => ⟨_, rfl, kg4.lt, fun j u hu => ?_⟩⟩, b4⟩
  have h1 := kg4.seg 0 1 j u
  exact h1 hu
end Go.Proofs.Ytbbflddhbamjbaa

namespace Go.Proofs.Ytbbflddhbamjbaa
open Go.RowKit
section
variable {N : Nat} {lt : SI N → SI N → Bool}
theorem srtI_uniq (h : LeO lt) : ∀ (l l' : List (SI N)), Srd lt l → Srd lt l' → Srt lt l l' → l' = l
  | [], l', _, _, hs => by
    cases l' with
    | nil => rfl
    | cons y t =>
      have := (hs.mem h (x := y)).1 (List.mem_cons_self ..)
      cases this
  | x :: t, l', h1, h2, hs => by
    cases l' with
    | nil =>
      have := (hs.mem h (x := x)).2 (List.mem_cons_self ..)
      cases this
    | cons y t' =>
      have hy := (hs.mem h (x := y)).1 (List.mem_cons_self ..)
      have hx := (hs.mem h (x := x)).2 (List.mem_cons_self ..)
      have q1 : lt y x = false := by
        rcases List.mem_cons.1 hy with e | e
        · rw [e]; exact h.irr x
        · exact (List.pairwise_cons.1 h1).1 y e
      have q2 : lt x y = false := by
        rcases List.mem_cons.1 hx with e | e
        · rw [e]; exact h.irr y
        · exact (List.pairwise_cons.1 h2).1 x e
      have q3 : eqv lt x y = true := by simp [eqv, q1, q2]
      have h3 := hs x
      rw [List.filter_cons_of_pos q3, List.filter_cons_of_pos (eqv_self h x)] at h3
      injection h3 with e1 e2
      subst e1
      have ht : Srt lt t t' := fun z => by
        have h4 := hs z
        by_cases hz : eqv lt z y = true
        · rw [List.filter_cons_of_pos hz, List.filter_cons_of_pos hz] at h4
          injection h4
        · rw [List.filter_cons_of_neg hz, List.filter_cons_of_neg hz] at h4
          exact h4
      rw [srtI_uniq h t t' (List.pairwise_cons.1 h1).2 (List.pairwise_cons.1 h2).2 ht]
end
def kq : Pc := ⟨3, 1, 8, [[9, 2, 9]]⟩
def ka : Pal := ⟨8, 1, [[2], [9]]⟩
theorem kq_is : isB kq = true := by decide
theorem kq_dd : ddT kq.p 3 = [[9], [2]] := by decide
theorem kq_of2 : ofOk kq 2 = true := by rw [ofOk, kq_is]; decide
theorem kq_of1 : ofOk kq 1 = false := by rw [ofOk, kq_is]; decide
theorem known_of2 {P : Pal} {b : Bool} (h : OfIs kq 2 P b) : P = ka ∧ b = true := by
  have h2 : OfIs kq 2 ka true := ⟨kq_of2.symm, by rw [kq_of2, if_pos rfl]; exact ⟨rfl, rfl, by show [[2], [9]].Perm (ddT kq.p 3); rw [kq_dd]; exact List.Perm.swap _ _ _, by decide⟩⟩
  exact h.unique h2
theorem known_of1 {P : Pal} {b : Bool} (h : OfIs kq 1 P b) : P = palZ ∧ b = false := by
  have h2 : OfIs kq 1 palZ false := ⟨kq_of1.symm, by rw [kq_of1]; rfl⟩
  exact h.unique h2
theorem ka_idx : idxB kq ka = true ∧ idxL kq ka = [1, 0, 1] := by decide
theorem kn_srd : Srd (ltC (cntL [1, 0, 1] (1 + 1))) [(1 : SI 1), (0 : SI 1)] := by unfold Srd; decide
theorem kn_srt : ∀ x : SI 1, List.filter (eqv (ltC (cntL [1, 0, 1] (1 + 1))) x) (List.finRange (1 + 1)) = List.filter (eqv (ltC (cntL [1, 0, 1] (1 + 1))) x) [(1 : SI 1), (0 : SI 1)] := by decide
theorem known_rank {Q : Pal} {b : Bool} (h : RankIs kq ka Q b) : Q = ⟨8, 1, [[9], [2]]⟩ ∧ b = true := by
  obtain ⟨hb, hr⟩ := h
  rw [ka_idx.1] at hb
  rw [if_pos ka_idx.1, ka_idx.2] at hr
  obtain ⟨h1, h2, N, os, hN, hs, hd, hc⟩ := hr
  have hN1 : N = 1 := by have : ka.c.length = 2 := rfl; omega
  subst hN1
  have e : os = [(1 : SI 1), (0 : SI 1)] := srtI_uniq (ltC_leO _) _ _ kn_srd hd (fun x => by rw [hs x]; exact kn_srt x)
  subst e
  obtain ⟨d, n, c⟩ := Q
  simp only at h1 h2 hc
  exact ⟨by rw [h1, h2, hc]; rfl, hb⟩

theorem kof2_any {w : World} {A : Option Addr} (hr : RdLL w w.heap.size .i64 A [[9, 2, 9]]) : Calls Try.prog 18 #[.agg #[.int .i64 3, .int .i64 1, .int .i64 8, .slice A 1 1], .int .i64 2] w fun e w' => ∃ A' c', e = .returned (.tuple #[.agg #[.int .i64 8, .int .i64 1, .slice A' 2 c'], .bool true]) ∧ 2 ≤ c' ∧ RdLL w' w'.heap.size .i64 A' [[2], [9]] ∧ Below w.heap.size w w' := by
  refine (of_any (q := kq) (c := 1) (most := 2) hr (Nat.le_refl _)).mono ?_
  rintro e w' ⟨P, b, A', c', rfl, ho, hc, hr', hb⟩
  obtain ⟨rfl, rfl⟩ := known_of2 ho
  exact ⟨A', c', rfl, hc, hr', hb⟩
theorem kof1_any {w : World} {A : Option Addr} (hr : RdLL w w.heap.size .i64 A [[9, 2, 9]]) : Calls Try.prog 18 #[.agg #[.int .i64 3, .int .i64 1, .int .i64 8, .slice A 1 1], .int .i64 1] w fun e w' => ∃ A' c', e = .returned (.tuple #[.agg #[.int .i64 0, .int .i64 0, .slice A' 0 c'], .bool false]) ∧ Below w.heap.size w w' := by
  refine (of_any (q := kq) (c := 1) (most := 1) hr (Nat.le_refl _)).mono ?_
  rintro e w' ⟨P, b, A', c', rfl, ho, hc, hr', hb⟩
  obtain ⟨rfl, rfl⟩ := known_of1 ho
  exact ⟨A', c', rfl, hb⟩
theorem krank_any {w : World} {A A2 : Option Addr} {c2 : Nat} (hr : RdLL w w.heap.size .i64 A [[9, 2, 9]]) (hr2 : RdLL w w.heap.size .i64 A2 [[2], [9]]) : Calls Try.prog 19 #[.agg #[.int .i64 3, .int .i64 1, .int .i64 8, .slice A 1 1], .agg #[.int .i64 8, .int .i64 1, .slice A2 2 c2]] w fun e w' => ∃ A' c', e = .returned (.tuple #[.agg #[.int .i64 8, .int .i64 1, .slice A' 2 c'], .bool true]) ∧ RdLL w' w'.heap.size .i64 A' [[9], [2]] ∧ Below w.heap.size w w' := by
  refine (ranked_any (q := kq) (P := ka) (c := 1) (c2 := c2) hr hr2 (Nat.le_refl _)).mono ?_
  rintro e w' ⟨Q, b, A', c', rfl, ho, hc, hr', hb⟩
  obtain ⟨rfl, rfl⟩ := known_rank ho
  exact ⟨A', c', rfl, hr', hb⟩
theorem kidx_any {w : World} {A A2 : Option Addr} {c2 : Nat} (hr : RdLL w w.heap.size .i64 A [[9, 2, 9]]) (hr2 : RdLL w w.heap.size .i64 A2 [[2], [9]]) : Calls Try.prog 21 #[.agg #[.int .i64 3, .int .i64 1, .int .i64 8, .slice A 1 1], .agg #[.int .i64 8, .int .i64 1, .slice A2 2 c2]] w fun e w' => ∃ A' c', e = .returned (.tuple #[.slice A' 3 c', .bool true]) ∧ RdI w' w'.heap.size .i64 A' [1, 0, 1] ∧ Below w.heap.size w w' := by
  refine (index_any (q := kq) (P := ka) (c := 1) (c2 := c2) hr hr2 (Nat.le_refl _)).mono ?_
  rw [ka_idx.1, ka_idx.2]
  rintro e w' ⟨A', c', rfl, hc, hr', hb⟩
  exact ⟨A', c', rfl, hr', hb⟩
theorem kmay_any (w : World) : Calls Try.prog 37 #[.agg #[.int .i64 0, .int .i64 0, .slice none 0 0]] w fun e w' => e = .returned (.bool false) ∧ Below w.heap.size w w' := by
  have h := may_any (P := palZ) (A := none) (c := 0) (w := w) (B := w.heap.size) (fun j hj => absurd hj (by simp [palZ])) (Nat.le_refl _)
  rw [show palB palZ = false by decide] at h
  exact h
/-- rows laid out -/
theorem lit_rows {w : World} {g0 g1 h : Nat} {a b : List Int} (k0 : Blk w g0 3 (ic .i64 a).toArray) (k1 : Blk w g1 3 (ic .i64 b).toArray) (kh : Blk w h 22 #[.slice (some ⟨g0, 0, none⟩) a.length a.length, .slice (some ⟨g1, 0, none⟩) b.length b.length]) : RdLL w w.heap.size .i64 (some ⟨h, 0, none⟩) [a, b] := fun j hj => by
  have r0 := blk_rd k0 a.length
  have r1 := blk_rd k1 b.length
  rw [List.take_length] at r0 r1
  match j, hj with
  | 0, _ => exact ⟨_, _, _, rfl, kh.lt, by rw [add_mk]; exact kh.cell 0, Nat.le_refl _, r0⟩
  | 1, _ => exact ⟨_, _, _, rfl, kh.lt, by rw [add_mk]; exact kh.cell 1, Nat.le_refl _, r1⟩
theorem lit_row1 {w : World} {g0 h : Nat} {a : List Int} (k0 : Blk w g0 3 (ic .i64 a).toArray) (kh : Blk w h 22 #[.slice (some ⟨g0, 0, none⟩) a.length a.length]) : RdLL w w.heap.size .i64 (some ⟨h, 0, none⟩) [a] := fun j hj => by
  have r0 := blk_rd k0 a.length
  rw [List.take_length] at r0
  match j, hj with
  | 0, _ => exact ⟨_, _, _, rfl, kh.lt, by rw [add_mk]; exact kh.cell 0, Nat.le_refl _, r0⟩

/-- two rows of one number beside two just laid out -/
theorem krows_any {w0 : World} {A : Option Addr} {c : Nat} {a b : Int} (hr : ∀ W, Below w0.heap.size w0 W → RdLL W W.heap.size .i64 A [[a], [b]]) :
    Calls Try.prog 35 #[.slice A 2 c, .slice (some ⟨w0.heap.size + 1 + 1, 0, none⟩) 2 2] (((w0.alloc (.cells #[.int .i64 a] 3)).alloc (.cells #[.int .i64 b] 3)).alloc (.cells #[.slice (some ⟨w0.heap.size, 0, none⟩) 1 1, .slice (some ⟨w0.heap.size + 1, 0, none⟩) 1 1] 22)) fun e w' => e = .returned (.bool true) ∧ Below w0.heap.size w0 w' := by
  have k0 := ((Blk.new w0 3 (ic .i64 [a]).toArray).alloc (.cells #[.int .i64 b] 3)).alloc (.cells #[.slice (some ⟨w0.heap.size, 0, none⟩) 1 1, .slice (some ⟨w0.heap.size + 1, 0, none⟩) 1 1] 22)
  have k1 := (Blk.new1 w0 (.cells #[.int .i64 a] 3) 3 (ic .i64 [b]).toArray).alloc (.cells #[.slice (some ⟨w0.heap.size, 0, none⟩) 1 1, .slice (some ⟨w0.heap.size + 1, 0, none⟩) 1 1] 22)
  have k2 := Blk.new2 w0 (.cells #[.int .i64 a] 3) (.cells #[.int .i64 b] 3) 22 #[.slice (some ⟨w0.heap.size, 0, none⟩) 1 1, .slice (some ⟨w0.heap.size + 1, 0, none⟩) 1 1]
  have hb := below_alloc (below_alloc (below_alloc (Below.refl w0.heap.size w0) (.cells #[.int .i64 a] 3)) (.cells #[.int .i64 b] 3)) (.cells #[.slice (some ⟨w0.heap.size, 0, none⟩) 1 1, .slice (some ⟨w0.heap.size + 1, 0, none⟩) 1 1] 22)
  rw [show ((ic .i64 [a]).toArray : Array Value) = #[.int .i64 a] from rfl] at k0
  rw [show ((ic .i64 [b]).toArray : Array Value) = #[.int .i64 b] from rfl] at k1
  have h2 := lit_rows (a := [a]) (b := [b]) k0 k1 k2
  have h1 := hr _ hb
  refine (rows_any (a := [[a], [b]]) (b := [[a], [b]]) (c := c) (c2 := 2) h1 h2 ⟨by simp, by intro l hl; rcases List.mem_cons.1 hl with e | e; · rw [e]; simp
                                                                                             · rw [List.mem_singleton.1 e]; simp⟩).mono ?_
  rintro e w' ⟨rfl, n, rfl⟩
  exact ⟨by simp, below_drewN hb n⟩
theorem kints_any {w0 : World} {A : Option Addr} {c : Nat} (hr : ∀ W, Below w0.heap.size w0 W → RdI W W.heap.size .i64 A [1, 0, 1]) :
    Calls Try.prog 26 #[.slice A 3 c, .slice (some ⟨w0.heap.size, 0, none⟩) 3 3] (w0.alloc (.cells #[.int .i64 1, .int .i64 0, .int .i64 1] 3)) fun e w' => e = .returned (.bool true) ∧ Below w0.heap.size w0 w' := by
  have k0 := Blk.new w0 3 (ic .i64 [1, 0, 1]).toArray
  have hb := below_alloc (Below.refl w0.heap.size w0) (.cells #[.int .i64 1, .int .i64 0, .int .i64 1] 3)
  rw [show ((ic .i64 [1, 0, 1]).toArray : Array Value) = #[.int .i64 1, .int .i64 0, .int .i64 1] from rfl] at k0
  have h2 := blk_rd (l := [1, 0, 1]) k0 3
  rw [show ([1, 0, 1] : List Int).take 3 = [1, 0, 1] from rfl] at h2
  have h1 := hr _ hb
  refine (ints_any (a := [1, 0, 1]) (b := [1, 0, 1]) (c := c) (c2 := 3) h1 h2 (by simp)).mono ?_
  rintro e w' ⟨rfl, n, rfl⟩
  exact ⟨by simp, below_drewN hb n⟩

set_option maxHeartbeats 8000000 in
set_option maxRecDepth 100000 in
theorem known_any (w : World) : Calls Try.prog 13 #[] w fun e w' => e = .returned (.bool true) ∧ Below w.heap.size w w' := by
  go_enter Try.func13, Try.ntmps13
  go_upto_region 2 with fail
  have kx := ((Blk.new w 3 (ic .i64 [9, 2, 9]).toArray).alloc (.cells #[.slice (some ⟨w.heap.size, 0, none⟩) 3 3] 22)).alloc (.cells #[.int .i64 3, .int .i64 1, .int .i64 8, .slice (some ⟨w.heap.size + 1, 0, none⟩) 1 1] 30)
  have ky := (Blk.new1 w (.cells (ic .i64 [9, 2, 9]).toArray 3) 22 #[.slice (some ⟨w.heap.size, 0, none⟩) 3 3]).alloc (.cells #[.int .i64 3, .int .i64 1, .int .i64 8, .slice (some ⟨w.heap.size + 1, 0, none⟩) 1 1] 30)
  have kz := Blk.new2 w (.cells (ic .i64 [9, 2, 9]).toArray 3) (.cells #[.slice (some ⟨w.heap.size, 0, none⟩) 3 3] 22) 30 #[.int .i64 3, .int .i64 1, .int .i64 8, .slice (some ⟨w.heap.size + 1, 0, none⟩) 1 1]
  have b3 := below_alloc (below_alloc (below_alloc (Below.refl w.heap.size w) (.cells (ic .i64 [9, 2, 9]).toArray 3)) (.cells #[.slice (some ⟨w.heap.size, 0, none⟩) 3 3] 22)) (.cells #[.int .i64 3, .int .i64 1, .int .i64 8, .slice (some ⟨w.heap.size + 1, 0, none⟩) 1 1] 30)
  rw [show ((ic .i64 [9, 2, 9]).toArray : Array Value) = #[.int .i64 9, .int .i64 2, .int .i64 9] from rfl] at kx ky kz b3
  generalize ((w.alloc (.cells #[.int .i64 9, .int .i64 2, .int .i64 9] 3)).alloc (.cells #[.slice (some ⟨w.heap.size, 0, none⟩) 3 3] 22)).alloc (.cells #[.int .i64 3, .int .i64 1, .int .i64 8, .slice (some ⟨w.heap.size + 1, 0, none⟩) 1 1] 30) = w3 at *
  have hr := lit_row1 (a := [9, 2, 9]) kx ky
  have HRp := Lib.hid (fun W (h : Below w3.heap.size w3 W) => hr.to (Nat.le_refl _) h)
  have hkz := kz.lt
  clear kx ky hr
  have p0 := kz.cell 0
  have p1 := kz.cell 1
  have p2 := kz.cell 2
  have p3 := kz.cell 3
  go_upto_region 3 with (first
    | (go_at_call 18; (with_reducible refine (kof2_any (HRp.out _ (Below.refl _ _))).mono ?_); rintro e w4 ⟨A4, c4, rfl, hc4, hr4, hb4⟩))
  have kz4 := (kz.below hb4 hkz).alloc (.cells #[.int .i64 8, .int .i64 1, .slice A4 2 c4] 25)
  have ka4 := Blk.new w4 25 #[.int .i64 8, .int .i64 1, .slice A4 2 c4]
  have b5 := below_alloc hb4 (.cells #[.int .i64 8, .int .i64 1, .slice A4 2 c4] 25)
  have hr5 := hr4.to (Nat.le_refl _) (below_alloc (Below.refl w4.heap.size w4) (.cells #[.int .i64 8, .int .i64 1, .slice A4 2 c4] 25))
  obtain ⟨ga, hga⟩ : ∃ ga, ga = w4.heap.size := ⟨_, rfl⟩
  rw [← hga] at ka4 ⊢
  clear hga hr4
  generalize w4.alloc (.cells #[.int .i64 8, .int .i64 1, .slice A4 2 c4] 25) = w5 at *
  clear p0 p1 p2 p3
  have p0 := kz4.cell 0
  have p1 := kz4.cell 1
  have p2 := kz4.cell 2
  have p3 := kz4.cell 3
  have hga5 := ka4.lt
  have HRa := Lib.hid (fun W (h : Below w5.heap.size w5 W) => hr5.to (Nat.le_refl _) h)
  clear hr5
  go_upto_region 4 with (first
    | (go_at_call 18; (with_reducible refine (kof1_any (HRp.out _ b5)).mono ?_); rintro e w6 ⟨A6, c6, rfl, hb6⟩))
  have b56 := below_alloc hb6 (.cells #[.int .i64 0, .int .i64 0, .slice A6 0 c6] 25)
  generalize w6.alloc (.cells #[.int .i64 0, .int .i64 0, .slice A6 0 c6] 25) = w7 at *
  have b37 := b5.trans (b56.mono b5.size)
  have kz7 := kz4.below b56 kz4.lt
  have ka7 := ka4.below b56 hga5
  clear p0 p1 p2 p3
  have p0 := kz7.cell 0
  have p1 := kz7.cell 1
  have p2 := kz7.cell 2
  have p3 := kz7.cell 3
  have q0 := ka7.cell 0
  have q1 := ka7.cell 1
  have q2 := ka7.cell 2
  go_upto_region 5 with (first
    | (go_at_call 19; (with_reducible refine (krank_any (HRp.out _ b37) (HRa.out _ b56)).mono ?_); rintro e w8 ⟨A8, c8, rfl, hr8, hb8⟩))
  have kz9 := (kz7.below hb8 kz7.lt).alloc (.cells #[.int .i64 8, .int .i64 1, .slice A8 2 c8] 25)
  have ka9 := (ka7.below hb8 ka7.lt).alloc (.cells #[.int .i64 8, .int .i64 1, .slice A8 2 c8] 25)
  have kb9 := Blk.new w8 25 #[.int .i64 8, .int .i64 1, .slice A8 2 c8]
  have b79 := below_alloc hb8 (.cells #[.int .i64 8, .int .i64 1, .slice A8 2 c8] 25)
  have hr9 := hr8.to (Nat.le_refl _) (below_alloc (Below.refl w8.heap.size w8) (.cells #[.int .i64 8, .int .i64 1, .slice A8 2 c8] 25))
  obtain ⟨gb, hgb⟩ : ∃ gb, gb = w8.heap.size := ⟨_, rfl⟩
  rw [← hgb] at kb9 ⊢
  clear hgb hr8
  generalize w8.alloc (.cells #[.int .i64 8, .int .i64 1, .slice A8 2 c8] 25) = w9 at *
  have b39 := b37.trans (b79.mono b37.size)
  have b59 := b56.trans (b79.mono b56.size)
  have HRb := Lib.hid (fun W (h : Below w9.heap.size w9 W) => hr9.to (Nat.le_refl _) h)
  clear p0 p1 p2 p3 q0 q1 q2 hr9
  have p0 := kz9.cell 0
  have p1 := kz9.cell 1
  have p2 := kz9.cell 2
  have p3 := kz9.cell 3
  have q0 := ka9.cell 0
  have q1 := ka9.cell 1
  have q2 := ka9.cell 2
  go_upto_region 6 with (first
    | (go_at_call 21; (with_reducible refine (kidx_any (HRp.out _ b39) (HRa.out _ b59)).mono ?_); rintro e w10 ⟨A10, c10, rfl, hr10, hb10⟩))
  have HRi := Lib.hid (fun W (h : Below w10.heap.size w10 W) => (hr10.below h (Nat.le_refl _)).more h.size)
  have ka10 := ka9.below hb10 ka9.lt
  have kb10 := kb9.below hb10 kb9.lt
  have HPk := Lib.hid (pack3_any (Blk.new w10 3 #[.int .i64 1, .int .i64 0, .int .i64 1]))
  have b911 := below_alloc hb10 (.cells #[.int .i64 1, .int .i64 0, .int .i64 1] 3)
  have ka11 := ka10.alloc (.cells #[.int .i64 1, .int .i64 0, .int .i64 1] 3)
  have kb11 := kb10.alloc (.cells #[.int .i64 1, .int .i64 0, .int .i64 1] 3)
  have b1011 := below_alloc (Below.refl w10.heap.size w10) (.cells #[.int .i64 1, .int .i64 0, .int .i64 1] 3)
  clear p0 p1 p2 p3 q0 q1 q2
  go_upto_region 7 with (first
    | (go_at_call 34; (with_reducible refine HPk.out.mono ?_); rintro e w12 ⟨g12, rfl, hr12, hb12⟩))
  have ka12 := ka11.below hb12 ka11.lt
  have kb12 := kb11.below hb12 kb11.lt
  have b1012 := b1011.trans (hb12.mono b1011.size)
  have b912 := hb10.trans (b1012.mono hb10.size)
  have HRi12 := Lib.hid (fun W (h : Below w12.heap.size w12 W) => HRi.out W (b1012.trans (h.mono b1012.size)))
  have HRa12 := Lib.hid (fun W (h : Below w12.heap.size w12 W) => HRa.out W ((b59.trans (b912.mono b59.size)).trans (h.mono (b59.trans (b912.mono b59.size)).size)))
  have HRb12 := Lib.hid (fun W (h : Below w12.heap.size w12 W) => HRb.out W (b912.trans (h.mono b912.size)))
  have HR12 := Lib.hid (fun W (h : Below w12.heap.size w12 W) => hr12.below h (Nat.le_refl _))
  have b012 := b3.trans ((b39.trans (b912.mono b39.size)).mono b3.size)
  have q2 := ka12.cell 2
  have r2 := kb12.cell 2
  clear HPk hr12 hr10 kz kz4 kz7 kz9 ka4 ka7 ka9 ka10 ka11 kb9 kb10 kb11 hb10 hb12 b911 b1011 b1012 b912 hb4 hb6 hb8 b5 b56 b37 b39 b59 b79 b3
  go_wp2_with (first
    | (go_at_call 35; (with_reducible refine (krows_any (a := 2) (b := 9) HRa12.out).mono ?_); rintro e w13 ⟨rfl, hb13⟩; have r13 := (kb12.below hb13 kb12.lt).cell 2; have HK13 := Lib.hid hb13; clear hb13)
    | (go_at_call 35; (with_reducible refine (krows_any (a := 9) (b := 2) (fun W hW => HRb12.out W (HK13.out.trans (hW.mono HK13.out.size)))).mono ?_); rintro e w14 ⟨rfl, hb14⟩; have HK14 := Lib.hid (HK13.out.trans (hb14.mono HK13.out.size)); clear hb14)
    | (go_at_call 26; (with_reducible refine (kints_any (fun W hW => HRi12.out W (HK14.out.trans (hW.mono HK14.out.size)))).mono ?_); rintro e w15 ⟨rfl, hb15⟩; have HK15 := Lib.hid (HK14.out.trans (hb15.mono HK14.out.size)); clear hb15; have g1 := run_str (P := Try.prog) Try.underlying62 Try.underlying5 Try.underlying9 (HR12.out _ HK15.out) 1; rw [show str [160] = ⟨#[160]⟩ from rfl, show ([160] : List Int).length = 1 from rfl] at g1)
    | (go_at_call 36; (with_reducible refine (bits5_any _).mono ?_); rintro e w16 ⟨rfl, rfl⟩)
    | (go_at_call 37; (with_reducible refine (kmay_any _).mono ?_); rintro e w17 ⟨rfl, hb17⟩))
  go_ret
  have h17 := HK15.out.trans (hb17.mono HK15.out.size)
  exact ⟨rfl, b012.trans (h17.mono b012.size)⟩
end Go.Proofs.Ytbbflddhbamjbaa
