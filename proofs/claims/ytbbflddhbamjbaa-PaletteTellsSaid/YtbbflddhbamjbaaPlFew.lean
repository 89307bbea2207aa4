/- few of the palette laws: a picture of few colours. -/
import Derived.Test.YtbbflddhbamjbaaPlL
import Derived.Test.YtbbflddhbamjbaaPicFacts
import Derived.Deep.DeepCutAuto
import Derived.Test.YtbbflddhbamjbaaPlOwn
import Derived.Test.YtbbflddhbamjbaaPicPic
set_option linter.unusedSimpArgs false
set_option linter.unusedVariables false
namespace Go.Proofs.Ytbbflddhbamjbaa
open Go.RowKit

set_option maxHeartbeats 4000000 in
theorem heavypal_any {w : World} {B : Nat} {P : Pal} {A : Option Addr} {c : Nat} (hr : RdLL w B .i64 A P.c) (hB : B ≤ w.heap.size) (h63 : Len63 P.c) :
    Calls Try.prog 7 #[palV P A c] w fun e w' => (e = .returned (.bool true) ∨ e = .returned (.bool false)) ∧ Below w.heap.size w w' := by
  obtain ⟨pd, pn, pc⟩ := P
  simp only [palV] at *
  obtain ⟨s1, s2⟩ := h63
  have HS := Lib.hid s2
  clear s2
  go_enter Try.func7, Try.ntmps7
  go_wp2
  have k0 := (Blk.new w 25 #[.int .i64 pd, .int .i64 pn, .slice A pc.length c])
  have bxa := below_alloc (Below.refl w.heap.size w) (.cells #[.int .i64 pd, .int .i64 pn, .slice A pc.length c] 25)
  generalize w.alloc (.cells #[.int .i64 pd, .int .i64 pn, .slice A pc.length c] 25) = wa at *
  have hra := hr.below bxa hB
  have y3 := k0.cell 2
  go_loop [3, 4] (fun u i => ∃ (j : Nat) (n : Int), j ≤ pc.length ∧ i = .int .i64 j ∧ u = .int .i64 n) (fun _ i => pc.length - (intOf i).toNat)
  case atStart => exact ⟨0, 0, Nat.zero_le _, rfl, rfl⟩
  case round =>
    obtain ⟨j, n, hj, rfl, rfl⟩ := hrel
    by_cases hlt : j < pc.length
    · obtain ⟨ad, Aj, cj, rfl, hadB, hcell, hcj, hrj⟩ := hra j hlt
      clear hrj
      generalize (pc.getD j []).length = m at *
      go_wp2
      · go_ret
        exact ⟨.inl rfl, bxa⟩
      · exact ⟨⟨j + 1, _, by omega, by go_num, rfl⟩, by simp [intOf]; omega⟩
    · have hjl : j = pc.length := by omega
      subst hjl
      go_wp2
      go_ret
      exact ⟨.inr rfl, bxa⟩
end Go.Proofs.Ytbbflddhbamjbaa

namespace Go.Proofs.Ytbbflddhbamjbaa
open Go.RowKit
/-- rows before j, and k numbers of row j, are below three -/
def FewI (d : Int) (L n : Nat) (ls : List (List Int)) (j k : Nat) : Prop :=
  ls.length = n ∧ ∀ i, i < n → (ls.getD i []).length = L ∧ ∀ m, m < L → okV d ((ls.getD i []).getD m 0) = true ∧ ((i < j ∨ (i = j ∧ m < k)) → (ls.getD i []).getD m 0 < 3)
section
variable {d : Int} {L n : Nat} {ls : List (List Int)} {j k m : Nat} {y : Int}
theorem FewI.start {W H : Int} (h : isB ⟨W, H, d, ls⟩ = true) (hL : (L : Int) = W * H) : FewI d L ls.length ls 0 0 := by
  rw [isB, Bool.and_eq_true, List.all_eq_true] at h
  refine ⟨rfl, fun i hi => ?_⟩
  have h1 := h.2 (ls.getD i []) (by simp [List.getD, List.getElem?_eq_getElem hi])
  rw [okPl, Bool.and_eq_true, decide_eq_true_eq, List.all_eq_true] at h1
  have h2 : (ls.getD i []).length = L := by have := h1.1; simp only at this; omega
  refine ⟨h2, fun m hm => ⟨h1.2 _ ?_, fun h => by omega⟩⟩
  rw [← h2] at hm
  generalize ls.getD i [] = r at *
  rw [List.getD_eq_getElem?_getD, List.getElem?_eq_getElem hm]
  exact List.getElem_mem hm
theorem FewI.set (h : FewI d L n ls j k) (hj : j < n) (hm : m < L) (hy : okV d y = true) (h3 : y < 3) : FewI d L n (ls.set j ((ls.getD j []).set m y)) j k := by
  obtain ⟨h1, h2⟩ := h
  refine ⟨by rw [List.length_set]; exact h1, fun i hi => ?_⟩
  by_cases hij : j = i
  · subst hij
    have e : (ls.set j ((ls.getD j []).set m y)).getD j [] = (ls.getD j []).set m y := by
      rw [List.getD_eq_getElem?_getD, List.getElem?_set_self (by omega)]; rfl
    obtain ⟨h3', h4⟩ := h2 j hi
    rw [e, List.length_set]
    clear e
    generalize ls.getD j [] = r at *
    refine ⟨h3', fun m' hm' => ?_⟩
    by_cases hmm : m = m'
    · subst hmm
      have e2 : (r.set m y).getD m 0 = y := by rw [List.getD_eq_getElem?_getD, List.getElem?_set_self (by omega)]; rfl
      rw [e2]
      exact ⟨hy, fun _ => h3⟩
    · have e2 : (r.set m y).getD m' 0 = r.getD m' 0 := by rw [List.getD_eq_getElem?_getD, List.getElem?_set_ne hmm, List.getD_eq_getElem?_getD]
      rw [e2]
      exact h4 m' hm'
  · have e : (ls.set j ((ls.getD j []).set m y)).getD i [] = ls.getD i [] := by rw [List.getD_eq_getElem?_getD, List.getElem?_set_ne hij, List.getD_eq_getElem?_getD]
    rw [e]
    exact h2 i hi
theorem FewI.up (h : FewI d L n ls j k) (h3 : (ls.getD j []).getD k 0 < 3) : FewI d L n ls j (k + 1) := by
  refine ⟨h.1, fun i hi => ⟨(h.2 i hi).1, fun m hm => ⟨((h.2 i hi).2 m hm).1, fun hc => ?_⟩⟩⟩
  by_cases hmk : i = j ∧ m = k
  · rw [hmk.1, hmk.2]; exact h3
  · exact ((h.2 i hi).2 m hm).2 (by omega)
theorem FewI.next (h : FewI d L n ls j L) : FewI d L n ls (j + 1) 0 :=
  ⟨h.1, fun i hi => ⟨(h.2 i hi).1, fun m hm => ⟨((h.2 i hi).2 m hm).1, fun hc => ((h.2 i hi).2 m hm).2 (by omega)⟩⟩⟩
theorem FewI.at_ (h : FewI d L n ls j k) {i m : Nat} (hi : i < n) (hm : m < L) : ∃ x : Nat, (ls.getD i []).getD m 0 = x ∧ okV d x = true ∧ ∀ y : Nat, y ≤ x → okV d y = true := by
  have h1 := ((h.2 i hi).2 m hm).1
  generalize (ls.getD i []).getD m 0 = v at *
  have h2 := h1
  simp only [okV, decide_eq_true_eq] at h2
  refine ⟨v.toNat, by omega, by rw [show ((v.toNat : Nat) : Int) = v by omega]; exact h1, fun y hy => ?_⟩
  simp only [okV, decide_eq_true_eq]
  omega
theorem FewI.set_at (h : FewI d L n ls j k) (hj : j < n) (hm : m < L) : ((ls.set j ((ls.getD j []).set m y)).getD j []).getD m 0 = y := by
  have h1 := (h.2 j hj).1
  have e : (ls.set j ((ls.getD j []).set m y)).getD j [] = (ls.getD j []).set m y := by
    rw [List.getD_eq_getElem?_getD, List.getElem?_set_self (by rw [h.1]; exact hj)]; rfl
  rw [e, List.getD_eq_getElem?_getD, List.getElem?_set_self (by omega)]; rfl
theorem FewI.done {W H : Int} (h : FewI d L n ls n 0) (hL : (L : Int) = W * H) (hp : possB W H d n = true) : isB ⟨W, H, d, ls⟩ = true ∧ ∀ l ∈ ls, ∀ x ∈ l, x < 3 := by
  refine ⟨?_, fun l hl x hx => ?_⟩
  · rw [isB, Bool.and_eq_true, List.all_eq_true]
    refine ⟨by rw [← h.1] at hp; exact hp, fun l (hl : l ∈ ls) => ?_⟩
    obtain ⟨i, hi, rfl⟩ := List.getElem_of_mem hl
    obtain ⟨h2, h3⟩ := h.2 i (by rw [← h.1]; exact hi)
    rw [show ls.getD i [] = ls[i] by simp [List.getD_eq_getElem?_getD, List.getElem?_eq_getElem hi]] at h2 h3
    rw [okPl, Bool.and_eq_true, decide_eq_true_eq, List.all_eq_true]
    refine ⟨by rw [h2]; exact hL, fun x hx => ?_⟩
    obtain ⟨m, hm, rfl⟩ := List.getElem_of_mem hx
    have h4 := (h3 m (by omega)).1
    rwa [show (ls[i]).getD m 0 = ls[i][m] by simp [List.getD_eq_getElem?_getD, List.getElem?_eq_getElem hm]] at h4
  · obtain ⟨i, hi, rfl⟩ := List.getElem_of_mem hl
    obtain ⟨h2, h3⟩ := h.2 i (by rw [← h.1]; exact hi)
    rw [show ls.getD i [] = ls[i] by simp [List.getD_eq_getElem?_getD, List.getElem?_eq_getElem hi]] at h2 h3
    obtain ⟨m, hm, rfl⟩ := List.getElem_of_mem hx
    have h4 := (h3 m (by omega)).2 (by rw [← h.1]; omega)
    rwa [show (ls[i]).getD m 0 = ls[i][m] by simp [List.getD_eq_getElem?_getD, List.getElem?_eq_getElem hm]] at h4
end
theorem blk_ne {w : World} {g g2 : Nat} {t t2 : TypeId} {cs cs2 : Array Value} (h : Blk w g t cs) (h2 : Blk w g2 t2 cs2) (hne : t ≠ t2) : g ≠ g2 := by
  rintro rfl
  unfold Blk at h h2
  rw [h] at h2
  injection h2 with h2
  injection h2 with _ h3
  exact hne h3
set_option maxHeartbeats 8000000 in
set_option maxRecDepth 100000 in
theorem few_any {w : World} {B g : Nat} (h : TapeB w B g) :
    Calls Try.prog 9 #[.pointer (some ⟨g, 0, none⟩)] w fun e w' => ∃ (W H d : Nat) (p : List (List Int)) (A : Option Addr) (c : Nat), e = .returned (.agg #[.int .i64 (W : Int), .int .i64 (H : Int), .int .i64 (d : Int), .slice A p.length c]) ∧
      isB ⟨W, H, d, p⟩ = true ∧ (W : Int) ≤ 14 ∧ (H : Int) ≤ 14 ∧ (∀ l ∈ p, ∀ x ∈ l, x < 3) ∧ OwnLL w' w.heap.size 22 3 .i64 (.slice A p.length c) p ∧ TapeB w' B g ∧ w.grownBy w' (some g) := by
  have hgl := h.lt
  have hB := h.ge
  have hZ0 := Blk.new w 30 #[.int .i64 0, .int .i64 0, .int .i64 0, .slice none 0 0]
  have hT0 := h.alloc (.cells #[.int .i64 0, .int .i64 0, .int .i64 0, .slice none 0 0] 30)
  have hg0 := only_alloc (only_refl w (some g)) (.cells #[.int .i64 0, .int .i64 0, .int .i64 0, .slice none 0 0] 30)
  have HP := Lib.hid (tapepic_any hT0 14 (by omega) (by omega))
  go_enter Try.func9, Try.ntmps9
  go_upto_region 2 with (first
    | (go_at_call 15; (with_reducible refine HP.out.mono ?_); rintro e w1 ⟨W, H, d, p, A1, c1, rfl, hIs, hW, hH, hOwn, hT1, hg1⟩))
  have hg2 := only_alloc (only_trans hg0 hg1) (.cells #[.int .i64 W, .int .i64 H, .int .i64 d, .slice A1 p.length c1] 30)
  have hsz1 := hg1.size
  simp at hsz1
  have hZ2 := (hZ0.grown hg1 (by simp; omega)).alloc (.cells #[.int .i64 W, .int .i64 H, .int .i64 d, .slice A1 p.length c1] 30)
  have hT2 := hT1.alloc (.cells #[.int .i64 W, .int .i64 H, .int .i64 d, .slice A1 p.length c1] 30)
  have hC2 := Blk.new w1 30 #[.int .i64 W, .int .i64 H, .int .i64 d, .slice A1 p.length c1]
  have hO2 := hOwn.below (below_alloc (Below.refl _ _) (.cells #[.int .i64 W, .int .i64 H, .int .i64 d, .slice A1 p.length c1] 30))
  obtain ⟨gp, hgp⟩ : ∃ gp, gp = w1.heap.size := ⟨_, rfl⟩
  rw [← hgp] at hC2 hsz1 ⊢
  clear hOwn hT1 hg1 hT0 hg0 hZ0 HP
  generalize w1.alloc (.cells #[.int .i64 W, .int .i64 H, .int .i64 d, .slice A1 p.length c1] 30) = w2 at *
  clear hgp
  have hps : possB W H d p.length = true := by rw [isB, Bool.and_eq_true] at hIs; exact hIs.1
  have hpd := hps
  simp only [possB, decide_eq_true_eq] at hpd
  obtain ⟨m1, m2⟩ := mul_64 (a := W) (b := H) (by omega) (by omega)
  obtain ⟨L, hL⟩ : ∃ L : Nat, (L : Int) = W * H := ⟨W * H, by simp⟩
  rw [← hL] at m1 m2
  have hF2 := Lib.hid (FewI.start hIs hL)
  have HD := Lib.hid (fun ls (h : FewI d L p.length ls p.length 0) => h.done hL hps)
  have hn : 1 ≤ p.length ∧ p.length ≤ 4 := by omega
  generalize hN : p.length = n at *
  clear hIs hps hL
  obtain ⟨G, hA1, hbs⟩ : ∃ G, A1 = some ⟨G, 0, none⟩ ∧ n ≤ c1 := by
    obtain ⟨G, C, g1, cg, hv, hC, _⟩ := hO2.cell_ (j := 0) (i := 0) (by decide) (by omega) (by rw [(hF2.out.2 0 (by omega)).1]; omega)
    simp only [Value.slice.injEq, Option.some.injEq, Addr.mk.injEq, and_true] at hv
    exact ⟨G, hv.1, by omega⟩
  subst hA1
  replace hO2 := hO2.base_ (base' := w.heap.size + 1) (by simp)
  replace hC2 : Blk w2 gp 30 #[.int .i64 W, .int .i64 H, .int .i64 d, .slice (some ⟨G, 0, none⟩) n c1] := hC2
  go_wp2
  go_loopw [4] (fun iv w3 => ∃ (j : Nat) (ls : List (List Int)), j ≤ n ∧ iv = .int .i64 j ∧ FewI d L n ls j 0 ∧ OwnLL w3 (w.heap.size + 1) 22 3 .i64 (.slice (some ⟨G, 0, none⟩) n c1) ls ∧ Blk w3 w.heap.size 30 #[.int .i64 0, .int .i64 0, .int .i64 0, .slice none 0 0] ∧ Blk w3 gp 30 #[.int .i64 W, .int .i64 H, .int .i64 d, .slice (some ⟨G, 0, none⟩) n c1] ∧ TapeB w3 B g ∧ w.grownBy w3 (some g)) (fun iv _ => n - (intOf iv).toNat)
  case atStart => exact ⟨0, p, Nat.zero_le _, rfl, hF2.out, hO2, hZ2, hC2, hT2, hg2⟩
  case round =>
    obtain ⟨j, ls, hj, rfl, hF, hO, hZ, hC, hT, hG⟩ := hrel
    have hF := Lib.hid hF
    have hO := Lib.hid hO
    by_cases hjn : j < n
    · obtain ⟨k0, k1, k2, k3, _⟩ := hC.four
      go_wp2
      go_loopw [5] (fun kv w3 => ∃ (k : Nat) (ls : List (List Int)), k ≤ L ∧ kv = .int .i64 k ∧ FewI d L n ls j k ∧ OwnLL w3 (w.heap.size + 1) 22 3 .i64 (.slice (some ⟨G, 0, none⟩) n c1) ls ∧ Blk w3 w.heap.size 30 #[.int .i64 0, .int .i64 0, .int .i64 0, .slice none 0 0] ∧ Blk w3 gp 30 #[.int .i64 W, .int .i64 H, .int .i64 d, .slice (some ⟨G, 0, none⟩) n c1] ∧ TapeB w3 B g ∧ w.grownBy w3 (some g)) (fun kv _ => L - (intOf kv).toNat)
      case atStart => exact ⟨0, ls, Nat.zero_le _, rfl, hF.out, hO.out, hZ, hC, hT, hG⟩
      case round =>
        clear hF hO hZ hC hT hG k0 k1 k2 k3
        rename_i wo _ _ _
        obtain ⟨k, ls, hk, rfl, hF, hO, hZ, hC, hT, hG⟩ := hrel
        by_cases hkl : k < L
        · obtain ⟨G', C, gr, cg, hv, hCc, hcell, hcg, hgb, hgc, hgf, ⟨cur, hcur⟩, hset⟩ := hO.cell_ (j := j) (i := k) (by decide) (by rw [hF.1]; exact hjn) (by rw [(hF.2 j hjn).1]; exact hkl)
          simp only [Value.slice.injEq, Option.some.injEq, Addr.mk.injEq, and_true] at hv
          obtain ⟨rfl, hclr, rfl⟩ := hv
          obtain ⟨x, hx, hxk, hxm⟩ := hF.at_ hjn hkl
          obtain ⟨_, _, k2, k3, _⟩ := hC.four
          rw [(hF.2 j hjn).1] at hcell hcg
          rw [hx] at hgc
          have hne := blk_ne hcur hC (by decide)
          have hnz : gr ≠ w.heap.size := by omega
          obtain ⟨y, hy⟩ : ∃ y : Nat, y = x % 3 := ⟨_, rfl⟩
          have hyx : y ≤ x ∧ y < 3 := by omega
          have htm : (x : Int).tmod 3 = (y : Int) := by rw [hy]; rfl
          have hwy : IntKind.i64.wrap (y : Int) = y := IntWalk.i64_in _ (by omega)
          have hO4 : OwnLL (wr.setCell ⟨gr, k, none⟩ (.int .i64 (y : Int))).drew (w.heap.size + 1) 22 3 .i64 (.slice (some ⟨G, 0, none⟩) n c1) (ls.set j ((ls.getD j []).set k y)) := (hset y).drew
          have hF4 := Lib.hid (hF.set hjn hkl (y := y) (hxm y hyx.1) (by omega))
          have hat := hF.set_at (y := y) hjn hkl
          have hZ4 : Blk (wr.setCell ⟨gr, k, none⟩ (.int .i64 (y : Int))).drew w.heap.size 30 #[.int .i64 0, .int .i64 0, .int .i64 0, .slice none 0 0] := Blk.far hZ (p := ⟨gr, k, none⟩) (by simp; omega) _
          have hC4 : Blk (wr.setCell ⟨gr, k, none⟩ (.int .i64 (y : Int))).drew gp 30 #[.int .i64 W, .int .i64 H, .int .i64 d, .slice (some ⟨G, 0, none⟩) n c1] := Blk.far hC (p := ⟨gr, k, none⟩) (by simp; omega) _
          have hT4 : TapeB (wr.setCell ⟨gr, k, none⟩ (.int .i64 (y : Int))).drew B g := (TapeB.far hT (by simp; omega) (by simp; omega) _).drew
          have hG4 : w.grownBy (wr.setCell ⟨gr, k, none⟩ (.int .i64 (y : Int))).drew (some g) := only_drew (only_setCell hG (.inr (by simp; omega)) _)
          have d3 : wr.drew.cell? ⟨gp, 3, none⟩ = some (.slice (some ⟨G, 0, none⟩) n c1) := k3
          have d4 : wr.drew.cell? ⟨G, j, none⟩ = some (.slice (some ⟨gr, 0, none⟩) L cg) := hcell
          have d5 : wr.drew.cell? ⟨gr, k, none⟩ = some (.int .i64 x) := hgc
          have d6 : wr.drew.frozen? ⟨gr, k, none⟩ = false := hgf
          have hjni : (j : Int) < (n : Int) := by omega
          have hkli : (k : Int) < (L : Int) := by omega
          clear hset hF hO hZ hC hT hG hx hgb hcur cur hclr hCc hxk hy
          generalize ls.set j ((ls.getD j []).set k (y : Int)) = l4 at *
          go_upto_region 8 with fail
          refine wp_still_tail 16 (by kernel_rfl) (by kernel_rfl) ?_
          simp only [List.take_succ_cons, List.take_zero, List.drop_succ_cons, List.drop_zero]
          repeat still_step
          refine wpStill_nil ?_
          go_upto_region 9 with fail
          clear d3 d4 d5 d6 hgc hcell hgf k2 k3 hwy htm hnz hne hcg
          generalize (wr.setCell ⟨gr, k, none⟩ (.int .i64 (y : Int))).drew = w4 at *
          obtain ⟨_, _, k2, k3, _⟩ := hC4.four
          by_cases hd1 : d = 1
          · have q1 : ((d : Int) == 1) = true := by rw [hd1]; rfl
            clear hd1
            obtain ⟨G', C, g5, c5, hv, hCc, hcell, hcg, hgb, hgc, hgf, ⟨cur, hcur⟩, hset⟩ := hO4.cell_ (j := j) (i := k) (by decide) (by rw [hF4.out.1]; exact hjn) (by rw [(hF4.out.2 j hjn).1]; exact hkl)
            simp only [Value.slice.injEq, Option.some.injEq, Addr.mk.injEq, and_true] at hv
            obtain ⟨rfl, hclr, rfl⟩ := hv
            rw [(hF4.out.2 j hjn).1] at hcell hcg
            rw [hat] at hgc
            have hne := blk_ne hcur hC4 (by decide)
            have hnz : g5 ≠ w.heap.size := by omega
            obtain ⟨z, hz⟩ : ∃ z : Nat, z = y % 2 := ⟨_, rfl⟩
            have hzy : z ≤ y ∧ z < 3 := by omega
            have htm : (y : Int).tmod 2 = (z : Int) := by rw [hz]; rfl
            have hwz : IntKind.i64.wrap (z : Int) = z := IntWalk.i64_in _ (by omega)
            have HR := Lib.hid (show FewI d L n (l4.set j ((l4.getD j []).set k (z : Int))) j (k + 1) ∧ _ from ⟨(hF4.out.set hjn hkl (y := z) (hxm z (by omega)) (by omega)).up (by rw [hF4.out.set_at (y := z) hjn hkl]; omega), (hset z).drew⟩)
            have HZ5 : Blk (w4.setCell ⟨g5, k, none⟩ (.int .i64 (z : Int))).drew w.heap.size 30 #[.int .i64 0, .int .i64 0, .int .i64 0, .slice none 0 0] := Blk.far hZ4 (p := ⟨g5, k, none⟩) (by simp; omega) _
            have HC5 : Blk (w4.setCell ⟨g5, k, none⟩ (.int .i64 (z : Int))).drew gp 30 #[.int .i64 W, .int .i64 H, .int .i64 d, .slice (some ⟨G, 0, none⟩) n c1] := Blk.far hC4 (p := ⟨g5, k, none⟩) (by simp; omega) _
            have HT5 : TapeB (w4.setCell ⟨g5, k, none⟩ (.int .i64 (z : Int))).drew B g := (TapeB.far hT4 (by simp; omega) (by simp; omega) _).drew
            have HG5 : w.grownBy (w4.setCell ⟨g5, k, none⟩ (.int .i64 (z : Int))).drew (some g) := only_drew (only_setCell hG4 (.inr (by simp; omega)) _)
            have d2 : w4.cell? ⟨gp, 2, none⟩ = some (.int .i64 d) := k2
            have d3 : w4.drew.cell? ⟨gp, 3, none⟩ = some (.slice (some ⟨G, 0, none⟩) n c1) := k3
            have d4 : w4.drew.cell? ⟨G, j, none⟩ = some (.slice (some ⟨g5, 0, none⟩) L c5) := hcell
            have d5 : w4.drew.cell? ⟨g5, k, none⟩ = some (.int .i64 y) := hgc
            have d6 : w4.drew.frozen? ⟨g5, k, none⟩ = false := hgf
            clear hset hgb hcur cur hclr hCc hz k3 hat hO4 hF4
            go_upto_region 10 with fail
            refine wp_still_tail 16 (by kernel_rfl) (by kernel_rfl) ?_
            simp only [List.take_succ_cons, List.take_zero, List.drop_succ_cons, List.drop_zero]
            repeat still_step
            refine wpStill_nil ?_
            go_wp2
            go_roundw
            case rel => exact ⟨k + 1, _, by omega, by go_num, HR.out.1, HR.out.2, HZ5, HC5, HT5, HG5⟩
            case measure => simp [intOf]; omega
          · have q1 : ((d : Int) == 1) = false := by simp; omega
            have HF5 := Lib.hid (hF4.out.up (by rw [hat]; omega))
            have HO5 := Lib.hid hO4
            clear hat hO4 hF4
            go_wp2
            go_roundw
            case rel => exact ⟨k + 1, l4, by omega, by go_num, HF5.out, HO5.out, hZ4, hC4, hT4, hG4⟩
            case measure => simp [intOf]; omega
        · have hkq : k = L := by omega
          subst hkq
          have HF5 := Lib.hid hF.next
          have HO5 := Lib.hid hO
          obtain ⟨G', C, gr, cg, hv, hCc, hcell, hcg, hgb, hgc, hgf, ⟨cur, hcur⟩, hset⟩ := hO.cell_ (j := j) (i := 0) (by decide) (by rw [hF.1]; exact hjn) (by rw [(hF.2 j hjn).1]; omega)
          simp only [Value.slice.injEq, Option.some.injEq, Addr.mk.injEq, and_true] at hv
          obtain ⟨rfl, hclr, rfl⟩ := hv
          rw [(hF.2 j hjn).1] at hcell
          obtain ⟨_, _, k2, k3, _⟩ := hC.four
          clear hset hgb hcur cur hclr hCc hF hO
          go_wp2
          go_roundw
          case rel => exact ⟨j + 1, ls, by omega, by go_num, HF5.out, HO5.out, hZ, hC, hT, hG⟩
          case measure => simp [intOf]; omega
    · have hje : j = n := by omega
      subst hje
      obtain ⟨k0, k1, k2, k3, _⟩ := hC.four
      obtain ⟨z0, z1, z2, z3, f0, f1, f2, f3⟩ := hZ.four
      go_wp2
      obtain ⟨q1, q2⟩ := HD.out ls hF.out
      have hlen := hF.out.1
      refine bodyPost_ret (v := .agg #[.int .i64 W, .int .i64 H, .int .i64 d, .slice (some ⟨G, 0, none⟩) j c1]) (by simp [results, Try.results9, go_sem, z0, z1, z2, z3]) rfl ⟨W, H, d, ls, _, _, by rw [hlen], q1, hW, hH, q2, ?_, ?_, ?_⟩
      · rw [hlen]
        exact ((((hO.out.far (by simp) _).far (by simp) _).far (by simp) _).far (by simp) _).base_ (by omega)
      · exact (((hT.far (by simp; omega) (by simp; omega) _).far (by simp; omega) (by simp; omega) _).far (by simp; omega) (by simp; omega) _).far (by simp; omega) (by simp; omega) _
      · exact only_setCell (only_setCell (only_setCell (only_setCell hG (.inr (by simp)) _) (.inr (by simp)) _) (.inr (by simp)) _) (.inr (by simp)) _
end Go.Proofs.Ytbbflddhbamjbaa
