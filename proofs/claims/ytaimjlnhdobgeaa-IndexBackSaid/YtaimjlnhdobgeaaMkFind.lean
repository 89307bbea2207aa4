/- marks of chapter 34; Find; mayPlace. -/
import Derived.Test.YtaimjlnhdobgeaaPkVal
import Derived.Test.YtaimjlnhdobgeaaMk
import Derived.Deep.DeepCutAuto
import Derived.Deep.QuietTactic
import Derived.BigQuiet
set_option linter.unusedSimpArgs false
set_option linter.unusedVariables false
namespace Go.Proofs.Ytaimjlnhdobgeaa
open Go.RowKit

set_option maxHeartbeats 2000000 in
set_option maxRecDepth 100000 in
theorem marks_any {xs ys : List Mk} {A A' : Option Addr} (c c' : Nat) {S S' : Nat → Prop} {w : World} (hx : RdMk w S A xs) (hy : RdMk w S' A' ys) (lx : xs.length ≤ 1000000000) (ly : ys.length ≤ 1000000000) :
    Calls Try.prog 10 #[.slice A xs.length c, .slice A' ys.length c'] w fun e w' => e = .returned (.bool (decide (xs = ys))) ∧ ∃ n, w' = w.drewN n := by
  by_cases hl : xs.length = ys.length
  · have HL := Lib.hid hl
    have HB := Lib.hid hx
    have HC := Lib.hid hy
    have t1 : ((xs.length : Int) != (ys.length : Int)) = false := by rw [hl]; simp
    clear hl hx hy
    go_enter Try.func10, Try.ntmps10
    go_wp2
    go_loopw [5] (fun i wr => ∃ k : Nat, k ≤ xs.length ∧ i = .int .i64 k ∧ xs.take k = ys.take k ∧ ∃ n, wr = w.drewN n) (fun i _ => xs.length - (intOf i).toNat)
    case atStart => exact ⟨0, Nat.zero_le _, rfl, rfl, 0, rfl⟩
    case round =>
      obtain ⟨k, hk, rfl, hkt, n, rfl⟩ := hrel
      have HK := Lib.hid hkt
      clear hkt
      by_cases hlt : k < xs.length
      · have hlt' : k < ys.length := by have := HL.out; omega
        obtain ⟨ad, p, rfl, _, hp, e0, e1, e2, hw⟩ := RdMk.at_ HB.out hlt
        obtain ⟨ad', p', rfl, _, hp', f0, f1, f2, hw'⟩ := RdMk.at_ HC.out hlt'
        have HE := Lib.hid (show xs[k] = ys[k] → xs.take (k + 1) = ys.take (k + 1) from fun h => take_eq_step hlt hlt' HK.out h)
        have HF := Lib.hid (show xs[k] ≠ ys[k] → xs ≠ ys from fun h => ne_of_getElem hlt hlt' h)
        generalize xs[k] = x at *
        generalize ys[k] = y at *
        obtain ⟨x1, x2, x3⟩ := x
        obtain ⟨y1, y2, y3⟩ := y
        simp only at e0 e1 e2 f0 f1 f2
        clear hw hw'
        by_cases hq : x1 = y1 ∧ x2 = y2 ∧ x3 = y3
        · obtain ⟨rfl, rfl, rfl⟩ := hq
          go_wp2
          go_quiet (fail)
          go_wp2
          go_roundw
          case rel => exact ⟨k + 1, by omega, by go_num, HE.out (by first | rfl | trivial), _, rfl⟩
          case measure => simp [intOf]; omega
        · have HG := Lib.hid (show xs ≠ ys from HF.out (fun h => hq (by injection h with h1 h2 h3; exact ⟨h1, h2, h3⟩)))
          by_cases h1 : x1 = y1
          · subst h1
            by_cases h2 : x2 = y2
            · subst h2
              have t2 : (x3 == y3) = false := by
                rw [beq_eq_false_iff_ne]; exact fun h => hq ⟨rfl, rfl, h⟩
              clear hq
              go_wp2
              go_quiet (fail)
              go_wp2
              go_ret
              exact ⟨by rw [decide_eq_false HG.out]; rfl, _, World.drewN_drewN _ _ _⟩
            · have t2 : (x2 == y2) = false := by rwa [beq_eq_false_iff_ne]
              clear hq h2
              go_wp2
              go_quiet (fail)
              go_wp2
              go_ret
              exact ⟨by rw [decide_eq_false HG.out]; rfl, _, World.drewN_drewN _ _ _⟩
          · have t2 : (x1 == y1) = false := by rwa [beq_eq_false_iff_ne]
            clear hq h1
            go_wp2
            go_quiet (fail)
            go_wp2
            go_ret
            exact ⟨by rw [decide_eq_false HG.out]; rfl, _, World.drewN_drewN _ _ _⟩
      · have hkl : k = xs.length := by omega
        subst hkl
        go_wp2
        go_ret
        have h1 := HK.out
        rw [List.take_length, HL.out, List.take_length] at h1
        exact ⟨by rw [decide_eq_true h1]; rfl, _, rfl⟩
  · have t1 : ((xs.length : Int) != (ys.length : Int)) = true := by simp; omega
    have HL := Lib.hid (show xs ≠ ys from fun h => hl (by rw [h]))
    clear hl hx hy
    go_enter Try.func10, Try.ntmps10
    go_wp2
    go_ret
    exact ⟨by rw [decide_eq_false HL.out]; rfl, 0, rfl⟩

def foundV (b : Option Mk) : Mk := b.getD Mk.zero
theorem findM_snoc (l : List Mk) (m : Mk) (s at_ : Int) : findM (l ++ [m]) s at_ = better s at_ (findM l s at_) m := by simp [findM]
theorem better_wf {s at_ : Int} {b : Option Mk} {m : Mk} (hb : (foundV b).wf) (hm : m.wf) : (foundV (better s at_ b m)).wf := by
  unfold better
  split
  · cases b with
    | none => exact hm
    | some x => simp only; split; exact hm; exact hb
  · exact hb

set_option maxHeartbeats 2000000 in
set_option maxRecDepth 100000 in
theorem find_any {l : List Mk} {A : Option Addr} {c : Nat} {S : Nat → Prop} {w : World} (hr : RdMk w S A l) (hl : l.length ≤ 1000000000) (s at_ : Int) :
    Calls Try.prog 20 #[.slice A l.length c, .int .i64 s, .int .i64 at_] w fun e w' => e = .returned (.tuple #[(foundV (findM l s at_)).val, .bool (findM l s at_).isSome]) ∧ Below w.heap.size w w' := by
  have HR := Lib.hid (fun W (h : Below w.heap.size w W) => hr.below MkR.good h)
  clear hr
  go_enter Try.func20, Try.ntmps20
  go_upto_region 3 with fail
  have k0 := Blk.new w 49 #[.int .i64 0, .int .i64 0, .int .i64 0]
  have b0 := below_alloc (Below.refl w.heap.size w) (.cells #[.int .i64 0, .int .i64 0, .int .i64 0] 49)
  have hs0 : (w.alloc (.cells #[.int .i64 0, .int .i64 0, .int .i64 0] 49)).heap.size = w.heap.size + 1 := by simp
  have k1 := Blk.new (w.alloc (.cells #[.int .i64 0, .int .i64 0, .int .i64 0] 49)) 49 #[.int .i64 0, .int .i64 0, .int .i64 0]
  rw [hs0] at k1
  have k01 := k0.alloc (.cells #[.int .i64 0, .int .i64 0, .int .i64 0] 49)
  have b1 := below_alloc b0 (.cells #[.int .i64 0, .int .i64 0, .int .i64 0] 49)
  generalize (w.alloc (.cells #[.int .i64 0, .int .i64 0, .int .i64 0] 49)).alloc (.cells #[.int .i64 0, .int .i64 0, .int .i64 0] 49) = w1 at *
  clear hs0 k0 b0
  have hlt1 := k1.lt
  have K01 := Lib.hid k01
  have K1 := Lib.hid k1
  clear k01 k1
  go_wp2
  go_loopw [9, 14] (fun f i wr => ∃ k : Nat, k ≤ l.length ∧ i = .int .i64 k ∧ f = .bool (findM (l.take k) s at_).isSome ∧ (foundV (findM (l.take k) s at_)).wf ∧ Below w.heap.size w wr ∧ Blk wr w.heap.size 49 #[.int .i64 0, .int .i64 0, .int .i64 0] ∧ Blk wr (w.heap.size + 1) 49 (foundV (findM (l.take k) s at_)).cells.toArray) (fun _ i _ => l.length - (intOf i).toNat)
  case atStart => exact ⟨0, Nat.zero_le _, rfl, rfl, ⟨by simp [foundV, findM, Mk.zero, i64B], by simp [foundV, findM, Mk.zero, i64B], by simp [foundV, findM, Mk.zero, i64B]⟩, b1, K01.out, K1.out⟩
  case round =>
    obtain ⟨k, hk, rfl, rfl, hwf, hb, kr, kb⟩ := hrel
    by_cases hlt : k < l.length
    · obtain ⟨ad, p, rfl, _, hp, e0, e1, e2, hw⟩ := RdMk.at_ (HR.out _ hb) hlt
      have HT := Lib.hid (show findM (l.take (k + 1)) s at_ = better s at_ (findM (l.take k) s at_) l[k] by rw [List.take_succ_eq_append_getElem hlt, findM_snoc])
      have hbw := better_wf (s := s) (at_ := at_) hwf hw
      have HBW := Lib.hid hbw
      generalize l[k] = m at *
      generalize findM (l.take k) s at_ = bst at *
      clear hwf hw hbw
      obtain ⟨m1, m2, m3⟩ := m
      simp only at e0 e1 e2
      have hgr := kr.lt
      have hgb := kb.lt
      go_upto_region 6 with fail
      have km := Blk.new wr 49 #[.int .i64 m1, .int .i64 m2, .int .i64 m3]
      have bm : Below wr.heap.size wr (wr.alloc (.cells #[.int .i64 m1, .int .i64 m2, .int .i64 m3] 49)) := below_alloc (Below.refl _ _) _
      generalize wr.alloc (.cells #[.int .i64 m1, .int .i64 m2, .int .i64 m3] 49) = wm at *
      have hbm := below_then hb bm
      have krm := kr.below bm hgr
      have kbm := kb.below bm hgb
      have x0 := km.cell 0
      have x1 := km.cell 1
      have x2 := km.cell 2
      clear e0 e1 e2 kr kb
      by_cases h1 : m1 = s ∧ m2 ≤ at_
      · obtain ⟨rfl, h2⟩ := h1
        have h2' : decide (at_ < m2) = false := decide_eq_false (by omega)
        cases bst with
        | none =>
          have HE := Lib.hid (show better m1 at_ none ⟨m1, m2, m3⟩ = some ⟨m1, m2, m3⟩ by simp [better, h2])
          have kbm2 : Blk wm (w.heap.size + 1) 49 #[.int .i64 0, .int .i64 0, .int .i64 0] := kbm
          have y0 := kbm2.cell 0
          have y1 := kbm2.cell 1
          have y2 := kbm2.cell 2
          have u0 := kbm2.frozen 0
          have u1 := kbm2.frozen 1
          have u2 := kbm2.frozen 2
          go_wp2
          go_roundw
          case rel =>
            refine ⟨k + 1, by omega, by go_num, by (rw [HT.out, HE.out]) <;> rfl, by rw [HT.out]; exact HBW.out, below_put (below_put (below_put hbm (by omega)) (by omega)) (by omega), ((krm.far (by simp) _).far (by simp) _).far (by simp) _, ?_⟩
            rw [HT.out, HE.out]
            exact ((kbm2.set_ 0 _).set_ 1 _).set_ 2 _
          case measure => simp [intOf]; omega
        | some x =>
          obtain ⟨b1, b2, b3⟩ := x
          have kbm2 : Blk wm (w.heap.size + 1) 49 #[.int .i64 b1, .int .i64 b2, .int .i64 b3] := kbm
          have y0 := kbm2.cell 0
          have y1 := kbm2.cell 1
          have y2 := kbm2.cell 2
          have u0 := kbm2.frozen 0
          have u1 := kbm2.frozen 1
          have u2 := kbm2.frozen 2
          by_cases h3 : b2 ≤ m2
          · have HE := Lib.hid (show better m1 at_ (some ⟨b1, b2, b3⟩) ⟨m1, m2, m3⟩ = some ⟨m1, m2, m3⟩ by simp [better, h2, h3])
            go_wp2
            go_roundw
            case rel =>
              refine ⟨k + 1, by omega, by go_num, by (rw [HT.out, HE.out]) <;> rfl, by rw [HT.out]; exact HBW.out, below_put (below_put (below_put hbm (by omega)) (by omega)) (by omega), ((krm.far (by simp) _).far (by simp) _).far (by simp) _, ?_⟩
              rw [HT.out, HE.out]
              exact ((kbm2.set_ 0 _).set_ 1 _).set_ 2 _
            case measure => simp [intOf]; omega
          · have HE := Lib.hid (show better m1 at_ (some ⟨b1, b2, b3⟩) ⟨m1, m2, m3⟩ = some ⟨b1, b2, b3⟩ by simp [better, h2, h3])
            go_wp2
            go_roundw
            case rel =>
              refine ⟨k + 1, by omega, by go_num, by (rw [HT.out, HE.out]) <;> rfl, by rw [HT.out]; exact HBW.out, hbm, krm, ?_⟩
              rw [HT.out, HE.out]
              exact kbm2
            case measure => simp [intOf]; omega
      · have HE := Lib.hid (show better s at_ bst ⟨m1, m2, m3⟩ = bst by simp only [better, if_neg h1])
        by_cases h2 : m1 = s
        · subst h2
          have h3 : at_ < m2 := by omega
          clear h1
          go_wp2
          go_roundw
          case rel => exact ⟨k + 1, by omega, by go_num, by rw [HT.out, HE.out], by rw [HT.out]; exact HBW.out, hbm, krm, by rw [HT.out, HE.out]; exact kbm⟩
          case measure => simp [intOf]; omega
        · have h3 : (m1 != s) = true := by rw [bne_iff_ne]; exact h2
          clear h1 h2
          go_wp2
          go_roundw
          case rel => exact ⟨k + 1, by omega, by go_num, by rw [HT.out, HE.out], by rw [HT.out]; exact HBW.out, hbm, krm, by rw [HT.out, HE.out]; exact kbm⟩
          case measure => simp [intOf]; omega
    · have hkl : k = l.length := by omega
      subst hkl
      rw [List.take_length] at kb hwf
      have hT := List.take_length (l := l)
      rw [hT]
      generalize hfm : findM l s at_ = bst at *
      have HFm := Lib.hid hfm
      clear hfm
      generalize hfv : foundV bst = fv at *
      have HFv := Lib.hid hfv
      clear hfv hT
      obtain ⟨b1, b2, b3⟩ := fv
      have kb2 : Blk wr (w.heap.size + 1) 49 #[.int .i64 b1, .int .i64 b2, .int .i64 b3] := kb
      have y0 := kb2.cell 0
      have y1 := kb2.cell 1
      have y2 := kb2.cell 2
      have x0 := kr.cell 0
      have x1 := kr.cell 1
      have x2 := kr.cell 2
      have u0 := kr.frozen 0
      have u1 := kr.frozen 1
      have u2 := kr.frozen 2
      go_wp2
      exact bodyPost_ret (v := .tuple #[Mk.val ⟨b1, b2, b3⟩, .bool bst.isSome]) (by simp [results, Try.results20, go_sem, x0, x1, x2]) rfl ⟨by rw [HFm.out, HFv.out], below_put (below_put (below_put hb (Nat.le_refl _)) (Nat.le_refl _)) (Nat.le_refl _)⟩
end Go.Proofs.Ytaimjlnhdobgeaa
