/- index.Of. -/
import Derived.Test.YtaimjlnhdobgeaaPkVal
import Derived.Test.YtaimjlnhdobgeaaMkL
import Derived.Deep.DeepCutAuto
import Derived.Deep.QuietTactic
import Derived.BigQuiet
import Derived.Test.YtaimjlnhdobgeaaPgBytes
import Derived.Test.YtaimjlnhdobgeaaPkOpen
set_option linter.unusedSimpArgs false
set_option linter.unusedVariables false
namespace Go.Proofs.Ytaimjlnhdobgeaa
open Go.RowKit

set_option maxHeartbeats 2000000 in
set_option maxRecDepth 100000 in
theorem marks_any {xs ys : List Mk} {A A' : Option Addr} (c c' : Nat) {S S' : Nat → Prop} {w : World} (hx : RdMk w S A xs) (hy : RdMk w S' A' ys) (lx : xs.length ≤ 1000000000) (ly : ys.length ≤ 1000000000) :
    Calls Try.prog 10 #[.slice A xs.length c, .slice A' ys.length c'] w fun e w' => e = .returned (.bool (decide (xs = ys))) ∧ ∃ n, w' = w.drewN n := by
  by_cases hl : xs.length = ys.length
  · have HL := Lib.hid hl
    have HB := Lib.hid hx
    have HC := Lib.hid hy
    have t1 : ((xs.length : Int) != (ys.length : Int)) = false := by rw [hl]; simp
    clear hl hx hy
    go_enter Try.func10, Try.ntmps10
    go_wp2
    go_loopw [5] (fun i wr => ∃ k : Nat, k ≤ xs.length ∧ i = .int .i64 k ∧ xs.take k = ys.take k ∧ ∃ n, wr = w.drewN n) (fun i _ => xs.length - (intOf i).toNat)
    case atStart => exact ⟨0, Nat.zero_le _, rfl, rfl, 0, rfl⟩
    case round =>
      obtain ⟨k, hk, rfl, hkt, n, rfl⟩ := hrel
      have HK := Lib.hid hkt
      clear hkt
      by_cases hlt : k < xs.length
      · have hlt' : k < ys.length := by have := HL.out; omega
        obtain ⟨ad, p, rfl, _, hp, e0, e1, e2, hw⟩ := RdMk.at_ HB.out hlt
        obtain ⟨ad', p', rfl, _, hp', f0, f1, f2, hw'⟩ := RdMk.at_ HC.out hlt'
        have HE := Lib.hid (show xs[k] = ys[k] → xs.take (k + 1) = ys.take (k + 1) from fun h => take_eq_step hlt hlt' HK.out h)
        have HF := Lib.hid (show xs[k] ≠ ys[k] → xs ≠ ys from fun h => ne_of_getElem hlt hlt' h)
        generalize xs[k] = x at *
        generalize ys[k] = y at *
        obtain ⟨x1, x2, x3⟩ := x
        obtain ⟨y1, y2, y3⟩ := y
        simp only at e0 e1 e2 f0 f1 f2
        clear hw hw'
        by_cases hq : x1 = y1 ∧ x2 = y2 ∧ x3 = y3
        · obtain ⟨rfl, rfl, rfl⟩ := hq
          go_wp2
          go_quiet (fail)
          go_wp2
          go_roundw
          case rel => exact ⟨k + 1, by omega, by go_num, HE.out (by first | rfl | trivial), _, rfl⟩
          case measure => simp [intOf]; omega
        · have HG := Lib.hid (show xs ≠ ys from HF.out (fun h => hq (by injection h with h1 h2 h3; exact ⟨h1, h2, h3⟩)))
          by_cases h1 : x1 = y1
          · subst h1
            by_cases h2 : x2 = y2
            · subst h2
              have t2 : (x3 == y3) = false := by
                rw [beq_eq_false_iff_ne]; exact fun h => hq ⟨rfl, rfl, h⟩
              clear hq
              go_wp2
              go_quiet (fail)
              go_wp2
              go_ret
              exact ⟨by rw [decide_eq_false HG.out]; rfl, _, World.drewN_drewN _ _ _⟩
            · have t2 : (x2 == y2) = false := by rwa [beq_eq_false_iff_ne]
              clear hq h2
              go_wp2
              go_quiet (fail)
              go_wp2
              go_ret
              exact ⟨by rw [decide_eq_false HG.out]; rfl, _, World.drewN_drewN _ _ _⟩
          · have t2 : (x1 == y1) = false := by rwa [beq_eq_false_iff_ne]
            clear hq h1
            go_wp2
            go_quiet (fail)
            go_wp2
            go_ret
            exact ⟨by rw [decide_eq_false HG.out]; rfl, _, World.drewN_drewN _ _ _⟩
      · have hkl : k = xs.length := by omega
        subst hkl
        go_wp2
        go_ret
        have h1 := HK.out
        rw [List.take_length, HL.out, List.take_length] at h1
        exact ⟨by rw [decide_eq_true h1]; rfl, _, rfl⟩
  · have t1 : ((xs.length : Int) != (ys.length : Int)) = true := by simp; omega
    have HL := Lib.hid (show xs ≠ ys from fun h => hl (by rw [h]))
    clear hl hx hy
    go_enter Try.func10, Try.ntmps10
    go_wp2
    go_ret
    exact ⟨by rw [decide_eq_false HL.out]; rfl, 0, rfl⟩

def foundV (b : Option Mk) : Mk := b.getD Mk.zero
theorem findM_snoc (l : List Mk) (m : Mk) (s at_ : Int) : findM (l ++ [m]) s at_ = better s at_ (findM l s at_) m := by simp [findM]
theorem better_wf {s at_ : Int} {b : Option Mk} {m : Mk} (hb : (foundV b).wf) (hm : m.wf) : (foundV (better s at_ b m)).wf := by
  unfold better
  split
  · cases b with
    | none => exact hm
    | some x => simp only; split; exact hm; exact hb
  · exact hb

set_option maxHeartbeats 2000000 in
set_option maxRecDepth 100000 in
theorem find_any {l : List Mk} {A : Option Addr} {c : Nat} {S : Nat → Prop} {w : World} (hr : RdMk w S A l) (hl : l.length ≤ 1000000000) (s at_ : Int) :
    Calls Try.prog 20 #[.slice A l.length c, .int .i64 s, .int .i64 at_] w fun e w' => e = .returned (.tuple #[(foundV (findM l s at_)).val, .bool (findM l s at_).isSome]) ∧ Below w.heap.size w w' := by
  have HR := Lib.hid (fun W (h : Below w.heap.size w W) => hr.below MkR.good h)
  clear hr
  go_enter Try.func20, Try.ntmps20
  go_upto_region 3 with fail
  have k0 := Blk.new w 49 #[.int .i64 0, .int .i64 0, .int .i64 0]
  have b0 := below_alloc (Below.refl w.heap.size w) (.cells #[.int .i64 0, .int .i64 0, .int .i64 0] 49)
  have hs0 : (w.alloc (.cells #[.int .i64 0, .int .i64 0, .int .i64 0] 49)).heap.size = w.heap.size + 1 := by simp
  have k1 := Blk.new (w.alloc (.cells #[.int .i64 0, .int .i64 0, .int .i64 0] 49)) 49 #[.int .i64 0, .int .i64 0, .int .i64 0]
  rw [hs0] at k1
  have k01 := k0.alloc (.cells #[.int .i64 0, .int .i64 0, .int .i64 0] 49)
  have b1 := below_alloc b0 (.cells #[.int .i64 0, .int .i64 0, .int .i64 0] 49)
  generalize (w.alloc (.cells #[.int .i64 0, .int .i64 0, .int .i64 0] 49)).alloc (.cells #[.int .i64 0, .int .i64 0, .int .i64 0] 49) = w1 at *
  clear hs0 k0 b0
  have hlt1 := k1.lt
  have K01 := Lib.hid k01
  have K1 := Lib.hid k1
  clear k01 k1
  go_wp2
  go_loopw [9, 14] (fun f i wr => ∃ k : Nat, k ≤ l.length ∧ i = .int .i64 k ∧ f = .bool (findM (l.take k) s at_).isSome ∧ (foundV (findM (l.take k) s at_)).wf ∧ Below w.heap.size w wr ∧ Blk wr w.heap.size 49 #[.int .i64 0, .int .i64 0, .int .i64 0] ∧ Blk wr (w.heap.size + 1) 49 (foundV (findM (l.take k) s at_)).cells.toArray) (fun _ i _ => l.length - (intOf i).toNat)
  case atStart => exact ⟨0, Nat.zero_le _, rfl, rfl, ⟨by simp [foundV, findM, Mk.zero, i64B], by simp [foundV, findM, Mk.zero, i64B], by simp [foundV, findM, Mk.zero, i64B]⟩, b1, K01.out, K1.out⟩
  case round =>
    obtain ⟨k, hk, rfl, rfl, hwf, hb, kr, kb⟩ := hrel
    by_cases hlt : k < l.length
    · obtain ⟨ad, p, rfl, _, hp, e0, e1, e2, hw⟩ := RdMk.at_ (HR.out _ hb) hlt
      have HT := Lib.hid (show findM (l.take (k + 1)) s at_ = better s at_ (findM (l.take k) s at_) l[k] by rw [List.take_succ_eq_append_getElem hlt, findM_snoc])
      have hbw := better_wf (s := s) (at_ := at_) hwf hw
      have HBW := Lib.hid hbw
      generalize l[k] = m at *
      generalize findM (l.take k) s at_ = bst at *
      clear hwf hw hbw
      obtain ⟨m1, m2, m3⟩ := m
      simp only at e0 e1 e2
      have hgr := kr.lt
      have hgb := kb.lt
      go_upto_region 6 with fail
      have km := Blk.new wr 49 #[.int .i64 m1, .int .i64 m2, .int .i64 m3]
      have bm : Below wr.heap.size wr (wr.alloc (.cells #[.int .i64 m1, .int .i64 m2, .int .i64 m3] 49)) := below_alloc (Below.refl _ _) _
      generalize wr.alloc (.cells #[.int .i64 m1, .int .i64 m2, .int .i64 m3] 49) = wm at *
      have hbm := below_then hb bm
      have krm := kr.below bm hgr
      have kbm := kb.below bm hgb
      have x0 := km.cell 0
      have x1 := km.cell 1
      have x2 := km.cell 2
      clear e0 e1 e2 kr kb
      by_cases h1 : m1 = s ∧ m2 ≤ at_
      · obtain ⟨rfl, h2⟩ := h1
        have h2' : decide (at_ < m2) = false := decide_eq_false (by omega)
        cases bst with
        | none =>
          have HE := Lib.hid (show better m1 at_ none ⟨m1, m2, m3⟩ = some ⟨m1, m2, m3⟩ by simp [better, h2])
          have kbm2 : Blk wm (w.heap.size + 1) 49 #[.int .i64 0, .int .i64 0, .int .i64 0] := kbm
          have y0 := kbm2.cell 0
          have y1 := kbm2.cell 1
          have y2 := kbm2.cell 2
          have u0 := kbm2.frozen 0
          have u1 := kbm2.frozen 1
          have u2 := kbm2.frozen 2
          go_wp2
          go_roundw
          case rel =>
            refine ⟨k + 1, by omega, by go_num, by (rw [HT.out, HE.out]) <;> rfl, by rw [HT.out]; exact HBW.out, below_put (below_put (below_put hbm (by omega)) (by omega)) (by omega), ((krm.far (by simp) _).far (by simp) _).far (by simp) _, ?_⟩
            rw [HT.out, HE.out]
            exact ((kbm2.set_ 0 _).set_ 1 _).set_ 2 _
          case measure => simp [intOf]; omega
        | some x =>
          obtain ⟨b1, b2, b3⟩ := x
          have kbm2 : Blk wm (w.heap.size + 1) 49 #[.int .i64 b1, .int .i64 b2, .int .i64 b3] := kbm
          have y0 := kbm2.cell 0
          have y1 := kbm2.cell 1
          have y2 := kbm2.cell 2
          have u0 := kbm2.frozen 0
          have u1 := kbm2.frozen 1
          have u2 := kbm2.frozen 2
          by_cases h3 : b2 ≤ m2
          · have HE := Lib.hid (show better m1 at_ (some ⟨b1, b2, b3⟩) ⟨m1, m2, m3⟩ = some ⟨m1, m2, m3⟩ by simp [better, h2, h3])
            go_wp2
            go_roundw
            case rel =>
              refine ⟨k + 1, by omega, by go_num, by (rw [HT.out, HE.out]) <;> rfl, by rw [HT.out]; exact HBW.out, below_put (below_put (below_put hbm (by omega)) (by omega)) (by omega), ((krm.far (by simp) _).far (by simp) _).far (by simp) _, ?_⟩
              rw [HT.out, HE.out]
              exact ((kbm2.set_ 0 _).set_ 1 _).set_ 2 _
            case measure => simp [intOf]; omega
          · have HE := Lib.hid (show better m1 at_ (some ⟨b1, b2, b3⟩) ⟨m1, m2, m3⟩ = some ⟨b1, b2, b3⟩ by simp [better, h2, h3])
            go_wp2
            go_roundw
            case rel =>
              refine ⟨k + 1, by omega, by go_num, by (rw [HT.out, HE.out]) <;> rfl, by rw [HT.out]; exact HBW.out, hbm, krm, ?_⟩
              rw [HT.out, HE.out]
              exact kbm2
            case measure => simp [intOf]; omega
      · have HE := Lib.hid (show better s at_ bst ⟨m1, m2, m3⟩ = bst by simp only [better, if_neg h1])
        by_cases h2 : m1 = s
        · subst h2
          have h3 : at_ < m2 := by omega
          clear h1
          go_wp2
          go_roundw
          case rel => exact ⟨k + 1, by omega, by go_num, by rw [HT.out, HE.out], by rw [HT.out]; exact HBW.out, hbm, krm, by rw [HT.out, HE.out]; exact kbm⟩
          case measure => simp [intOf]; omega
        · have h3 : (m1 != s) = true := by rw [bne_iff_ne]; exact h2
          clear h1 h2
          go_wp2
          go_roundw
          case rel => exact ⟨k + 1, by omega, by go_num, by rw [HT.out, HE.out], by rw [HT.out]; exact HBW.out, hbm, krm, by rw [HT.out, HE.out]; exact kbm⟩
          case measure => simp [intOf]; omega
    · have hkl : k = l.length := by omega
      subst hkl
      rw [List.take_length] at kb hwf
      have hT := List.take_length (l := l)
      rw [hT]
      generalize hfm : findM l s at_ = bst at *
      have HFm := Lib.hid hfm
      clear hfm
      generalize hfv : foundV bst = fv at *
      have HFv := Lib.hid hfv
      clear hfv hT
      obtain ⟨b1, b2, b3⟩ := fv
      have kb2 : Blk wr (w.heap.size + 1) 49 #[.int .i64 b1, .int .i64 b2, .int .i64 b3] := kb
      have y0 := kb2.cell 0
      have y1 := kb2.cell 1
      have y2 := kb2.cell 2
      have x0 := kr.cell 0
      have x1 := kr.cell 1
      have x2 := kr.cell 2
      have u0 := kr.frozen 0
      have u1 := kr.frozen 1
      have u2 := kr.frozen 2
      go_wp2
      exact bodyPost_ret (v := .tuple #[Mk.val ⟨b1, b2, b3⟩, .bool bst.isSome]) (by simp [results, Try.results20, go_sem, x0, x1, x2]) rfl ⟨by rw [HFm.out, HFv.out], below_put (below_put (below_put hb (Nat.le_refl _)) (Nat.le_refl _)) (Nat.le_refl _)⟩
end Go.Proofs.Ytaimjlnhdobgeaa

namespace Go.Proofs.Ytaimjlnhdobgeaa
open Go.RowKit

def markOf (p : Pg) : Option Mk :=
  if p.first = true ∧ p.guard = false ∧ 18 ≤ p.body.length ∧ pgE p = 0 ∧ openE (p.body.take 18) = 0 ∧ (openP (p.body.take 18)).key = true then some ⟨(openP (p.body.take 18)).st, (openP (p.body.take 18)).at_, p.seq⟩ else none
def ofM (l : List Pg) : List Mk := l.filterMap markOf
theorem ofM_snoc (l : List Pg) (p : Pg) : ofM (l ++ [p]) = ofM l ++ (match markOf p with | none => [] | some m => [m]) := by
  rw [ofM, List.filterMap_append]
  simp only [ofM, List.filterMap_cons, List.filterMap_nil]
  cases markOf p <;> rfl
theorem ofM_len (l : List Pg) : (ofM l).length ≤ l.length := List.length_filterMap_le _ _

theorem ofM_none {l : List Pg} {k : Nat} (hk : k < l.length) (h : markOf l[k] = none) : ofM (l.take (k + 1)) = ofM (l.take k) := by
  rw [List.take_succ_eq_append_getElem hk, ofM_snoc, h]; simp
theorem ofM_some {l : List Pg} {k : Nat} {m : Mk} (hk : k < l.length) (h : markOf l[k] = some m) : ofM (l.take (k + 1)) = ofM (l.take k) ++ [m] := by
  rw [List.take_succ_eq_append_getElem hk, ofM_snoc, h]

set_option maxHeartbeats 8000000 in
set_option maxRecDepth 100000 in
theorem of_any {l : List Pg} {A : Option Addr} {c : Nat} {S : Nat → Prop} {w : World} (hr : RdPg w S A l) (hl : l.length ≤ 1000000) :
    Calls Try.prog 16 #[.slice A l.length c] w fun e w' => ∃ v, e = .returned v ∧ OwnG MkR 3 49 w' w.heap.size (fun b => w.heap.size ≤ b ∧ b < w'.heap.size) v (ofM l) ∧ Below w.heap.size w w' := by
  have HR := Lib.hid (fun W (h : Below w.heap.size w W) => hr.below PgR.good h)
  clear hr
  go_enter Try.func16, Try.ntmps16
  go_wp2
  go_loopw [3, 12] (fun v i wr => ∃ k : Nat, k ≤ l.length ∧ i = .int .i64 k ∧ OwnG MkR 3 49 wr w.heap.size (fun b => w.heap.size ≤ b ∧ b < wr.heap.size) v (ofM (l.take k)) ∧ Below w.heap.size w wr) (fun _ i _ => l.length - (intOf i).toNat)
  case atStart => exact ⟨0, Nat.zero_le _, rfl, OwnG.nil_ _ _ _ _ _ _, Below.refl _ _⟩
  case round =>
    obtain ⟨k, hk, rfl, hown, hb⟩ := hrel
    by_cases hlt : k < l.length
    · obtain ⟨ad, p, Aj, cj, rfl, _, hp, e0, e1, e2, e3, e4, hcj, hrj, hwj⟩ := RdPg.at_ (HR.out _ hb) hlt
      have HN := Lib.hid (fun h => ofM_none hlt h)
      have HM := Lib.hid (fun m h => ofM_some (m := m) hlt h)
      have HO := Lib.hid (fun W (h : Below wr.heap.size wr W) => (OwnG.weak MkR.good (hown.keep MkR.good (M := fun _ => False) (Mod.of_fresh h) (fun _ _ _ h => h) (fun _ _ h => h)) (fun b hb _ => ⟨hb.1, by have := hb.2; have := h.size; omega⟩) : OwnG MkR 3 49 W w.heap.size (fun b => w.heap.size ≤ b ∧ b < W.heap.size) u3 (ofM (l.take k))))
      have hol : (ofM (l.take k)).length ≤ 1000000 := by have := ofM_len (l.take k); rw [List.length_take] at this; omega
      generalize ofM (l.take k) = acc at *
      generalize l[k] = q at *
      obtain ⟨q1, q2, q3, q4, q5⟩ := q
      simp only at e0 e1 e2 e3 e4 hcj hrj
      go_upto_region 5 with fail
      have km := Blk.new wr 56 #[.int .i64 q1, .bool q2, .bool q3, .bool q4, .slice Aj q5.length cj]
      have hb4 := below_alloc hb (Obj.cells #[.int .i64 q1, .bool q2, .bool q3, .bool q4, .slice Aj q5.length cj] 56)
      have hx4 := below_alloc (Below.refl wr.heap.size wr) (Obj.cells #[.int .i64 q1, .bool q2, .bool q3, .bool q4, .slice Aj q5.length cj] 56)
      generalize wr.alloc (Obj.cells #[.int .i64 q1, .bool q2, .bool q3, .bool q4, .slice Aj q5.length cj] 56) = w4 at *
      have k0 : w4.cell? ⟨wr.heap.size, 0, none⟩ = some (.int .i64 q1) := km.cell 0
      have k1 : w4.cell? ⟨wr.heap.size, 1, none⟩ = some (.bool q2) := km.cell 1
      have k2 : w4.cell? ⟨wr.heap.size, 2, none⟩ = some (.bool q3) := km.cell 2
      have k3 : w4.cell? ⟨wr.heap.size, 3, none⟩ = some (.bool q4) := km.cell 3
      have k4 : w4.cell? ⟨wr.heap.size, 4, none⟩ = some (.slice Aj q5.length cj) := km.cell 4
      cases q2 with
      | false =>
        have hn := HN.out (by simp [markOf])
        go_wp2
        have hown4 : OwnG MkR 3 49 w4 w.heap.size (fun b => w.heap.size ≤ b ∧ b < w4.heap.size) u3 acc := HO.out _ hx4
        exact ⟨⟨k + 1, hlt, by rw [Int.natCast_succ], by rw [hn]; exact hown4, hb4⟩, by simp only [intOf]; omega⟩
      | true =>
        cases q4 with
        | true =>
          have hn := HN.out (by simp [markOf])
          go_wp2
          have hown4 : OwnG MkR 3 49 w4 w.heap.size (fun b => w.heap.size ≤ b ∧ b < w4.heap.size) u3 acc := HO.out _ hx4
          exact ⟨⟨k + 1, hlt, by rw [Int.natCast_succ], by rw [hn]; exact hown4, hb4⟩, by simp only [intOf]; omega⟩
        | false =>
          by_cases h18 : q5.length < 18
          · have hn := HN.out (by rw [markOf, if_neg (by simp; omega)])
            have t18 : ((q5.length : Int) < 18) := by omega
            go_wp2
            have hown4 : OwnG MkR 3 49 w4 w.heap.size (fun b => w.heap.size ≤ b ∧ b < w4.heap.size) u3 acc := HO.out _ hx4
            exact ⟨⟨k + 1, hlt, by rw [Int.natCast_succ], by rw [hn]; exact hown4, hb4⟩, by simp only [intOf]; omega⟩
          · have t18 : decide ((q5.length : Int) < 18) = false := decide_eq_false (by omega)
            have hsx := hx4.size
            have hr4 : RdI w4 w4.heap.size .u8 Aj q5 := RdI.more (RdI.below hrj.top hx4 (Nat.le_refl _)) hsx
            have HPB := Lib.hid (pgbytes_any ⟨q1, true, q3, false, q5⟩ Aj cj hwj w4 hr4)
            have HSm := Lib.hid (show markOf ⟨q1, true, q3, false, q5⟩ = if pgE ⟨q1, true, q3, false, q5⟩ = 0 ∧ openE (q5.take 18) = 0 ∧ (openP (q5.take 18)).key = true then some ⟨(openP (q5.take 18)).st, (openP (q5.take 18)).at_, q1⟩ else none by
              have h18' : 18 ≤ q5.length := by omega
              simp only [markOf, h18', true_and])
            generalize pgE ⟨q1, true, q3, false, q5⟩ = E at *
            generalize pgB ⟨q1, true, q3, false, q5⟩ = Bp at *
            by_cases hE : E = 0
            · subst hE
              have hb18 : byteB (q5.take 18) := fun x hx => hwj.bytes x (List.mem_of_mem_take hx)
              have hl18 : (q5.take 18).length = 18 := by rw [List.length_take]; omega
              have HOp := Lib.hid (fun W (hW : Below w4.heap.size w4 W) => RdI.slice_h (hh := 18) Try.underlying27 info_u8 (RdI.more (RdI.below hr4 hW (Nat.le_refl _)) hW.size) (by omega) hcj)
              have HOpen := Lib.hid (fun W (A : Option Addr) (c : Nat) (hr : RdI W W.heap.size .u8 A (q5.take 18)) (hc : (q5.take 18).length ≤ c) => open_any hr (Nat.le_refl _) hb18 hc (by omega))
              rw [hl18] at HOpen
              have hPw := openP_wf hb18 (by omega)
              generalize openE (q5.take 18) = E2 at *
              generalize openP (q5.take 18) = P2 at *
              generalize q5.take 18 = b18 at *
              obtain ⟨s1, s2, s3, s4, s5, s6⟩ := P2
              (try dsimp only at HSm); (try simp only [Pk.val] at HOpen)
              clear hb18 hl18
              go_upto_region 7 with (first
                | (go_at_call 35; (with_reducible refine HPB.out.mono ?_); rintro e w5 ⟨v5, rfl, _, hb5⟩))
              obtain ⟨A5, hrun5, hr5, _⟩ := HOp.out w5 hb5
              simp only [show ((18 : Nat) : Int) = 18 from rfl] at hrun5
              have k5 := km.below hb5 km.lt
              have y4 := k5.cell 4
              go_upto_region 9 with (first
                | (go_at_call 36; (with_reducible refine (HOpen.out _ _ _ hr5 (by omega)).mono ?_); rintro e w6 ⟨A6, c6, rfl, ho6, hb6⟩))
              have kp := Blk.new w6 47 #[.int .i64 s1, .int .i64 s2, .int .i64 s3, .bool s4, .bool s5, .slice A6 s6.length c6]
              have b7' : Below w6.heap.size w6 (w6.alloc (.cells #[.int .i64 s1, .int .i64 s2, .int .i64 s3, .bool s4, .bool s5, .slice A6 s6.length c6] 47)) := below_alloc (Below.refl _ _) _
              generalize w6.alloc (.cells #[.int .i64 s1, .int .i64 s2, .int .i64 s3, .bool s4, .bool s5, .slice A6 s6.length c6] 47) = w7 at *
              have b57 := below_then hb6 b7'
              have b47 := below_then hb5 b57
              have k7 := k5.below b57 k5.lt
              have x0 := k7.cell 0
              have p0 := kp.cell 0
              have p1 := kp.cell 1
              have p3 := kp.cell 3
              have hown7 := HO.out _ (below_then hx4 b47)
              clear y4 k0 k1 k2 k3 k4
              by_cases hE2 : E2 = 0 ∧ s4 = true
              · obtain ⟨rfl, rfl⟩ := hE2
                have HM' := Lib.hid (HM.out _ (by rw [HSm.out, if_pos (by simp)]))
                obtain ⟨A0, c0, rfl, hc0, _, hob0⟩ := hown7.form MkR.good
                have hw7 := below_then hb4 b47
                have hs7 := hw7.size
                go_wp2_with (first
                  | (at_builtin; (refine wpList_push_G (v := .slice A0 acc.length c0) rfl (.tmp 50) (.tmp 58) _ rfl MkR.good w7 (.agg #[.int .i64 0, .int .i64 0, .int .i64 0]) 24 Try.underlying23 info_mk rfl (by omega) rfl hown7 (fun _ => False) _ 1 [.int .i64 s1, .int .i64 s2, .int .i64 q1] ⟨s1, s2, q1⟩ rfl rfl ⟨rfl, ⟨hPw.st, hPw.at_, hwj.seq⟩⟩ (fun b => w.heap.size ≤ b ∧ b ≤ w7.heap.size) (fun b hb _ => ⟨hb.1, by have := hb.2; omega⟩) (fun b hb _ => hb.elim) (fun b hb h => h) (fun b hb => hb.2) ⟨hs7, Nat.le_refl _⟩ (by omega) (by omega) ?_); intro v8 w8 ow8 hg8 hv8))
                have hM8 : Mod (fun b => w.heap.size ≤ b) w7 w8 := ((Mod.refl _ _).alloc _).then_ (Mod.of_grown hg8 (fun x hx _ => (hob0 x hx).1))
                have hb8 : Below w.heap.size w7 w8 := hM8.below hs7 (fun b hb => hb)
                exact ⟨⟨k + 1, hlt, by rw [Int.natCast_succ], by rw [HM'.out]; exact ow8.weak MkR.good (fun b hb hl9 => ⟨hb.1, hl9⟩), hw7.trans hb8⟩, by simp only [intOf]; omega⟩
              · have hn := HN.out (by rw [HSm.out, if_neg (fun h => hE2 ⟨h.2.1, h.2.2⟩)])
                by_cases hE3 : E2 = 0
                · subst hE3
                  have h4 : s4 = false := by cases s4 with | false => rfl | true => exact absurd ⟨rfl, rfl⟩ hE2
                  subst h4
                  clear hE2
                  go_wp2
                  exact ⟨⟨k + 1, hlt, by rw [Int.natCast_succ], by rw [hn]; exact hown7, below_then hb4 b47⟩, by simp only [intOf]; omega⟩
                · have hE3' : (E2 != 0) = true := by rw [bne_iff_ne]; exact hE3
                  clear hE2 hE3
                  go_wp2
                  exact ⟨⟨k + 1, hlt, by rw [Int.natCast_succ], by rw [hn]; exact hown7, below_then hb4 b47⟩, by simp only [intOf]; omega⟩
            · have hn := HN.out (by rw [HSm.out, if_neg (fun h => hE h.1)])
              have hE' : (E != 0) = true := by rw [bne_iff_ne]; exact hE
              clear hE
              go_wp2_with (first
                | (go_at_call 35; (with_reducible refine HPB.out.mono ?_); rintro e w5 ⟨v5, rfl, _, hb5⟩))
              have hown5 := HO.out _ (below_then hx4 hb5)
              exact ⟨⟨k + 1, hlt, by rw [Int.natCast_succ], by rw [hn]; exact hown5, below_then hb4 hb5⟩, by simp only [intOf]; omega⟩
    · have hkl : k = l.length := by omega
      subst hkl
      rw [List.take_length] at hown
      go_wp2
      go_ret
      exact ⟨_, rfl, hown, hb⟩
end Go.Proofs.Ytaimjlnhdobgeaa
