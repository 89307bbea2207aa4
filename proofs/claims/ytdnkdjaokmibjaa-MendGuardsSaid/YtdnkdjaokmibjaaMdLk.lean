/- lacking: the pages of a guard's group that are there. -/
import Derived.Test.YtdnkdjaokmibjaaMdRL
import Derived.Test.YtdnkdjaokmibjaaMdMap
import Derived.Deep.DeepCutAuto
import Derived.BigQuiet
import Derived.Deep.QuietTactic
set_option linter.unusedSimpArgs false
set_option linter.unusedVariables false
namespace Go.Proofs.Ytdnkdjaokmibjaa
open Go.RowKit

set_option maxHeartbeats 8000000 in
set_option maxRecDepth 100000 in
theorem lacking_any {w : World} {b : Nat} {l : List Pg} (hm : MapPg w b (fun x => x < w.heap.size) l) (hd : difS l) (g : Pg) (A : Option Addr) (c : Nat) (hr : RdI w w.heap.size .u8 A g.body) (n : Nat) (h0 : 0 ≤ g.seq) (h1 : g.seq ≤ 2147483647) (hn : g.body.getD 0 0 = (n : Int)) (hn1 : n ≤ 255) (hl0 : 0 < g.body.length) :
    Calls Try.prog 34 #[g.val A c, .map (some b)] w fun e w' => ∃ v, e = .returned (.tuple #[.int .i64 (lackS g l n), v, .bool (decide (lackM g l n = 1))]) ∧ OwnG PgR 5 33 w' w.heap.size (fun x => x < w'.heap.size) v (lackO g l n) ∧ Below w.heap.size w w' := by
  have HM := Lib.hid hm
  obtain ⟨ag, rfl, hag, y0⟩ := hr.at_ hl0
  rw [hn] at y0
  have HLk := Lib.hid (fun (i : Nat) (p : Pg) (h : hasS l (g.seq + (i : Int)) = some p) => lackO_some (n := i) h)
  have HLn := Lib.hid (fun (i : Nat) (h : hasS l (g.seq + (i : Int)) = none) => lackO_none (n := i) h)
  have HLl := Lib.hid (fun i => lackO_len g l i)
  have HMl := Lib.hid (fun i => lackM_le g l i)
  have HLo := Lib.hid (fun s (hs : i64B s) => hm.look hs)
  have HHs := Lib.hid (fun i (hi : i < l.length) => hd.has hi)
  have HHn := Lib.hid (fun s => (hasS_none (l := l) (s := s)).2)
  have hbl := hm.lt
  have HO0 := Lib.hid (show lackO g l 0 = [] ∧ lackM g l 0 = 0 ∧ lackS g l 0 = 0 from ⟨rfl, rfl, rfl⟩)
  generalize lackO g l = LO at *
  generalize lackM g l = LM at *
  generalize lackS g l = LS at *
  obtain ⟨gs, g2, g3, g4, gb⟩ := g
  simp only at *
  clear hm hr hn
  go_enter Try.func34, Try.ntmps34
  go_upto_region 4 with fail
  have kx := Blk.new w 33 #[.int .i64 gs, .bool g2, .bool g3, .bool g4, .slice (some ag) gb.length c]
  have bx : Below w.heap.size w (w.alloc (.cells #[.int .i64 gs, .bool g2, .bool g3, .bool g4, .slice (some ag) gb.length c] 33)) := below_alloc (Below.refl _ _) _
  generalize w.alloc (.cells #[.int .i64 gs, .bool g2, .bool g3, .bool g4, .slice (some ag) gb.length c] 33) = wx at *
  have hkl := kx.lt
  go_loopw [7, 8, 9, 10] (fun v mv sv iv wr => ∃ i : Nat, i ≤ n ∧ iv = .int .i64 (gs + i) ∧ mv = .int .i64 (LM i : Int) ∧ sv = .int .i64 (LS i) ∧ OwnG PgR 5 33 wr wx.heap.size (fun x => x < wr.heap.size) v (LO i) ∧ Below wx.heap.size wx wr) (fun _ _ _ iv _ => (gs + n - intOf iv).toNat)
  case atStart => exact ⟨0, Nat.zero_le _, by simp, by rw [HO0.out.2.1]; rfl, by rw [HO0.out.2.2], by rw [HO0.out.1]; exact OwnG.nil_ _ _ _ _ _ _, Below.refl _ _⟩
  case round =>
    obtain ⟨i, hi, rfl, rfl, rfl, hown, hbr⟩ := hrel
    have hszr := hbr.size
    have HOw := Lib.hid hown
    clear hown
    have kr := kx.below hbr hkl
    have x0 := kr.cell 0
    have x4 := kr.cell 4
    have hw0 : wr.cell? (ag.add 0) = some (.int .u8 (n : Int)) := (hbr.cell (by rw [add_block]; omega)).trans ((bx.cell (by rw [add_block]; exact hag)).trans y0)
    have hw0' : wr.cell? ag = some (.int .u8 (n : Int)) := hw0
    have hws : IntKind.i64.wrap (gs + (n : Int)) = gs + n := IntWalk.i64_in _ (by omega)
    have hwi : IntKind.i64.wrap (gs + (i : Int) + 1) = gs + (i + 1 : Nat) := by rw [IntWalk.i64_in _ (by omega)]; omega
    by_cases hlt : i < n
    · have hp : decide (gs + (i : Int) < gs + (n : Int)) = true := by simp; omega
      go_upto_region 4 with fail
      go_quiet (fail)
      have how : OwnG PgR 5 33 (wr.drewN nq) wx.heap.size (fun x => x < (wr.drewN nq).heap.size) u7 (LO i) := HOw.out
      have hbq := below_drewN hbr nq
      have hszq : wx.heap.size ≤ (wr.drewN nq).heap.size := hszr
      have heap : (wr.drewN nq).heap[b]? = w.heap[b]? := (hbq.block b (by omega)).trans (bx.block b hbl)
      generalize wr.drewN nq = wq at *
      clear x0 x4 hw0 hw0' kr HOw hszr hbr
      rcases HLo.out (gs + i) ⟨by omega, by omega⟩ with ⟨j, hj, cs, hjs, ⟨Aj, cj, rfl, hcj, hrj, hwj⟩, hlk⟩ | ⟨hne, hlk⟩
      · have hlk2 : (Instr.lookup 71 (.map (some b)) (.int .i64 (gs + (i : Int))) true).run Try.prog wq = .ok (.tuple #[.agg #[.int .i64 l[j].seq, .bool l[j].first, .bool l[j].last, .bool l[j].guard, .slice Aj l[j].body.length cj], .bool true]) wq := hlk wq heap
        have hst := Lib.hid (HLk.out i l[j] (by have := HHs.out j hj; rwa [hjs] at this))
        have HJs := Lib.hid hjs
        clear hlk hjs
        generalize l[j] = q at *
        obtain ⟨q1, q2, q3, q4, q5⟩ := q
        simp only at hlk2 hcj hrj
        have HWf := Lib.hid hwj
        have hoi := HLl.out i
        obtain ⟨A0, c0, rfl, hc0, _, hob0⟩ := how.form PgR.good
        have HOw := Lib.hid how
        generalize LO i = xs at *
        go_upto_region 7 with fail
        have hb3 : Below wq.heap.size wq (wq.alloc (.cells #[.int .i64 q1, .bool q2, .bool q3, .bool q4, .slice Aj q5.length cj] 33)) := below_alloc (Below.refl _ _) _
        have k3 := Blk.new wq 33 #[.int .i64 q1, .bool q2, .bool q3, .bool q4, .slice Aj q5.length cj]
        have ho3 := HOw.out.keep PgR.good (Mod.of_fresh (M := fun _ => False) hb3) (fun _ _ _ h => h) (fun _ _ h => h)
        generalize wq.alloc (.cells #[.int .i64 q1, .bool q2, .bool q3, .bool q4, .slice Aj q5.length cj] 33) = w3 at *
        have hs3 := hb3.size
        have z0 := k3.cell 0
        have z1 := k3.cell 1
        have z2 := k3.cell 2
        have z3 := k3.cell 3
        have z4 := k3.cell 4
        have hbw3 : Below w.heap.size w w3 := bx.trans ((hbq.mono (by omega)).trans (hb3.mono (by omega)))
        have hr3 : RdS w3 (fun x => x < w.heap.size) .u8 Aj q5 := hrj.keep (Mod.of_fresh (M := fun _ => False) hbw3) (fun _ _ _ h => h)
        go_wp2_with (first
          | (at_builtin; (refine wpList_push_G (v := .slice A0 xs.length c0) rfl (.tmp 34) (.tmp 36) _ rfl PgR.good w3 (.agg #[.int .i64 0, .bool false, .bool false, .bool false, .slice none 0 0]) 40 Try.underlying23 info_pg rfl (by omega) rfl ho3 (fun x => x < w.heap.size) _ 1 [.int .i64 q1, .bool q2, .bool q3, .bool q4, .slice Aj q5.length cj] ⟨q1, q2, q3, q4, q5⟩ rfl rfl (show PgR _ _ _ _ from ⟨Aj, cj, rfl, hcj, hr3, HWf.out⟩) (fun x => x ≤ w3.heap.size) (fun x hx _ => by have hx' : x < wq.heap.size := hx; show x ≤ w3.heap.size; omega) (fun x hx _ => by have hx' : x < w.heap.size := hx; show x ≤ w3.heap.size; omega) (fun x hx h => by have := (hob0 x hx).1; have h' : x < w.heap.size := h; omega) (fun x hx => hx) (Nat.le_refl _) (by omega) (by omega) ?_); intro v7 w7 ow7 hg7 hv7))
        have hb78 : Below wx.heap.size w3 w7 := Below.grown (below_alloc (Below.refl w3.heap.size w3) _ |>.mono (by omega)) hg7 (by simp; omega) (fun x hx => (hob0 x hx).1)
        have hs7 := hg7.size
        simp at hs7
        go_roundw
        case rel => exact ⟨i + 1, by omega, by first | rfl | go_num, by rw [hst.out.2.1], by rw [hst.out.2.2], by rw [hst.out.1]; exact ow7.weak PgR.good (fun x hx hl9 => hl9), hbq.trans ((hb3.mono (by omega)).trans hb78)⟩
        case measure => simp [intOf]; omega
      · have hlk2 := hlk wq heap
        have hst := Lib.hid (HLn.out i (HHn.out _ hne))
        have hwm : IntKind.i64.wrap ((LM i : Int) + 1) = ((LM i + 1 : Nat) : Int) := by have := HMl.out i; rw [IntWalk.i64_in _ (by omega)]; omega
        clear hlk hne
        go_wp2
        have hb3 := below_alloc (Below.refl wq.heap.size wq) (.cells #[.int .i64 0, .bool false, .bool false, .bool false, .slice none 0 0] 33)
        have ho3 := how.keep PgR.good (Mod.of_fresh (M := fun _ => False) hb3) (fun _ _ _ h => h) (fun _ _ h => h)
        have hs3 := hb3.size
        go_roundw
        case rel => exact ⟨i + 1, by omega, by first | rfl | go_num, by rw [hst.out.2.1]; rfl, by rw [hst.out.2.2], by rw [hst.out.1]; exact ho3.weak PgR.good (fun x hx hl9 => hl9), hbq.trans (hb3.mono (by omega))⟩
        case measure => simp [intOf]; omega
    · have hin : i = n := by omega
      subst hin
      have hp : decide (gs + (i : Int) < gs + (i : Int)) = false := by simp
      go_upto_region 4 with fail
      go_quiet (fail)
      have how : OwnG PgR 5 33 (wr.drewN nq) wx.heap.size (fun x => x < (wr.drewN nq).heap.size) u7 (LO i) := HOw.out
      have hbq := below_drewN hbr nq
      have hd1 : decide ((LM i : Int) = 1) = decide (LM i = 1) := by
        by_cases h : LM i = 1
        · rw [decide_eq_true h, decide_eq_true (by omega)]
        · rw [decide_eq_false h, decide_eq_false (by omega)]
      go_wp2
      go_ret3
      refine ⟨_, by first | rfl | (rw [← hd1]; rfl), (how.base_ bx.size), bx.trans (hbq.mono bx.size)⟩
end Go.Proofs.Ytdnkdjaokmibjaa
