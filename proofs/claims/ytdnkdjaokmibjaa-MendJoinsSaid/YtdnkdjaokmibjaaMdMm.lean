/- Mend (plain), and how it lies in memory: a map and two slices of the call's own. -/
import Derived.Test.YtdnkdjaokmibjaaPkVal
import Derived.Maps.OwnOps
import Derived.Test.YtdnkdjaokmibjaaMdRL
import Derived.Deep.DeepCutAuto
import Derived.BigQuiet
import Derived.Deep.QuietTactic
import Derived.Test.YtdnkdjaokmibjaaMdRs
set_option linter.unusedSimpArgs false
set_option linter.unusedVariables false
namespace Go.Proofs.Ytdnkdjaokmibjaa
open Go.RowKit

/-- Block b is a map that holds just these pages, by number; S: the blocks that they read. -/
def MapPg (w : World) (b : Nat) (S : Nat → Prop) (l : List Pg) : Prop :=
  ∃ es clock, w.heap[b]? = some (.map es clock) ∧ es.size = l.length ∧ ∀ i (h : i < l.length), ∃ e cs, es[i]? = some e ∧ e.key = .int .i64 l[i].seq ∧ e.val = .agg (List.toArray cs) ∧ PgR w S cs l[i]

theorem lit_wf {s : Int} (h : i64B s) : (Lit.int .i64 s).wf = true := by
  obtain ⟨h1, h2⟩ := h
  have e1 : IntKind.min .i64 = -9223372036854775808 := rfl
  have e2 : IntKind.max .i64 = 9223372036854775807 := rfl
  simp only [Lit.wf, e1, e2, Bool.and_eq_true, decide_eq_true_eq]
  exact ⟨h1, h2⟩
theorem map_keyed : Go.Maps.Keyed Try.prog 3 := Go.Maps.int_keyed Try.underlying3

section
variable {w w' : World} {b : Nat} {M S S' : Nat → Prop} {l : List Pg}
theorem MapPg.made (w : World) (S : Nat → Prop) : MapPg (w.alloc (.map #[] 0)) w.heap.size S [] := ⟨#[], 0, heap_alloc_new w _, rfl, fun i h => absurd h (by simp)⟩
theorem MapPg.lt (h : MapPg w b S l) : b < w.heap.size := by
  obtain ⟨es, clock, hb, _⟩ := h
  exact (Array.getElem?_eq_some_iff.1 hb).1
theorem MapPg.keep (h : MapPg w b S l) (hm : Mod M w w') (hb : ¬ M b) (hs : ∀ x, S x → x < w.heap.size → ¬ M x) : MapPg w' b S l := by
  have hlt := h.lt
  obtain ⟨es, clock, e, hn, hc⟩ := h
  refine ⟨es, clock, (hm.block b hlt hb).trans e, hn, fun i hi => ?_⟩
  obtain ⟨en, cs, h1, h2, h3, h4⟩ := hc i hi
  exact ⟨en, cs, h1, h2, h3, PgR.good.keep h4 hm hs⟩
theorem MapPg.weak (h : MapPg w b S l) (hs : ∀ x, S x → x < w.heap.size → S' x) : MapPg w b S' l := by
  obtain ⟨es, clock, e, hn, hc⟩ := h
  refine ⟨es, clock, e, hn, fun i hi => ?_⟩
  obtain ⟨en, cs, h1, h2, h3, h4⟩ := hc i hi
  exact ⟨en, cs, h1, h2, h3, PgR.good.weak h4 hs⟩
theorem MapPg.keys (h : MapPg w b S l) {es : Array MapEntry} {clock : Nat} (e : w.heap[b]? = some (.map es clock)) : ∀ i, (hi : i < l.length) → ∃ en cs, es[i]? = some en ∧ en.key = .int .i64 l[i].seq ∧ en.val = .agg (List.toArray cs) ∧ PgR w S cs l[i] := by
  obtain ⟨es', clock', e', hn, hc⟩ := h
  rw [e'] at e
  injection e with e
  injection e with e1 e2
  subst e1
  exact hc
/-- v, ok := m[s] -/
theorem MapPg.look (h : MapPg w b S l) {s : Int} (hs : i64B s) :
    (∃ (i : Nat) (hi : i < l.length) (cs : List Value), l[i].seq = s ∧ PgR w S cs l[i] ∧ ∀ W : World, W.heap[b]? = w.heap[b]? → (Instr.lookup 71 (.map (some b)) (.int .i64 s) true).run Try.prog W = .ok (.tuple #[.agg cs.toArray, .bool true]) W) ∨
    ((∀ p ∈ l, p.seq ≠ s) ∧ ∀ W : World, W.heap[b]? = w.heap[b]? → (Instr.lookup 71 (.map (some b)) (.int .i64 s) true).run Try.prog W = .ok (.tuple #[.agg #[.int .i64 0, .bool false, .bool false, .bool false, .slice none 0 0], .bool false]) W) := by
  have hkey := Go.Maps.keyOf_int_mk Try.underlying3 (lit_wf hs)
  obtain ⟨es, clock, hb, hn, hc⟩ := h
  have hall : ∀ e ∈ es.toList, ∃ lt, keyOf Try.prog 3 e.key = some lt := by
    intro e he
    obtain ⟨i, hi, rfl⟩ := List.getElem_of_mem he
    have hi' : i < l.length := by rw [← hn]; simpa using hi
    obtain ⟨en, cs, h1, h2, _, h4⟩ := hc i hi'
    rw [Array.getElem?_eq_getElem (by simpa using hi)] at h1
    injection h1 with h1
    refine ⟨.int .i64 l[i].seq, ?_⟩
    rw [Array.getElem_toList, h1, h2]
    obtain ⟨A, c, _, _, _, hw⟩ := h4
    exact Go.Maps.keyOf_int_mk Try.underlying3 (lit_wf hw.seq)
  rcases map_keyed.find w hkey es.toList hall with ⟨h1, h2⟩ | ⟨j, e0, h1, h2, h3⟩
  · refine .inr ⟨fun p hp => ?_, fun W hW => ?_⟩
    · obtain ⟨i, hi, rfl⟩ := List.getElem_of_mem hp
      obtain ⟨en, cs, k1, k2, _, _⟩ := hc i hi
      have hm : en ∈ es.toList := by rw [Array.mem_toList_iff]; exact Array.mem_of_getElem? k1
      have := h2 en hm
      rw [k2] at this
      exact fun e => this (by rw [e])
    · rcases map_keyed.find W hkey es.toList hall with ⟨h1', _⟩ | ⟨j', e0', _, h2', h3'⟩
      · simp [Instr.lookup, run_underlying Try.underlying71, Go.MapKept.run_getObj_map (hW.trans hb), map_keyed.check W _ hkey, h1', Try.zeroValue33, Result.andThen]
      · exact absurd h3' (h2 e0' (List.mem_of_getElem? h2'))
  · have hj : j < l.length := by
      have := (List.getElem?_eq_some_iff.1 h2).1
      rw [← hn]; simpa using this
    obtain ⟨en, cs, k1, k2, k3, k4⟩ := hc j hj
    have e1 : es.toList[j]? = some en := by rw [Array.getElem?_toList]; exact k1
    rw [e1] at h2
    injection h2 with h2
    subst h2
    refine .inl ⟨j, hj, cs, ?_, k4, fun W hW => ?_⟩
    · rw [k2] at h3; injection h3
    · rcases map_keyed.find W hkey es.toList hall with ⟨_, h2'⟩ | ⟨j', e0', h1', h2', h3'⟩
      · exact absurd h3 (h2' en (List.mem_of_getElem? e1))
      · have hsame : e0'.val = en.val := by
          have f1 : (Instr.findKey 3 (.int .i64 s) es.toList).run Try.prog W = .ok (some (j', e0'.val)) W := h1'
          have f2 : (Instr.findKey 3 (.int .i64 s) es.toList).run Try.prog w = .ok (some (j, en.val)) w := h1
          cases hfn : Instr.findNow (.int .i64) (.int .i64 s) es.toList 0 with
          | none =>
            exfalso
            have hkeys : ∀ (es : List MapEntry) (n : Nat), (∀ e ∈ es, ∃ k, e.key = .int .i64 k) → Instr.findNow (.int .i64) (.int .i64 s) es n ≠ none := by
              intro es
              induction es with
              | nil => intro n _; simp [Instr.findNow]
              | cons e es ih =>
                intro n he
                obtain ⟨k, hk⟩ := he e (List.mem_cons_self ..)
                simp only [Instr.findNow, hk, Instr.sameNow, if_true]
                cases hh : (s == k)
                · exact ih _ fun x hx => he x (List.mem_cons_of_mem _ hx)
                · simp
            refine hkeys es.toList 0 (fun e he => ?_) hfn
            obtain ⟨i, hi, rfl⟩ := List.getElem_of_mem he
            have hi' : i < l.length := by rw [← hn]; simpa using hi
            obtain ⟨en', _, h1, h2, _, _⟩ := hc i hi'
            rw [Array.getElem?_eq_getElem (by simpa using hi)] at h1
            injection h1 with h1
            exact ⟨_, by rw [Array.getElem_toList, h1, h2]⟩
          | some r =>
            simp only [Instr.findKey, Sem.run_bind, run_underlying Try.underlying3, Result.andThen_ok, hfn, Sem.run_pure, Result.ok.injEq, and_true] at f1 f2
            exact congrArg Prod.snd (Option.some.inj (f1.symm.trans f2))
        rw [hsame, k3] at h1'
        simp [Instr.lookup, run_underlying Try.underlying71, Go.MapKept.run_getObj_map (hW.trans hb), map_keyed.check W _ hkey, h1', Result.andThen]
/-- m[q.seq] = q, where none is there -/
theorem MapPg.put (h : MapPg w b S l) (hSb : ¬ S b) {q : Pg} {cs : List Value} (hq : PgR w S cs q) (hne : ∀ p ∈ l, p.seq ≠ q.seq) :
    ∃ w', (Instr.mapUpdate 71 (.map (some b)) (.int .i64 q.seq) (.agg cs.toArray)).run Try.prog w = .ok () w' ∧ MapPg w' b S (l ++ [q]) ∧ w.grownBy w' (some b) := by
  have hwq : i64B q.seq := by obtain ⟨A, c, _, _, _, hw⟩ := hq; exact hw.seq
  have hkey := Go.Maps.keyOf_int_mk Try.underlying3 (lit_wf hwq)
  have hlt := h.lt
  have h0 := h
  obtain ⟨es, clock, hb, hn, hc⟩ := h
  have hall : ∀ e ∈ es.toList, ∃ lt, keyOf Try.prog 3 e.key = some lt := by
    intro e he
    obtain ⟨i, hi, rfl⟩ := List.getElem_of_mem he
    have hi' : i < l.length := by rw [← hn]; simpa using hi
    obtain ⟨en, cs, h1, h2, _, h4⟩ := hc i hi'
    rw [Array.getElem?_eq_getElem (by simpa using hi)] at h1
    injection h1 with h1
    refine ⟨.int .i64 l[i].seq, ?_⟩
    rw [Array.getElem_toList, h1, h2]
    obtain ⟨A, c, _, _, _, hw⟩ := h4
    exact Go.Maps.keyOf_int_mk Try.underlying3 (lit_wf hw.seq)
  rcases map_keyed.find w hkey es.toList hall with ⟨h1, h2⟩ | ⟨j, e0, h1, h2, h3⟩
  · have hg : w.grownBy (Go.ChangeMaps.setBlock w b (.map (es.push ⟨.int .i64 q.seq, .agg cs.toArray, clock⟩) (clock + 1))) (some b) :=
      ⟨rfl, rfl, rfl, by simp [Go.ChangeMaps.setBlock], fun i hi hn => by
        simp only [Go.ChangeMaps.setBlock]
        rw [Array.getElem?_setIfInBounds]
        split
        · rename_i h; exact absurd (by rw [h]) hn
        · rfl⟩
    have hM := Mod.of_only (M := (· = b)) hg (fun _ => rfl)
    refine ⟨_, ?_, ⟨es.push ⟨.int .i64 q.seq, .agg cs.toArray, clock⟩, clock + 1, ?_, by simp [hn], fun i hi => ?_⟩, hg⟩
    · simp [Instr.mapUpdate, run_underlying Try.underlying71, Go.MapKept.run_getObj_map hb, map_keyed.check w false hkey, h1, Go.MapKept.run_setObj_map _ hb, Result.andThen, Go.ChangeMaps.setBlock]
    · simp only [Go.ChangeMaps.setBlock]
      rw [Array.getElem?_setIfInBounds, if_pos rfl, if_pos hlt]
    · by_cases hil : i < l.length
      · obtain ⟨en, cs', k1, k2, k3, k4⟩ := hc i hil
        refine ⟨en, cs', ?_, by rw [List.getElem_append_left hil]; exact k2, k3, by rw [List.getElem_append_left hil]; exact PgR.good.keep k4 hM (fun x hx _ e => hSb (by rw [← e]; exact hx))⟩
        rw [Array.getElem?_push, if_neg (by omega)]
        exact k1
      · have : i = l.length := by simp at hi; omega
        subst this
        refine ⟨⟨.int .i64 q.seq, .agg cs.toArray, clock⟩, cs, ?_, by simp, rfl, by simpa using PgR.good.keep hq hM (fun x hx _ e => hSb (by rw [← e]; exact hx))⟩
        rw [Array.getElem?_push, if_pos hn.symm]
  · exfalso
    have hj : j < l.length := by
      have := (List.getElem?_eq_some_iff.1 h2).1
      rw [← hn]; simpa using this
    obtain ⟨en, cs', k1, k2, _, _⟩ := hc j hj
    have e1 : es.toList[j]? = some en := by rw [Array.getElem?_toList]; exact k1
    rw [e1] at h2
    injection h2 with h2
    subst h2
    rw [k2] at h3
    injection h3 with _ h3
    exact hne _ (List.getElem_mem hj) h3
end

/-- The store at the operation. -/
theorem wpList_put_pg {w : World} {ops : Array Oper} {rest : List Oper} {o : Oper} {a : Act} {Q : Exit → Act → World → Prop} (hgd : o.guard = none) (m x v : Operand) (hop : o.op = Op.mapUpdate 71 m x v)
    {b : Nat} {S : Nat → Prop} {l : List Pg} (hm : a.eval m = .map (some b)) (q : Pg) (cs : List Value) (hx : a.eval x = .int .i64 q.seq) (hv : a.eval v = .agg cs.toArray) (h : MapPg w b S l) (hSb : ¬ S b) (hq : PgR w S cs q) (hne : ∀ p ∈ l, p.seq ≠ q.seq)
    (hK : ∀ w', MapPg w' b S (l ++ [q]) → w.grownBy w' (some b) → wpList Try.prog ops Q rest (a.put o.dst undef) w') : wpList Try.prog ops Q (o :: rest) a w := by
  refine wpList_plain hgd fun K' hK' => ?_
  obtain ⟨w', hrun, r1, r2⟩ := h.put hSb hq hne
  unfold Oper.wp
  simp [execOp, hop, hm, hx, hv, hrun, Result.andThen]
  exact hK' _ _ (hK w' r1 r2)
end Go.Proofs.Ytdnkdjaokmibjaa

namespace Go.Proofs.Ytdnkdjaokmibjaa
open Go.RowKit

set_option maxHeartbeats 8000000 in
set_option maxRecDepth 100000 in
theorem lacking_any {w : World} {b : Nat} {l : List Pg} (hm : MapPg w b (fun x => x < w.heap.size) l) (hd : difS l) (g : Pg) (A : Option Addr) (c : Nat) (hr : RdI w w.heap.size .u8 A g.body) (n : Nat) (h0 : 0 ≤ g.seq) (h1 : g.seq ≤ 2147483647) (hn : g.body.getD 0 0 = (n : Int)) (hn1 : n ≤ 255) (hl0 : 0 < g.body.length) :
    Calls Try.prog 34 #[g.val A c, .map (some b)] w fun e w' => ∃ v, e = .returned (.tuple #[.int .i64 (lackS g l n), v, .bool (decide (lackM g l n = 1))]) ∧ OwnG PgR 5 33 w' w.heap.size (fun x => x < w'.heap.size) v (lackO g l n) ∧ Below w.heap.size w w' := by
  have HM := Lib.hid hm
  obtain ⟨ag, rfl, hag, y0⟩ := hr.at_ hl0
  rw [hn] at y0
  have HLk := Lib.hid (fun (i : Nat) (p : Pg) (h : hasS l (g.seq + (i : Int)) = some p) => lackO_some (n := i) h)
  have HLn := Lib.hid (fun (i : Nat) (h : hasS l (g.seq + (i : Int)) = none) => lackO_none (n := i) h)
  have HLl := Lib.hid (fun i => lackO_len g l i)
  have HMl := Lib.hid (fun i => lackM_le g l i)
  have HLo := Lib.hid (fun s (hs : i64B s) => hm.look hs)
  have HHs := Lib.hid (fun i (hi : i < l.length) => hd.has hi)
  have HHn := Lib.hid (fun s => (hasS_none (l := l) (s := s)).2)
  have hbl := hm.lt
  have HO0 := Lib.hid (show lackO g l 0 = [] ∧ lackM g l 0 = 0 ∧ lackS g l 0 = 0 from ⟨rfl, rfl, rfl⟩)
  generalize lackO g l = LO at *
  generalize lackM g l = LM at *
  generalize lackS g l = LS at *
  obtain ⟨gs, g2, g3, g4, gb⟩ := g
  simp only at *
  clear hm hr hn
  go_enter Try.func34, Try.ntmps34
  go_upto_region 4 with fail
  have kx := Blk.new w 33 #[.int .i64 gs, .bool g2, .bool g3, .bool g4, .slice (some ag) gb.length c]
  have bx : Below w.heap.size w (w.alloc (.cells #[.int .i64 gs, .bool g2, .bool g3, .bool g4, .slice (some ag) gb.length c] 33)) := below_alloc (Below.refl _ _) _
  generalize w.alloc (.cells #[.int .i64 gs, .bool g2, .bool g3, .bool g4, .slice (some ag) gb.length c] 33) = wx at *
  have hkl := kx.lt
  go_loopw [7, 8, 9, 10] (fun v mv sv iv wr => ∃ i : Nat, i ≤ n ∧ iv = .int .i64 (gs + i) ∧ mv = .int .i64 (LM i : Int) ∧ sv = .int .i64 (LS i) ∧ OwnG PgR 5 33 wr wx.heap.size (fun x => x < wr.heap.size) v (LO i) ∧ Below wx.heap.size wx wr) (fun _ _ _ iv _ => (gs + n - intOf iv).toNat)
  case atStart => exact ⟨0, Nat.zero_le _, by simp, by rw [HO0.out.2.1]; rfl, by rw [HO0.out.2.2], by rw [HO0.out.1]; exact OwnG.nil_ _ _ _ _ _ _, Below.refl _ _⟩
  case round =>
    obtain ⟨i, hi, rfl, rfl, rfl, hown, hbr⟩ := hrel
    have hszr := hbr.size
    have HOw := Lib.hid hown
    clear hown
    have kr := kx.below hbr hkl
    have x0 := kr.cell 0
    have x4 := kr.cell 4
    have hw0 : wr.cell? (ag.add 0) = some (.int .u8 (n : Int)) := (hbr.cell (by rw [add_block]; omega)).trans ((bx.cell (by rw [add_block]; exact hag)).trans y0)
    have hw0' : wr.cell? ag = some (.int .u8 (n : Int)) := hw0
    have hws : IntKind.i64.wrap (gs + (n : Int)) = gs + n := IntWalk.i64_in _ (by omega)
    have hwi : IntKind.i64.wrap (gs + (i : Int) + 1) = gs + (i + 1 : Nat) := by rw [IntWalk.i64_in _ (by omega)]; omega
    by_cases hlt : i < n
    · have hp : decide (gs + (i : Int) < gs + (n : Int)) = true := by simp; omega
      go_upto_region 4 with fail
      go_quiet (fail)
      have how : OwnG PgR 5 33 (wr.drewN nq) wx.heap.size (fun x => x < (wr.drewN nq).heap.size) u7 (LO i) := HOw.out
      have hbq := below_drewN hbr nq
      have hszq : wx.heap.size ≤ (wr.drewN nq).heap.size := hszr
      have heap : (wr.drewN nq).heap[b]? = w.heap[b]? := (hbq.block b (by omega)).trans (bx.block b hbl)
      generalize wr.drewN nq = wq at *
      clear x0 x4 hw0 hw0' kr HOw hszr hbr
      rcases HLo.out (gs + i) ⟨by omega, by omega⟩ with ⟨j, hj, cs, hjs, ⟨Aj, cj, rfl, hcj, hrj, hwj⟩, hlk⟩ | ⟨hne, hlk⟩
      · have hlk2 : (Instr.lookup 71 (.map (some b)) (.int .i64 (gs + (i : Int))) true).run Try.prog wq = .ok (.tuple #[.agg #[.int .i64 l[j].seq, .bool l[j].first, .bool l[j].last, .bool l[j].guard, .slice Aj l[j].body.length cj], .bool true]) wq := hlk wq heap
        have hst := Lib.hid (HLk.out i l[j] (by have := HHs.out j hj; rwa [hjs] at this))
        have HJs := Lib.hid hjs
        clear hlk hjs
        generalize l[j] = q at *
        obtain ⟨q1, q2, q3, q4, q5⟩ := q
        simp only at hlk2 hcj hrj
        have HWf := Lib.hid hwj
        have hoi := HLl.out i
        obtain ⟨A0, c0, rfl, hc0, _, hob0⟩ := how.form PgR.good
        have HOw := Lib.hid how
        generalize LO i = xs at *
        go_upto_region 7 with fail
        have hb3 : Below wq.heap.size wq (wq.alloc (.cells #[.int .i64 q1, .bool q2, .bool q3, .bool q4, .slice Aj q5.length cj] 33)) := below_alloc (Below.refl _ _) _
        have k3 := Blk.new wq 33 #[.int .i64 q1, .bool q2, .bool q3, .bool q4, .slice Aj q5.length cj]
        have ho3 := HOw.out.keep PgR.good (Mod.of_fresh (M := fun _ => False) hb3) (fun _ _ _ h => h) (fun _ _ h => h)
        generalize wq.alloc (.cells #[.int .i64 q1, .bool q2, .bool q3, .bool q4, .slice Aj q5.length cj] 33) = w3 at *
        have hs3 := hb3.size
        have z0 := k3.cell 0
        have z1 := k3.cell 1
        have z2 := k3.cell 2
        have z3 := k3.cell 3
        have z4 := k3.cell 4
        have hbw3 : Below w.heap.size w w3 := bx.trans ((hbq.mono (by omega)).trans (hb3.mono (by omega)))
        have hr3 : RdS w3 (fun x => x < w.heap.size) .u8 Aj q5 := hrj.keep (Mod.of_fresh (M := fun _ => False) hbw3) (fun _ _ _ h => h)
        go_wp2_with (first
          | (at_builtin; (refine wpList_push_G (v := .slice A0 xs.length c0) rfl (.tmp 34) (.tmp 36) _ rfl PgR.good w3 (.agg #[.int .i64 0, .bool false, .bool false, .bool false, .slice none 0 0]) 40 Try.underlying23 info_pg rfl (by omega) rfl ho3 (fun x => x < w.heap.size) _ 1 [.int .i64 q1, .bool q2, .bool q3, .bool q4, .slice Aj q5.length cj] ⟨q1, q2, q3, q4, q5⟩ rfl rfl (show PgR _ _ _ _ from ⟨Aj, cj, rfl, hcj, hr3, HWf.out⟩) (fun x => x ≤ w3.heap.size) (fun x hx _ => by have hx' : x < wq.heap.size := hx; show x ≤ w3.heap.size; omega) (fun x hx _ => by have hx' : x < w.heap.size := hx; show x ≤ w3.heap.size; omega) (fun x hx h => by have := (hob0 x hx).1; have h' : x < w.heap.size := h; omega) (fun x hx => hx) (Nat.le_refl _) (by omega) (by omega) ?_); intro v7 w7 ow7 hg7 hv7))
        have hb78 : Below wx.heap.size w3 w7 := Below.grown (below_alloc (Below.refl w3.heap.size w3) _ |>.mono (by omega)) hg7 (by simp; omega) (fun x hx => (hob0 x hx).1)
        have hs7 := hg7.size
        simp at hs7
        go_roundw
        case rel => exact ⟨i + 1, by omega, by first | rfl | go_num, by rw [hst.out.2.1], by rw [hst.out.2.2], by rw [hst.out.1]; exact ow7.weak PgR.good (fun x hx hl9 => hl9), hbq.trans ((hb3.mono (by omega)).trans hb78)⟩
        case measure => simp [intOf]; omega
      · have hlk2 := hlk wq heap
        have hst := Lib.hid (HLn.out i (HHn.out _ hne))
        have hwm : IntKind.i64.wrap ((LM i : Int) + 1) = ((LM i + 1 : Nat) : Int) := by have := HMl.out i; rw [IntWalk.i64_in _ (by omega)]; omega
        clear hlk hne
        go_wp2
        have hb3 := below_alloc (Below.refl wq.heap.size wq) (.cells #[.int .i64 0, .bool false, .bool false, .bool false, .slice none 0 0] 33)
        have ho3 := how.keep PgR.good (Mod.of_fresh (M := fun _ => False) hb3) (fun _ _ _ h => h) (fun _ _ h => h)
        have hs3 := hb3.size
        go_roundw
        case rel => exact ⟨i + 1, by omega, by first | rfl | go_num, by rw [hst.out.2.1]; rfl, by rw [hst.out.2.2], by rw [hst.out.1]; exact ho3.weak PgR.good (fun x hx hl9 => hl9), hbq.trans (hb3.mono (by omega))⟩
        case measure => simp [intOf]; omega
    · have hin : i = n := by omega
      subst hin
      have hp : decide (gs + (i : Int) < gs + (i : Int)) = false := by simp
      go_upto_region 4 with fail
      go_quiet (fail)
      have how : OwnG PgR 5 33 (wr.drewN nq) wx.heap.size (fun x => x < (wr.drewN nq).heap.size) u7 (LO i) := HOw.out
      have hbq := below_drewN hbr nq
      have hd1 : decide ((LM i : Int) = 1) = decide (LM i = 1) := by
        by_cases h : LM i = 1
        · rw [decide_eq_true h, decide_eq_true (by omega)]
        · rw [decide_eq_false h, decide_eq_false (by omega)]
      go_wp2
      go_ret3
      refine ⟨_, by first | rfl | (rw [← hd1]; rfl), (how.base_ bx.size), bx.trans (hbq.mono bx.size)⟩
end Go.Proofs.Ytdnkdjaokmibjaa

namespace Go.Proofs.Ytdnkdjaokmibjaa
open Go.RowKit

theorem pgOk_seqM {p : Pg} (h : pgOk p = true) : 0 ≤ p.seq ∧ p.seq ≤ 2147483647 := by
  have := of_decide_eq_true h
  omega
/-- one page -/
def mendF (st : List Pg × List Pg × Int) (p : Pg) : List Pg × List Pg × Int :=
  if pgOk p = false then st
  else if p.guard = true then (if isG p = true then (st.1, st.2.1 ++ [p], max st.2.2 (p.seq + p.body.getD 0 0 - 1)) else st)
  else if (hasS st.1 p.seq).isSome = true then st else (st.1 ++ [p], st.2.1, max st.2.2 p.seq)
def mendA (l : List Pg) : List Pg × List Pg × Int := l.foldl mendF ([], [], -1)
/-- one guard -/
def backF (out : List Pg) (g : Pg) : List Pg :=
  if lackM g out (g.body.getD 0 0).toNat = 1 ∧ backOk g (lackO g out (g.body.getD 0 0).toNat) (lackS g out (g.body.getD 0 0).toNat) = true
  then out ++ [backP g (lackO g out (g.body.getD 0 0).toNat) (lackS g out (g.body.getD 0 0).toNat)] else out
def mendO (l : List Pg) : List Pg := (mendA l).2.1.foldl backF (mendA l).1
def mendT (l : List Pg) : Int := (mendA l).2.2
theorem mendA_snoc (l : List Pg) (p : Pg) : mendA (l ++ [p]) = mendF (mendA l) p := by simp [mendA]

theorem backP_seq (g : Pg) (o : List Pg) (s : Int) : (backP g o s).seq = s := rfl
theorem lackS_free {g : Pg} {l : List Pg} {n : Nat} (h : lackM g l n = 1) : hasS l (lackS g l n) = none := by
  unfold lackM at h
  unfold lackS
  split
  · rename_i he
    rw [List.getLast?_eq_none_iff] at he
    rw [he] at h; simp at h
  · rename_i i he
    have := List.mem_of_getLast? he
    have h2 := (List.mem_filter.1 this).2
    simpa using h2

/-- what holds of pages that are kept -/
structure Kept (l : List Pg) : Prop where
  dif : difS l
  ok : ∀ p ∈ l, pgOk p = true
theorem Kept.nil_ : Kept [] := ⟨List.Pairwise.nil, fun p h => by cases h⟩
theorem Kept.snoc {l : List Pg} {p : Pg} (h : Kept l) (hp : pgOk p = true) (hn : hasS l p.seq = none) : Kept (l ++ [p]) :=
  ⟨h.dif.snoc (hasS_none.1 hn), fun q hq => by rcases List.mem_append.1 hq with hq | hq; exact h.ok q hq; rw [List.mem_singleton] at hq; subst hq; exact hp⟩
theorem backOk_ok {g : Pg} {o : List Pg} {s : Int} (h : backOk g o s = true) : pgOk (backP g o s) = true := by
  unfold backOk at h
  simp only [Bool.and_eq_true] at h
  exact h.2
theorem Kept.back {out : List Pg} {g : Pg} (h : Kept out) : Kept (backF out g) := by
  unfold backF
  split
  · rename_i hh
    exact h.snoc (backOk_ok hh.2) (by rw [backP_seq]; exact lackS_free hh.1)
  · exact h
theorem Kept.step {st : List Pg × List Pg × Int} (h : Kept st.1) (p : Pg) : Kept (mendF st p).1 := by
  unfold mendF
  split
  · exact h
  · split
    · split
      · exact h
      · exact h
    · split
      · exact h
      · rename_i h1 _ h3
        exact h.snoc (by simpa using h1) (by simpa using h3)
theorem mendA_kept (l : List Pg) : Kept (mendA l).1 := by
  have key : ∀ (l : List Pg) (st : List Pg × List Pg × Int), Kept st.1 → Kept (l.foldl mendF st).1 := by
    intro l
    induction l with
    | nil => intro st h; exact h
    | cons p l ih => intro st h; exact ih _ (h.step p)
  exact key l _ Kept.nil_
theorem back_kept (gs : List Pg) : ∀ {out : List Pg}, Kept out → Kept (gs.foldl backF out) := by
  induction gs with
  | nil => intro out h; exact h
  | cons g gs ih => intro out h; exact ih h.back
/-- guards that can be used -/
structure Guards (gs : List Pg) : Prop where
  ok : ∀ g ∈ gs, pgOk g = true ∧ isG g = true
theorem mendF_guards {st : List Pg × List Pg × Int} (h : Guards st.2.1) (p : Pg) : Guards (mendF st p).2.1 := by
  unfold mendF
  split
  · exact h
  · rename_i h1
    split
    · split
      · rename_i _ h3
        exact ⟨fun g hg => by
          rcases List.mem_append.1 hg with hg | hg
          · exact h.ok g hg
          · rw [List.mem_singleton] at hg; subst hg; exact ⟨by simpa using h1, h3⟩⟩
      · exact h
    · split
      · exact h
      · exact h
theorem mendA_guards (l : List Pg) : Guards (mendA l).2.1 := by
  have key : ∀ (l : List Pg) (st : List Pg × List Pg × Int), Guards st.2.1 → Guards (l.foldl mendF st).2.1 := by
    intro l
    induction l with
    | nil => intro st h; exact h
    | cons p l ih => intro st h; exact ih _ (mendF_guards h p)
  exact key l _ ⟨fun g h => by cases h⟩
theorem isG_bd {p : Pg} (h : isG p = true) : 3 < p.body.length ∧ 1 ≤ p.body.getD 0 0 ∧ p.body.getD 0 0 ≤ 8 := by
  have := of_decide_eq_true h
  exact this.2
theorem mendF_top {st : List Pg × List Pg × Int} (h : -1 ≤ st.2.2 ∧ st.2.2 ≤ 2147483655) (p : Pg) : -1 ≤ (mendF st p).2.2 ∧ (mendF st p).2.2 ≤ 2147483655 := by
  unfold mendF
  split
  · exact h
  · rename_i h1
    have hs := pgOk_seqM (p := p) (by simpa using h1)
    split
    · split
      · rename_i _ h3
        have := isG_bd h3
        show -1 ≤ max st.2.2 (p.seq + p.body.getD 0 0 - 1) ∧ max st.2.2 (p.seq + p.body.getD 0 0 - 1) ≤ _
        omega
      · exact h
    · split
      · exact h
      · show -1 ≤ max st.2.2 p.seq ∧ max st.2.2 p.seq ≤ _
        omega
theorem mendA_top (l : List Pg) : -1 ≤ (mendA l).2.2 ∧ (mendA l).2.2 ≤ 2147483655 := by
  have key : ∀ (l : List Pg) (st : List Pg × List Pg × Int), -1 ≤ st.2.2 ∧ st.2.2 ≤ 2147483655 → -1 ≤ (l.foldl mendF st).2.2 ∧ (l.foldl mendF st).2.2 ≤ 2147483655 := by
    intro l
    induction l with
    | nil => intro st h; exact h
    | cons p l ih => intro st h; exact ih _ (mendF_top h p)
  exact key l _ (by simp)
theorem mendA_len (l : List Pg) : (mendA l).1.length ≤ l.length ∧ (mendA l).2.1.length ≤ l.length := by
  have key : ∀ (l : List Pg) (st : List Pg × List Pg × Int), (l.foldl mendF st).1.length ≤ st.1.length + l.length ∧ (l.foldl mendF st).2.1.length ≤ st.2.1.length + l.length := by
    intro l
    induction l with
    | nil => intro st; simp
    | cons p l ih =>
      intro st
      rw [List.foldl_cons]
      have h1 := ih (mendF st p)
      have h2 : (mendF st p).1.length ≤ st.1.length + 1 ∧ (mendF st p).2.1.length ≤ st.2.1.length + 1 := by
        unfold mendF
        split
        · simp
        · split
          · split
            · simp
            · simp
          · split
            · simp
            · simp
      simp only [List.length_cons]
      omega
  have := key l ([], [], -1)
  simpa [mendA] using this
theorem back_len (gs : List Pg) : ∀ (out : List Pg), (gs.foldl backF out).length ≤ out.length + gs.length := by
  induction gs with
  | nil => intro out; simp
  | cons g gs ih =>
    intro out
    rw [List.foldl_cons]
    have h1 := ih (backF out g)
    have h2 : (backF out g).length ≤ out.length + 1 := by unfold backF; split <;> simp
    simp only [List.length_cons]
    omega
theorem backP_wf {g : Pg} {o : List Pg} {s : Int} (hg : byteB g.body) (h : backOk g o s = true) : (backP g o s).wf := by
  have h1 := pgOk_len (backOk_ok h)
  have h2 := pgOk_seqM (backOk_ok h)
  refine ⟨⟨by omega, by omega⟩, by omega, fun x hx => ?_⟩
  exact sumX_bytes (fun y hy => hg y (List.mem_of_mem_drop hy)) x (List.mem_of_mem_take hx)

structure MdM (w0 W : World) (B b : Nat) (vg vo : Value) (hv gs out : List Pg) (D : Nat → Prop) : Prop where
  old : Below B w0 W
  base : B ≤ W.heap.size
  bB : B ≤ b
  map : MapPg W b D hv
  og : OwnG PgR 5 33 W B D vg gs
  oo : OwnG PgR 5 33 W B D vo out
  dx : ∀ x, D x → x < W.heap.size ∧ x ≠ b ∧ vg.ownBlock ≠ some x ∧ vo.ownBlock ≠ some x
  gb : vg.ownBlock ≠ some b
  ob : vo.ownBlock ≠ some b
  go : ∀ x, vg.ownBlock = some x → vo.ownBlock ≠ some x

section
variable {w0 W W' : World} {B b : Nat} {vg vo : Value} {hv gs out : List Pg} {D : Nat → Prop}
theorem MdM.fresh (h : MdM w0 W B b vg vo hv gs out D) (hb : Below W.heap.size W W') : MdM w0 W' B b vg vo hv gs out D :=
  have hm := Mod.of_fresh (M := fun _ => False) hb
  { old := h.old.trans (hb.mono h.base)
    base := Nat.le_trans h.base hb.size
    bB := h.bB
    map := h.map.keep hm (fun h => h) (fun _ _ _ h => h)
    og := h.og.keep PgR.good hm (fun _ _ _ h => h) (fun _ _ h => h)
    oo := h.oo.keep PgR.good hm (fun _ _ _ h => h) (fun _ _ h => h)
    dx := fun x hx => ⟨Nat.lt_of_lt_of_le (h.dx x hx).1 hb.size, (h.dx x hx).2⟩
    gb := h.gb
    ob := h.ob
    go := h.go }
/-- What the call has laid since may be read too. -/
theorem MdM.more (h : MdM w0 W B b vg vo hv gs out D) (hb : Below W.heap.size W W') : MdM w0 W' B b vg vo hv gs out (fun x => D x ∨ (W.heap.size ≤ x ∧ x < W'.heap.size)) :=
  have h' := h.fresh hb
  have lg := h.og.own_ge
  have lo := h.oo.own_ge
  have lm := h.map.lt
  { h' with
    map := h'.map.weak (fun x hx _ => .inl hx)
    og := h'.og.weak PgR.good (fun x hx _ => .inl hx)
    oo := h'.oo.weak PgR.good (fun x hx _ => .inl hx)
    dx := fun x hx => by
      rcases hx with hx | ⟨h1, h2⟩
      · exact h'.dx x hx
      · exact ⟨h2, by omega, fun e => by have := (lg x e).2; omega, fun e => by have := (lo x e).2; omega⟩ }
theorem MdM.put_ (h : MdM w0 W B b vg vo hv gs out D) {q : Pg} (hm : MapPg W' b D (hv ++ [q])) (hg : W.grownBy W' (some b)) : MdM w0 W' B b vg vo (hv ++ [q]) gs out D :=
  have hM := Mod.of_only (M := (· = b)) hg (fun _ => rfl)
  { old := h.old.trans (hM.below h.base (fun x hx => by have hx' : x = b := hx; have := h.bB; omega))
    base := Nat.le_trans h.base hg.size
    bB := h.bB
    map := hm
    og := h.og.keep PgR.good hM (fun x hx _ e => (h.dx x hx).2.1 e) (fun x hx e => h.gb (by rw [hx]; exact congrArg some e))
    oo := h.oo.keep PgR.good hM (fun x hx _ e => (h.dx x hx).2.1 e) (fun x hx e => h.ob (by rw [hx]; exact congrArg some e))
    dx := fun x hx => ⟨Nat.lt_of_lt_of_le (h.dx x hx).1 hg.size, (h.dx x hx).2⟩
    gb := h.gb
    ob := h.ob
    go := h.go }
theorem MdM.push_o (h : MdM w0 W B b vg vo hv gs out D) {cs : Array Value} {e : TypeId} {v' : Value} {q : Pg} (ho : OwnG PgR 5 33 W' B (fun x => D x ∨ x = W.heap.size) v' (out ++ [q])) (hg : (W.alloc (.cells cs e)).grownBy W' vo.ownBlock) (hv' : v'.ownBlock = vo.ownBlock ∨ v'.ownBlock = some (W.heap.size + 1)) : MdM w0 W' B b vg v' hv gs (out ++ [q]) (fun x => D x ∨ x = W.heap.size) :=
  have hg' := only_trans (only_alloc (only_refl W vo.ownBlock) (.cells cs e)) hg
  have lg := h.og.own_ge
  have lo := h.oo.own_ge
  have lm := h.map.lt
  have hsz : W.heap.size + 1 ≤ W'.heap.size := by have := hg.size; simpa using this
  have hM : Mod (fun x => vo.ownBlock = some x) W W' := Mod.of_grown hg' (fun x e _ => e)
  { old := h.old.trans (hM.below h.base (fun x hx => (lo x hx).1))
    base := by have := h.base; omega
    bB := h.bB
    map := (h.map.keep hM h.ob (fun x hx _ e => (h.dx x hx).2.2.2 e)).weak (fun x hx _ => .inl hx)
    og := (h.og.keep PgR.good hM (fun x hx _ e => (h.dx x hx).2.2.2 e) (fun x hx e => h.go x hx e)).weak PgR.good (fun x hx _ => .inl hx)
    oo := ho
    dx := fun x hx => by
      rcases hx with hx | rfl
      · obtain ⟨a1, a2, a3, a4⟩ := h.dx x hx
        refine ⟨by omega, a2, a3, fun e => ?_⟩
        rcases hv' with hv' | hv'
        · exact a4 (hv' ▸ e)
        · rw [hv'] at e; injection e with e; omega
      · refine ⟨by omega, by omega, fun e => ?_, fun e => ?_⟩
        · have := (lg _ e).2; omega
        · rcases hv' with hv' | hv'
          · have := (lo _ (hv' ▸ e)).2; omega
          · rw [hv'] at e; injection e with e; omega
    gb := h.gb
    ob := fun e => by
      rcases hv' with hv' | hv'
      · exact h.ob (hv' ▸ e)
      · rw [hv'] at e; injection e with e; omega
    go := fun x hx e => by
      rcases hv' with hv' | hv'
      · exact h.go x hx (hv' ▸ e)
      · rw [hv'] at e; injection e with e; have := (lg x hx).2; omega }
theorem MdM.push_g (h : MdM w0 W B b vg vo hv gs out D) {cs : Array Value} {e : TypeId} {v' : Value} {q : Pg} (ho : OwnG PgR 5 33 W' B (fun x => D x ∨ x = W.heap.size) v' (gs ++ [q])) (hg : (W.alloc (.cells cs e)).grownBy W' vg.ownBlock) (hv' : v'.ownBlock = vg.ownBlock ∨ v'.ownBlock = some (W.heap.size + 1)) : MdM w0 W' B b v' vo hv (gs ++ [q]) out (fun x => D x ∨ x = W.heap.size) :=
  have hg' := only_trans (only_alloc (only_refl W vg.ownBlock) (.cells cs e)) hg
  have lg := h.og.own_ge
  have lo := h.oo.own_ge
  have lm := h.map.lt
  have hsz : W.heap.size + 1 ≤ W'.heap.size := by have := hg.size; simpa using this
  have hM : Mod (fun x => vg.ownBlock = some x) W W' := Mod.of_grown hg' (fun x e _ => e)
  { old := h.old.trans (hM.below h.base (fun x hx => (lg x hx).1))
    base := by have := h.base; omega
    bB := h.bB
    map := (h.map.keep hM h.gb (fun x hx _ e => (h.dx x hx).2.2.1 e)).weak (fun x hx _ => .inl hx)
    og := ho
    oo := (h.oo.keep PgR.good hM (fun x hx _ e => (h.dx x hx).2.2.1 e) (fun x hx e => h.go x e hx)).weak PgR.good (fun x hx _ => .inl hx)
    dx := fun x hx => by
      rcases hx with hx | rfl
      · obtain ⟨a1, a2, a3, a4⟩ := h.dx x hx
        refine ⟨by omega, a2, fun e => ?_, a4⟩
        rcases hv' with hv' | hv'
        · exact a3 (hv' ▸ e)
        · rw [hv'] at e; injection e with e; omega
      · refine ⟨by omega, by omega, fun e => ?_, fun e => ?_⟩
        · rcases hv' with hv' | hv'
          · have := (lg _ (hv' ▸ e)).2; omega
          · rw [hv'] at e; injection e with e; omega
        · have := (lo _ e).2; omega
    gb := fun e => by
      rcases hv' with hv' | hv'
      · exact h.gb (hv' ▸ e)
      · rw [hv'] at e; injection e with e; omega
    ob := h.ob
    go := fun x hx e => by
      rcases hv' with hv' | hv'
      · exact h.go x (hv' ▸ hx) e
      · rw [hv'] at hx; injection hx with hx; have := (lo x e).2; omega }
end
end Go.Proofs.Ytdnkdjaokmibjaa
