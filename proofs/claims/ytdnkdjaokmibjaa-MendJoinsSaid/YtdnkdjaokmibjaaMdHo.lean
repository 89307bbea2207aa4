/- holes. -/
import Derived.Test.YtdnkdjaokmibjaaMdRL
import Derived.Test.YtdnkdjaokmibjaaPkVal
import Derived.Deep.DeepCutAuto
set_option linter.unusedSimpArgs false
set_option linter.unusedVariables false
namespace Go.Proofs.Ytdnkdjaokmibjaa
open Go.RowKit

def holesF (st : List Ho × Int) (p : Pg) : List Ho × Int := (if st.2 < p.seq then st.1 ++ [⟨st.2, p.seq - 1⟩] else st.1, p.seq + 1)
def holesS (l : List Pg) : List Ho × Int := l.foldl holesF ([], 0)
def holesP (l : List Pg) (top : Int) : List Ho := if (holesS l).2 ≤ top then (holesS l).1 ++ [⟨(holesS l).2, top⟩] else (holesS l).1
theorem holesS_snoc (l : List Pg) (p : Pg) : holesS (l ++ [p]) = holesF (holesS l) p := by simp [holesS]
theorem holesS_len (l : List Pg) : (holesS l).1.length ≤ l.length := by
  have key : ∀ (l : List Pg) (st : List Ho × Int), (l.foldl holesF st).1.length ≤ st.1.length + l.length := by
    intro l
    induction l with
    | nil => intro st; simp
    | cons p l ih =>
      intro st
      rw [List.foldl_cons]
      refine Nat.le_trans (ih _) ?_
      unfold holesF
      split
      · simp only [List.length_append, List.length_cons, List.length_nil]; omega
      · simp only [List.length_cons]; omega
  have := key l ([], 0)
  simpa [holesS] using this
theorem holesS_next {l : List Pg} (h : ∀ p ∈ l, 0 ≤ p.seq ∧ p.seq ≤ 4294967295) : 0 ≤ (holesS l).2 ∧ (holesS l).2 ≤ 4294967296 := by
  have key : ∀ (l : List Pg) (st : List Ho × Int), (∀ p ∈ l, 0 ≤ p.seq ∧ p.seq ≤ 4294967295) → 0 ≤ st.2 ∧ st.2 ≤ 4294967296 → 0 ≤ (l.foldl holesF st).2 ∧ (l.foldl holesF st).2 ≤ 4294967296 := by
    intro l
    induction l with
    | nil => intro st _ h; exact h
    | cons p l ih =>
      intro st hp h
      rw [List.foldl_cons]
      refine ih _ (fun q hq => hp q (List.mem_cons_of_mem _ hq)) ?_
      have := hp p (List.mem_cons_self ..)
      show 0 ≤ p.seq + 1 ∧ p.seq + 1 ≤ 4294967296
      omega
  exact key l ([], 0) h (by simp)

set_option maxHeartbeats 8000000 in
set_option maxRecDepth 100000 in
theorem holes_any {l : List Pg} {A : Option Addr} {c : Nat} {S : Nat → Prop} {w : World} (hr : RdPg w S A l) (hl : l.length ≤ 10000000) (hs : ∀ p ∈ l, 0 ≤ p.seq ∧ p.seq ≤ 4294967295) (top : Int) (ht0 : -1 ≤ top) (ht1 : top ≤ 4294967295) :
    Calls Try.prog 38 #[.slice A l.length c, .int .i64 top] w fun e w' => ∃ v, e = .returned v ∧ OwnG HoR 2 41 w' w.heap.size (fun b => b < w'.heap.size) v (holesP l top) ∧ Below w.heap.size w w' := by
  have HR := Lib.hid (fun W (h : Below w.heap.size w W) => hr.below PgR.good h)
  have HS := Lib.hid hs
  clear hr hs
  go_enter Try.func38, Try.ntmps38
  go_wp2
  go_loopw [5, 6, 11] (fun v nv iv wr => ∃ i : Nat, i ≤ l.length ∧ iv = .int .i64 i ∧ nv = .int .i64 (holesS (l.take i)).2 ∧ OwnG HoR 2 41 wr w.heap.size (fun b => b < wr.heap.size) v (holesS (l.take i)).1 ∧ Below w.heap.size w wr) (fun _ _ iv _ => l.length - (intOf iv).toNat)
  case atStart => exact ⟨0, Nat.zero_le _, rfl, rfl, OwnG.nil_ _ _ _ _ _ _, Below.refl _ _⟩
  case round =>
    obtain ⟨i, hi, rfl, rfl, hown, hbr⟩ := hrel
    have hszr := hbr.size
    have hhl := holesS_len (l.take i)
    have hhl2 : (holesS (l.take i)).1.length ≤ l.length := Nat.le_trans hhl (by rw [List.length_take]; omega)
    have hnx := holesS_next (l := l.take i) (fun p hp => HS.out p (List.mem_of_mem_take hp))
    clear hhl
    have HOw := Lib.hid hown
    by_cases hlt : i < l.length
    · obtain ⟨ad, p, Aj, cj, rfl, _, hp, e0, e1, e2, e3, e4, hcj, hrj, hwj⟩ := RdPg.at_ (HR.out _ hbr) hlt
      have HT := Lib.hid (show holesS (l.take (i + 1)) = holesF (holesS (l.take i)) l[i] by rw [List.take_succ_eq_append_getElem hlt, holesS_snoc])
      have HH := Lib.hid (show holesF (holesS (l.take i)) l[i] = (if (holesS (l.take i)).2 < l[i].seq then (holesS (l.take i)).1 ++ [⟨(holesS (l.take i)).2, l[i].seq - 1⟩] else (holesS (l.take i)).1, l[i].seq + 1) from rfl)
      have hsq := HS.out l[i] (List.getElem_mem hlt)
      generalize holesF (holesS (l.take i)) l[i] = hf at *
      generalize (holesS (l.take i)).1 = hs1 at *
      generalize (holesS (l.take i)).2 = nx at *
      generalize l[i] = q at *
      obtain ⟨q1, q2, q3, q4, q5⟩ := q
      simp only at e0 e1 e2 e3 e4 hsq HH
      clear hrj hwj hown
      have hw1 : IntKind.i64.wrap (q1 + 1) = q1 + 1 := IntWalk.i64_in _ (by omega)
      have hw2 : IntKind.i64.wrap (q1 - 1) = q1 - 1 := IntWalk.i64_in _ (by omega)
      go_upto_region 6 with fail
      have bx : Below wr.heap.size wr (wr.alloc (.cells #[.int .i64 q1, .bool q2, .bool q3, .bool q4, .slice Aj q5.length cj] 33)) := below_alloc (Below.refl _ _) _
      have kx := Blk.new wr 33 #[.int .i64 q1, .bool q2, .bool q3, .bool q4, .slice Aj q5.length cj]
      generalize wr.alloc (.cells #[.int .i64 q1, .bool q2, .bool q3, .bool q4, .slice Aj q5.length cj] 33) = wx at *
      have hkl := kx.lt
      have x0 := kx.cell 0
      have hsx := bx.size
      have hox := HOw.out.keep HoR.good (Mod.of_fresh (M := fun _ => False) bx) (fun _ _ _ h => h) (fun _ _ h => h)
      obtain ⟨A0, c0, rfl, hc0, _, hob0⟩ := HOw.out.form HoR.good
      clear e0 e1 e2 e3 e4
      by_cases hgt : nx < q1
      · have HHr := Lib.hid (show hf = (hs1 ++ [⟨nx, q1 - 1⟩], q1 + 1) by rw [HH.out, if_pos hgt])
        have hgt' : decide (nx < q1) = true := decide_eq_true hgt
        have hwf : Ho.wf ⟨nx, q1 - 1⟩ := ⟨⟨by show (-9223372036854775808 : Int) ≤ nx; omega, by show nx ≤ 9223372036854775807; omega⟩, ⟨by show (-9223372036854775808 : Int) ≤ q1 - 1; omega, by show q1 - 1 ≤ 9223372036854775807; omega⟩⟩
        clear hgt HH
        go_wp2_with (first
          | (at_builtin; (refine wpList_push_G (v := .slice A0 hs1.length c0) rfl (.tmp 19) (.tmp 25) _ rfl HoR.good wx (.agg #[.int .i64 0, .int .i64 0]) 16 Try.underlying34 info_ho rfl (by omega) rfl hox (fun _ => False) _ 1 [.int .i64 nx, .int .i64 (q1 - 1)] ⟨nx, q1 - 1⟩ rfl rfl (show HoR _ _ _ _ from ⟨rfl, hwf⟩) (fun x => x ≤ wx.heap.size) (fun x hx _ => by have hx' : x < wr.heap.size := hx; show x ≤ wx.heap.size; omega) (fun x hx _ => hx.elim) (fun x hx h => h) (fun x hx => hx) (Nat.le_refl _) (by omega) (by omega) ?_); intro v7 w7 ow7 hg7 hv7; have z0 := kx.grown (World.grownBy.trans (World.grownBy_alloc wx _ _) hg7) (by intro e; have := hob0 _ e.symm; omega) |>.cell 0))
        have hb78 : Below w.heap.size wx w7 := Below.grown (below_alloc (Below.refl wx.heap.size wx) _ |>.mono (by omega)) hg7 (by simp; omega) (fun x hx => (hob0 x hx).1)
        have hs7 := hg7.size
        simp at hs7
        go_roundw
        case rel => exact ⟨i + 1, by omega, by go_num, by rw [HT.out, HHr.out], by rw [HT.out, HHr.out]; exact ow7.weak HoR.good (fun x hx hl9 => hl9), hbr.trans ((bx.mono (by omega)).trans hb78)⟩
        case measure => simp [intOf]; omega
      · have HHr := Lib.hid (show hf = (hs1, q1 + 1) by rw [HH.out, if_neg hgt])
        have hgt' : decide (nx < q1) = false := decide_eq_false hgt
        clear hgt HH
        go_wp2
        go_roundw
        case rel => exact ⟨i + 1, by omega, by go_num, by rw [HT.out, HHr.out], by rw [HT.out, HHr.out]; exact hox.weak HoR.good (fun x hx hl9 => hl9), hbr.trans (bx.mono (by omega))⟩
        case measure => simp [intOf]; omega
    · have hil : i = l.length := by omega
      subst hil
      simp only [List.take_length] at *
      have HP := Lib.hid (show holesP l top = if (holesS l).2 ≤ top then (holesS l).1 ++ [⟨(holesS l).2, top⟩] else (holesS l).1 from rfl)
      generalize (holesS l).1 = hs1 at *
      generalize (holesS l).2 = nx at *
      clear hown
      obtain ⟨A0, c0, rfl, hc0, _, hob0⟩ := HOw.out.form HoR.good
      by_cases hgt : nx ≤ top
      · have HHr := Lib.hid (HP.out.trans (if_pos hgt))
        have hgt' : decide (nx ≤ top) = true := decide_eq_true hgt
        have hwf : Ho.wf ⟨nx, top⟩ := ⟨⟨by show (-9223372036854775808 : Int) ≤ nx; omega, by show nx ≤ 9223372036854775807; omega⟩, ⟨by show (-9223372036854775808 : Int) ≤ top; omega, by show top ≤ 9223372036854775807; omega⟩⟩
        clear hgt HP
        go_wp2_with (first
          | (at_builtin; (refine wpList_push_G (v := .slice A0 hs1.length c0) rfl (.tmp 34) (.tmp 38) _ rfl HoR.good wr (.agg #[.int .i64 0, .int .i64 0]) 16 Try.underlying34 info_ho rfl (by omega) rfl HOw.out (fun _ => False) _ 1 [.int .i64 nx, .int .i64 top] ⟨nx, top⟩ rfl rfl (show HoR _ _ _ _ from ⟨rfl, hwf⟩) (fun x => x ≤ wr.heap.size) (fun x hx _ => Nat.le_of_lt hx) (fun x hx _ => hx.elim) (fun x hx h => h) (fun x hx => hx) (Nat.le_refl _) (by omega) (by omega) ?_); intro v7 w7 ow7 hg7 hv7))
        have hb78 : Below w.heap.size wr w7 := Below.grown (below_alloc (Below.refl wr.heap.size wr) _ |>.mono (by omega)) hg7 (by simp; omega) (fun x hx => (hob0 x hx).1)
        have hs7 := hg7.size
        simp at hs7
        go_ret
        exact ⟨_, rfl, by rw [HHr.out]; exact ow7.weak HoR.good (fun x hx hl9 => hl9), hbr.trans hb78⟩
      · have HHr := Lib.hid (HP.out.trans (if_neg hgt))
        have hgt' : decide (nx ≤ top) = false := decide_eq_false hgt
        clear hgt HP
        go_wp2
        go_ret
        exact ⟨_, rfl, by rw [HHr.out]; exact HOw.out, hbr⟩
end Go.Proofs.Ytdnkdjaokmibjaa
