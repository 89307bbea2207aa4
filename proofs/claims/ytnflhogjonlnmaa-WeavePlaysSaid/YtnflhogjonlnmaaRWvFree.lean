/- The reference's Weaver: free. -/
import Derived.Test.YtnflhogjonlnmaaRWvTk
import Derived.Test.YtnflhogjonlnmaaWvEar
set_option linter.unusedSimpArgs false
set_option linter.unusedVariables false
namespace Go.Proofs.Ytnflhogjonlnmaa
open Go.RowKit

set_option maxHeartbeats 4000000 in
set_option maxRecDepth 100000 in
theorem rfree_any {w : World} {F D : Nat → Prop} {g : Nat} {s : Wv} (h : RWvR w F D g s) {n : Nat} (hn : n < s.qs.length) (hne : s.qs[n].wait ≠ []) :
    Calls Try.prog 63 #[.pointer (some ⟨g, 0, none⟩), .int .i64 (n : Int)] w fun e w' => e = .returned (.bool (goB s.qs s.most (headAt s.qs[n].wait) n)) ∧ Below w.heap.size w w' := by
  obtain ⟨gq, vs, hb, hq, hok⟩ := h
  have n1 := hok.n1
  have HR := Lib.hid (fun W (hW : Below w.heap.size w W) => hq.below hW)
  have HK := Lib.hid (fun W (hW : Below w.heap.size w W) => hb.below hW hb.lt)
  have c0 := hb.cell 0
  have HOk := Lib.hid hok
  obtain ⟨An, cn, _, hcn, hrn, d0, _⟩ := hq.q_at hn
  have hqn := (hok.qs _ (List.getElem_mem hn)).at_
  have HFr := Lib.hid (fun a k => freeUp_next (qs := s.qs) (a := a) (n := n) (by rw [quAt_get hn]; exact hne) k)
  generalize hwn : s.qs[n].wait = wn at *
  cases wn with
  | nil => exact absurd rfl hne
  | cons p0 l0 =>
    obtain ⟨a1, A1, c1', hA1, _, y0, y1, _⟩ := RdPk.head_ hrn
    subst hA1
    have ha := hqn p0 (List.mem_cons_self ..)
    have HG := Lib.hid (show ∀ a, a = p0.at_ → goB s.qs s.most (headAt (p0 :: l0)) n = (nextUp s.qs a n s.qs.length || overUp s.qs a s.most s.qs.length) from fun a h => by subst h; rfl)
    generalize hav : p0.at_ = a at *
    have HG := Lib.hid (HG.out a rfl)
    generalize headAt (p0 :: l0) = hd at *
    rw [List.length_cons] at d0
    clear hwn hne hqn hrn hcn hb hq hok y0 hav
    obtain ⟨most, qs, top, late⟩ := s
    simp only at *
    obtain ⟨a0, a1_⟩ := ha
    have hn2 : n < qs.length := hn
    have hn' : (n : Int) < (qs.length : Int) := by omega
    go_enter Try.func63, Try.ntmps63
    go_wp2
    clear c0 d0 y1
    go_loopw [6, 7] (fun b i wr => ∃ k : Nat, k ≤ qs.length ∧ i = .int .i64 k ∧ b = .bool (freeUp qs a n k) ∧ overUp qs a most k = false ∧ Below w.heap.size w wr) (fun _ i _ => qs.length - (intOf i).toNat)
    case atStart => exact ⟨0, Nat.zero_le _, rfl, rfl, rfl, Below.refl _ _⟩
    case round =>
      obtain ⟨k, hk, rfl, rfl, hov, hb⟩ := hrel
      have HOv := Lib.hid hov
      clear hov
      have c0 := (HK.out _ hb).cell 0
      by_cases hlt : k < qs.length
      · obtain ⟨Aj, cj, _, hcj, hrj, e0, e1, e2, _⟩ := (HR.out _ hb).q_at hlt
        have HT := Lib.hid (show overUp qs a most (k + 1) = overQ qs[k] a most by rw [overUp, HOv.out, Bool.false_or, quAt_get hlt])
        have HFk := Lib.hid (show freeUp qs a n (k + 1) = if qs[k].wait = [] then freeUp qs a n k && (qs[k].ended || (decide (a < qs[k].last) || (decide (qs[k].last = a) && decide ((n : Int) < (k : Int))))) else freeUp qs a n k by rw [freeUp, quAt_get hlt])
        have HN := Lib.hid (fun h => overUp_true (qs := qs) (a := a) (most := most) (k := k) (by rw [quAt_get hlt]; exact h) qs.length hlt)
        have hqo := HOk.out.qs _ (List.getElem_mem hlt)
        generalize qs[k] = q at *
        have hbl : 0 < q.wait.length → 0 ≤ lastAt q.wait ∧ lastAt q.wait ≤ 1125899906842624 := fun h => hqo.at_ _ (by
          rw [List.getD_eq_getElem?_getD, List.getElem?_eq_getElem (by omega)]; exact List.getElem_mem (by omega))
        have hqlen := hqo.len
        clear hqo
        obtain ⟨x, la, en⟩ := q
        simp only at e0 e1 e2 hrj hbl hqlen
        generalize freeUp qs a n k = fr at *
        go_upto_region 7 with fail
        have km := Blk.new wr 119 #[.slice Aj x.length cj, .int .i64 la, .bool en]
        have bm' := below_alloc (Below.refl wr.heap.size wr) (.cells #[.slice Aj x.length cj, .int .i64 la, .bool en] 119)
        generalize wr.alloc (.cells #[.slice Aj x.length cj, .int .i64 la, .bool en] 119) = wm at *
        have bm := below_then hb bm'
        have hrm := hrj.below PkR.good bm'
        have hW := HK.out _ bm
        have c1 := hW.cell 1
        have x0 := km.cell 0
        have x1 := km.cell 1
        have x2 := km.cell 2
        clear e0 e1 e2 hrj c0
        by_cases hx0 : x.length = 0
        · have hxn := List.eq_nil_of_length_eq_zero hx0
          subst hxn
          simp only [List.length_nil] at x0
          have HT' := Lib.hid (HT.out.trans (show _ = false by simp [overQ]))
          have HFk2 := Lib.hid (HFk.out.trans (if_pos rfl))
          clear hx0 HFk HN
          cases fr with
          | false =>
            have HF3 := Lib.hid (HFk2.out.trans (Bool.false_and _))
            go_wp2
            go_roundw
            case rel => exact ⟨k + 1, by omega, by go_num, by rw [HF3.out], HT'.out, bm⟩
            case measure => simp [intOf]; omega
          | true =>
            cases en with
            | true =>
              have HF3 := Lib.hid (HFk2.out.trans (show _ = true by simp))
              go_wp2
              go_roundw
              case rel => exact ⟨k + 1, by omega, by go_num, by rw [HF3.out], HT'.out, bm⟩
              case measure => simp [intOf]; omega
            | false =>
              by_cases h1 : a < la
              · have HF3 := Lib.hid (HFk2.out.trans (show _ = true by simp [h1]))
                go_wp2
                go_roundw
                case rel => exact ⟨k + 1, by omega, by go_num, by rw [HF3.out], HT'.out, bm⟩
                case measure => simp [intOf]; omega
              · have h1' : decide (a < la) = false := decide_eq_false h1
                by_cases h2 : la = a
                · subst h2
                  by_cases h3 : (n : Int) < (k : Int)
                  · have HF3 := Lib.hid (HFk2.out.trans (show _ = true by simp only [decide_eq_true h3]; simp))
                    go_wp2
                    go_roundw
                    case rel => exact ⟨k + 1, by omega, by go_num, by rw [HF3.out], HT'.out, bm⟩
                    case measure => simp [intOf]; omega
                  · have HF3 := Lib.hid (HFk2.out.trans (show _ = false by simp [h3]))
                    have h3' : (k : Int) ≤ (n : Int) := by omega
                    clear h3
                    go_wp2
                    go_roundw
                    case rel => exact ⟨k + 1, by omega, by go_num, by rw [HF3.out]; simp; omega, HT'.out, bm⟩
                    case measure => simp [intOf]; omega
                · have HF3 := Lib.hid (HFk2.out.trans (show _ = false by simp [h1, h2]))
                  have h2' : (la == a) = false := by rwa [beq_eq_false_iff_ne]
                  clear h2
                  go_wp2
                  go_roundw
                  case rel => exact ⟨k + 1, by omega, by go_num, by rw [HF3.out], HT'.out, bm⟩
                  case measure => simp [intOf]; omega
        · have hxp : 0 < x.length := by omega
          have hbl' := hbl hxp
          obtain ⟨ad2, p2, hA2, hp2, y1⟩ := RdPk.last_ hrm hxp
          subst hA2
          obtain ⟨N, hN⟩ : ∃ N, x.length = N + 1 := ⟨x.length - 1, by omega⟩
          have hxne : x ≠ [] := fun e => by rw [e] at hxp; simp at hxp
          have HFk2 := Lib.hid (HFk.out.trans (if_neg hxne))
          have HOq := Lib.hid (show overQ ⟨x, la, en⟩ a most = decide (most < lastAt x - a) by simp [overQ, hxne])
          generalize lastAt x = lx at *
          rw [hN] at x0 hp2 hqlen
          rw [Nat.add_sub_cancel] at hp2
          have hsub : IntKind.i64.wrap ((N : Int) + 1 - 1) = (N : Int) := by rw [IntKind.wrap_i64]; omega
          have hsb2 : IntKind.i64.wrap (lx - a) = lx - a := by rw [IntKind.wrap_i64]; omega
          clear hbl hxp hx0 hN hxne HFk x1 x2
          by_cases ho : most < lx - a
          · have HF := Lib.hid (HN.out (HOq.out.trans (decide_eq_true ho)))
            go_wp2
            go_quiet (fail)
            go_wp2
            go_ret
            exact ⟨by rw [HG.out, HF.out, Bool.or_true]; rfl, below_drewN bm _⟩
          · have ho' : decide (most < lx - a) = false := decide_eq_false ho
            have HT' := Lib.hid (HT.out.trans (HOq.out.trans ho'))
            go_wp2
            go_quiet (fail)
            go_wp2
            go_roundw
            case rel => exact ⟨k + 1, by omega, by go_num, by rw [HFk2.out], HT'.out, below_drewN bm _⟩
            case measure => simp [intOf]; omega
      · have hkl : k = qs.length := by omega
        subst hkl
        have HF := Lib.hid (HFr.out a qs.length)
        go_wp2
        go_ret
        exact ⟨by rw [HG.out, HOv.out, Bool.or_false, HF.out]; rfl, hb⟩
end Go.Proofs.Ytnflhogjonlnmaa
