/- weave.Weaver: earliest, isNext, isOverdue. -/
import Derived.Test.YtnflhogjonlnmaaWvTk
set_option linter.unusedSimpArgs false
set_option linter.unusedVariables false
namespace Go.Proofs.Ytnflhogjonlnmaa
open Go.RowKit

theorem RdPk.last_ {w : World} {S : Nat → Prop} {A : Option Addr} {l : List Pk} (h : RdPk w S A l) (hl : 0 < l.length) : ∃ ad p, A = some ad ∧ ad.add ((l.length - 1) * 6) = p ∧ w.cell? ⟨p.block, p.off + 1, none⟩ = some (.int .i64 (lastAt l)) := by
  obtain ⟨ad, p, Aj, cj, rfl, _, hp, _, y1, _⟩ := RdPk.at_ h (j := l.length - 1) (by omega)
  refine ⟨ad, p, rfl, hp, ?_⟩
  rw [y1, lastAt, List.getD_eq_getElem?_getD, List.getElem?_eq_getElem (by omega)]
  rfl

set_option maxHeartbeats 4000000 in
set_option maxRecDepth 100000 in
theorem earliest_any {w : World} {F D : Nat → Prop} {g : Nat} {s : Wv} (h : WvR w F D g s) :
    Calls Try.prog 44 #[.pointer (some ⟨g, 0, none⟩)] w fun e w' => e = .returned (.int .i64 (firstQ (s.qs.map Qu.wait))) ∧ Below w.heap.size w w' := by
  have HW := Lib.hid (fun W (hW : Below w.heap.size w W) => h.below hW)
  obtain ⟨gq, vs, hb, hq, hok⟩ := h
  have n1 := hok.n1
  have HK := Lib.hid (fun W (hW : Below w.heap.size w W) => hb.below hW hb.lt)
  have HR := Lib.hid (fun W (hW : Below w.heap.size w W) => hq.below hW)
  have c1 := hb.cell 1
  clear hb hq hok
  generalize s.qs = qs at *
  go_enter Try.func44, Try.ntmps44
  go_wp2
  clear c1
  go_loopw [3, 11] (fun b i wr => ∃ k : Nat, k ≤ qs.length ∧ i = .int .i64 k ∧ b = .int .i64 (firstUp (qs.map Qu.wait) k) ∧ Below w.heap.size w wr) (fun _ i _ => qs.length - (intOf i).toNat)
  case atStart => exact ⟨0, Nat.zero_le _, rfl, rfl, Below.refl _ _⟩
  case round =>
    obtain ⟨k, hk, rfl, rfl, hb⟩ := hrel
    have hbd := firstUp_bd (qs.map Qu.wait) k
    by_cases hlt : k < qs.length
    · obtain ⟨Aj, cj, _, hcj, hrj, e0, e1, e2, _⟩ := (HR.out _ hb).q_at hlt
      have hgk : (qs.map Qu.wait).getD k [] = qs[k].wait := by rw [List.getD_eq_getElem?_getD, List.getElem?_map, List.getElem?_eq_getElem hlt]; rfl
      have HT := Lib.hid (show firstUp (qs.map Qu.wait) (k + 1) = if qs[k].wait ≠ [] ∧ (firstUp (qs.map Qu.wait) k < 0 ∨ headAt qs[k].wait < headAt ((qs.map Qu.wait).getD (firstUp (qs.map Qu.wait) k).toNat [])) then (k : Int) else firstUp (qs.map Qu.wait) k by rw [firstUp, hgk])
      have HNE := Lib.hid (firstUp_ne (qs.map Qu.wait) k)
      clear hgk
      generalize hbq : firstUp (qs.map Qu.wait) k = b at *
      clear hbq
      generalize qs[k].wait = x at *
      generalize qs[k].last = la at *
      generalize qs[k].ended = en at *
      go_upto_region 5 with fail
      have km := Blk.new wr 90 #[.slice Aj x.length cj, .int .i64 la, .bool en]
      have bm' := below_alloc (Below.refl wr.heap.size wr) (.cells #[.slice Aj x.length cj, .int .i64 la, .bool en] 90)
      generalize wr.alloc (.cells #[.slice Aj x.length cj, .int .i64 la, .bool en] 90) = wm at *
      have bm := below_then hb bm'
      have hrm := hrj.below PkR.good bm'
      have hW := HK.out _ bm
      have c1 := hW.cell 1
      have x0 := km.cell 0
      clear e0 e1 e2 hrj
      cases x with
      | nil =>
        have HT' := Lib.hid (HT.out.trans (if_neg (fun h => h.1 rfl)))
        simp only [List.length_nil] at x0
        go_quiet (fail)
        go_wp2
        go_roundw
        case rel => exact ⟨k + 1, by omega, by go_num, by rw [HT'.out], below_drewN bm _⟩
        case measure => simp [intOf]; omega
      | cons p0 l0 =>
        obtain ⟨a1, A1, c1', hA1, _, y0, y1, _⟩ := RdPk.head_ hrm
        subst hA1
        rw [List.length_cons] at x0
        by_cases hb0 : b < 0
        · have HT' := Lib.hid (HT.out.trans (if_pos ⟨by simp, .inl hb0⟩))
          go_quiet (fail)
          go_wp2
          go_roundw
          case rel => exact ⟨k + 1, by omega, by go_num, by rw [HT'.out], below_drewN bm _⟩
          case measure => simp [intOf]; omega
        · obtain ⟨m, rfl⟩ := Int.eq_ofNat_of_zero_le (show 0 ≤ b by omega)
          have hm : m < qs.length := by omega
          have hgm : (qs.map Qu.wait).getD m [] = qs[m].wait := by rw [List.getD_eq_getElem?_getD, List.getElem?_map, List.getElem?_eq_getElem hm]; rfl
          have hne := HNE.out (by omega)
          rw [Int.toNat_natCast, hgm] at hne
          have HT2 := HT.out
          rw [Int.toNat_natCast, hgm] at HT2
          replace HT := Lib.hid HT2
          obtain ⟨A2, c2, _, hc2, hr2, f0, _, _, _⟩ := (HR.out _ bm).q_at hm
          generalize qs[m].wait = z at *
          cases z with
          | nil => exact absurd rfl hne
          | cons p3 l3 =>
            obtain ⟨a3, A3, c3, hA3, _, z0, z1, _⟩ := RdPk.head_ hr2
            subst hA3
            rw [List.length_cons] at f0
            clear HT2 hgm hne HNE hb0
            by_cases hlt2 : p0.at_ < p3.at_
            · have HT' := Lib.hid (HT.out.trans (if_pos ⟨by simp, .inr hlt2⟩))
              go_quiet (fail)
              go_wp2
              go_roundw
              case rel => exact ⟨k + 1, by omega, by go_num, by rw [HT'.out], below_drewN bm _⟩
              case measure => simp [intOf]; omega
            · have HT' := Lib.hid (HT.out.trans (if_neg (fun h => by rcases h.2 with h | h; omega; exact hlt2 h)))
              have hlt3 : decide (p0.at_ < p3.at_) = false := decide_eq_false hlt2
              go_quiet (fail)
              go_wp2
              go_roundw
              case rel => exact ⟨k + 1, by omega, by go_num, by rw [HT'.out], below_drewN bm _⟩
              case measure => simp [intOf]; omega
    · have hkl : k = qs.length := by omega
      subst hkl
      have HF := Lib.hid (show firstQ (qs.map Qu.wait) = firstUp (qs.map Qu.wait) qs.length by rw [firstQ, List.length_map])
      go_wp2
      go_ret
      exact ⟨by rw [HF.out]; rfl, hb⟩

set_option maxHeartbeats 4000000 in
set_option maxRecDepth 100000 in
theorem isnext_any {w : World} {F D : Nat → Prop} {g : Nat} {s : Wv} (h : WvR w F D g s) (a st : Int) :
    Calls Try.prog 45 #[.pointer (some ⟨g, 0, none⟩), .int .i64 a, .int .i64 st] w fun e w' => e = .returned (.bool (nextUp s.qs a st s.qs.length)) ∧ Below w.heap.size w w' := by
  obtain ⟨gq, vs, hb, hq, hok⟩ := h
  have n1 := hok.n1
  have HR := Lib.hid (fun W (hW : Below w.heap.size w W) => hq.below hW)
  have c1 := hb.cell 1
  clear hb hq hok
  generalize s.qs = qs at *
  go_enter Try.func45, Try.ntmps45
  go_wp2
  clear c1
  go_loopw [14] (fun i wr => ∃ k : Nat, k ≤ qs.length ∧ i = .int .i64 k ∧ nextUp qs a st k = true ∧ Below w.heap.size w wr) (fun i _ => qs.length - (intOf i).toNat)
  case atStart => exact ⟨0, Nat.zero_le _, rfl, rfl, Below.refl _ _⟩
  case round =>
    obtain ⟨k, hk, rfl, hnx, hb⟩ := hrel
    have HNx := Lib.hid hnx
    clear hnx
    by_cases hlt : k < qs.length
    · obtain ⟨Aj, cj, _, hcj, hrj, e0, e1, e2, _⟩ := (HR.out _ hb).q_at hlt
      have HT := Lib.hid (show nextUp qs a st (k + 1) = nextQ qs[k] k a st by rw [nextUp, HNx.out, Bool.true_and, quAt_get hlt])
      have HN := Lib.hid (fun h => nextUp_false (qs := qs) (a := a) (st := st) (k := k) (by rw [quAt_get hlt]; exact h) qs.length hlt)
      clear hrj hcj
      generalize qs[k] = q at *
      obtain ⟨x, la, en⟩ := q
      simp only at e0 e1 e2
      cases en with
      | true =>
        have HT' := Lib.hid (HT.out.trans (show _ = true by simp [nextQ]))
        go_wp2
        go_roundw
        case rel => exact ⟨k + 1, by omega, by go_num, HT'.out, below_alloc hb _⟩
        case measure => simp [intOf]; omega
      | false =>
        cases x with
        | cons p0 l0 =>
          have HT' := Lib.hid (HT.out.trans (show _ = true by simp [nextQ]))
          rw [List.length_cons] at e0
          go_wp2
          go_roundw
          case rel => exact ⟨k + 1, by omega, by go_num, HT'.out, below_alloc hb _⟩
          case measure => simp [intOf]; omega
        | nil =>
          simp only [List.length_nil] at e0
          by_cases h1 : la < a
          · have HF := Lib.hid (HN.out (by simp [nextQ, h1]))
            go_wp2
            go_ret
            exact ⟨by rw [HF.out]; rfl, below_alloc hb _⟩
          · have h1' : decide (la < a) = false := decide_eq_false h1
            by_cases h2 : la = a
            · subst h2
              by_cases h3 : (k : Int) < st
              · have HF := Lib.hid (HN.out (by simp [nextQ, h3]))
                go_wp2
                go_ret
                exact ⟨by rw [HF.out]; rfl, below_alloc hb _⟩
              · have h3' : decide ((k : Int) < st) = false := decide_eq_false h3
                have HT' := Lib.hid (HT.out.trans (show _ = true by simp [nextQ, h3]))
                go_wp2
                go_roundw
                case rel => exact ⟨k + 1, by omega, by go_num, HT'.out, below_alloc hb _⟩
                case measure => simp [intOf]; omega
            · have h2' : (la == a) = false := by rwa [beq_eq_false_iff_ne]
              have HT' := Lib.hid (HT.out.trans (show _ = true by simp [nextQ, h1, h2]))
              clear h2
              go_wp2
              go_roundw
              case rel => exact ⟨k + 1, by omega, by go_num, HT'.out, below_alloc hb _⟩
              case measure => simp [intOf]; omega
    · have hkl : k = qs.length := by omega
      subst hkl
      go_wp2
      go_ret
      exact ⟨by rw [HNx.out]; rfl, hb⟩

set_option maxHeartbeats 4000000 in
set_option maxRecDepth 100000 in
theorem isover_any {w : World} {F D : Nat → Prop} {g : Nat} {s : Wv} (h : WvR w F D g s) (a : Int) (a0 : 0 ≤ a) (a1 : a ≤ 1125899906842624) :
    Calls Try.prog 46 #[.pointer (some ⟨g, 0, none⟩), .int .i64 a] w fun e w' => e = .returned (.bool (overUp s.qs a s.most s.qs.length)) ∧ Below w.heap.size w w' := by
  obtain ⟨gq, vs, hb, hq, hok⟩ := h
  have n1 := hok.n1
  have HR := Lib.hid (fun W (hW : Below w.heap.size w W) => hq.below hW)
  have HK := Lib.hid (fun W (hW : Below w.heap.size w W) => hb.below hW hb.lt)
  have c1 := hb.cell 1
  have HOk := Lib.hid hok
  clear hb hq hok
  obtain ⟨most, qs, top, late⟩ := s
  simp only at *
  go_enter Try.func46, Try.ntmps46
  go_wp2
  clear c1
  go_loopw [13] (fun i wr => ∃ k : Nat, k ≤ qs.length ∧ i = .int .i64 k ∧ overUp qs a most k = false ∧ Below w.heap.size w wr) (fun i _ => qs.length - (intOf i).toNat)
  case atStart => exact ⟨0, Nat.zero_le _, rfl, rfl, Below.refl _ _⟩
  case round =>
    obtain ⟨k, hk, rfl, hnx, hb⟩ := hrel
    have HNx := Lib.hid hnx
    clear hnx
    by_cases hlt : k < qs.length
    · obtain ⟨Aj, cj, _, hcj, hrj, e0, e1, e2, _⟩ := (HR.out _ hb).q_at hlt
      have HT := Lib.hid (show overUp qs a most (k + 1) = overQ qs[k] a most by rw [overUp, HNx.out, Bool.false_or, quAt_get hlt])
      have HN := Lib.hid (fun h => overUp_true (qs := qs) (a := a) (most := most) (k := k) (by rw [quAt_get hlt]; exact h) qs.length hlt)
      have hqo := HOk.out.qs _ (List.getElem_mem hlt)
      generalize qs[k] = q at *
      have hbl : 0 < q.wait.length → 0 ≤ lastAt q.wait ∧ lastAt q.wait ≤ 1125899906842624 := fun h => hqo.at_ _ (by
        rw [List.getD_eq_getElem?_getD, List.getElem?_eq_getElem (by omega)]; exact List.getElem_mem (by omega))
      have hqlen := hqo.len
      clear hqo
      obtain ⟨x, la, en⟩ := q
      simp only at e0 e1 e2 hrj hbl hqlen
      go_upto_region 4 with fail
      have km := Blk.new wr 90 #[.slice Aj x.length cj, .int .i64 la, .bool en]
      have bm' := below_alloc (Below.refl wr.heap.size wr) (.cells #[.slice Aj x.length cj, .int .i64 la, .bool en] 90)
      generalize wr.alloc (.cells #[.slice Aj x.length cj, .int .i64 la, .bool en] 90) = wm at *
      have bm := below_then hb bm'
      have hrm := hrj.below PkR.good bm'
      have hW := HK.out _ bm
      have c0 := hW.cell 0
      have x0 := km.cell 0
      clear e0 e1 e2 hrj
      by_cases hx0 : x.length = 0
      · have hxn := List.eq_nil_of_length_eq_zero hx0
        subst hxn
        simp only [List.length_nil] at x0
        have HT' := Lib.hid (HT.out.trans (show _ = false by simp [overQ]))
        clear hx0
        go_wp2
        go_quiet (fail)
        go_wp2
        go_roundw
        case rel => exact ⟨k + 1, by omega, by go_num, HT'.out, below_drewN bm _⟩
        case measure => simp [intOf]; omega
      · have hxp : 0 < x.length := by omega
        have hbl' := hbl hxp
        obtain ⟨ad2, p2, hA2, hp2, y1⟩ := RdPk.last_ hrm hxp
        subst hA2
        obtain ⟨n, hn⟩ : ∃ n, x.length = n + 1 := ⟨x.length - 1, by omega⟩
        have hxne : x ≠ [] := fun e => by rw [e] at hxp; simp at hxp
        have HOv := Lib.hid (show overQ ⟨x, la, en⟩ a most = decide (most < lastAt x - a) by simp [overQ, hxne])
        generalize lastAt x = lx at *
        rw [hn] at x0 hp2 hqlen
        rw [Nat.add_sub_cancel] at hp2
        have hsub : IntKind.i64.wrap ((n : Int) + 1 - 1) = (n : Int) := by rw [IntKind.wrap_i64]; omega
        have hsb2 : IntKind.i64.wrap (lx - a) = lx - a := by rw [IntKind.wrap_i64]; omega
        clear hbl hxp hx0 hn hxne
        by_cases ho : most < lx - a
        · have HF := Lib.hid (HN.out (HOv.out.trans (decide_eq_true ho)))
          go_wp2
          go_quiet (fail)
          go_wp2
          go_ret
          exact ⟨by rw [HF.out]; rfl, below_drewN bm _⟩
        · have ho' : decide (most < lx - a) = false := decide_eq_false ho
          have HT' := Lib.hid (HT.out.trans (HOv.out.trans ho'))
          go_wp2
          go_quiet (fail)
          go_wp2
          go_roundw
          case rel => exact ⟨k + 1, by omega, by go_num, HT'.out, below_drewN bm _⟩
          case measure => simp [intOf]; omega
    · have hkl : k = qs.length := by omega
      subst hkl
      go_wp2
      go_ret
      exact ⟨by rw [HNx.out]; rfl, hb⟩
end Go.Proofs.Ytnflhogjonlnmaa
