/- The reference's WeaveAll. -/
import Derived.Test.YtnflhogjonlnmaaWvAllL
import Derived.Test.YtnflhogjonlnmaaQuFirst
import Derived.Test.YtnflhogjonlnmaaOwnS
import Derived.Test.YtnflhogjonlnmaaPkRLay
import Derived.Deep.DeepCutAuto
set_option linter.unusedSimpArgs false
set_option linter.unusedVariables false
namespace Go.Proofs.Ytnflhogjonlnmaa
open Go.RowKit

theorem info_lane : (Try.prog.info? 119).map (fun i => (i.zero, i.size, i.bytes)) = some (some (.agg #[.slice none 0 0, .int .i64 0, .bool false]), 3, 40) := by kernel_rfl
theorem info_lp : (Try.prog.info? 49).map (fun i => (i.zero, i.size, i.bytes)) = some (some (.slice none 0 0), 1, 24) := by kernel_rfl
def WeavePost (w : World) (ls : List (List Pk)) (e : Ending) (w' : World) : Prop :=
  ∃ v, e = .returned (.tuple #[v, .int .i64 (weaveE ls)]) ∧ OwnG PkR 6 40 w' w.heap.size (fun b => b < w'.heap.size) v (weaveP ls) ∧ Below w.heap.size w w'
theorem weavePost_bad {w w' : World} {ls : List (List Pk)} {e : Ending} {E : Int} (he : e = .returned (.tuple #[.slice none 0 0, .int .i64 E])) (hE : weaveE ls = E) (h0 : E ≠ 0) (hb : Below w.heap.size w w') : WeavePost w ls e w' :=
  ⟨_, by rw [hE]; exact he, by rw [weaveP, if_neg (by rw [hE]; exact h0)]; exact OwnG.nil_ _ _ _ _ _ _, hb⟩
theorem weaveE_bad {ls : List (List Pk)} (h : ls.length < 1 ∨ 4 < ls.length ∨ ¬ weaveOk ls) : weaveE ls = 1 := by rw [weaveE, if_pos h]
theorem weaveE_asc {ls : List (List Pk)} (h1 : ¬ ls.length < 1) (h2 : ¬ 4 < ls.length) (h3 : weaveOk ls) (h : ¬ weaveAsc ls) : weaveE ls = 12 := by
  rw [weaveE, if_neg (fun h9 => by rcases h9 with h9 | h9 | h9; exact h1 h9; exact h2 h9; exact h9 h3), if_pos h]
theorem weaveE_ok {ls : List (List Pk)} (h1 : ¬ ls.length < 1) (h2 : ¬ 4 < ls.length) (h3 : weaveOk ls) (h : weaveAsc ls) : weaveE ls = 0 := by
  rw [weaveE, if_neg (fun h9 => by rcases h9 with h9 | h9 | h9; exact h1 h9; exact h2 h9; exact h9 h3), if_neg (fun h9 => h9 h)]

theorem rfirst_n {qs : List Qu} {A : Option Addr} {c n : Nat} {S : Nat → Prop} {w : World} (hr : RdQu w S A qs) (hn : qs.length = n) (hl : n ≤ 1000000) :
    Calls Try.prog 62 #[.slice A n c] w fun e w' => e = .returned (.int .i64 (firstQ (qs.map Qu.wait))) ∧ ∃ n, w' = w.drewN n := by
  subst hn
  exact rfirst_any hr hl
theorem wait_q0 (ls : List (List Pk)) : (ls.map q0).map Qu.wait = ls := by
  rw [List.map_map]; exact List.map_id'' (fun _ => rfl) ls
theorem total_le {B : Nat} : ∀ (ls : List (List Pk)), (∀ x ∈ ls, x.length ≤ B) → total ls ≤ ls.length * B
  | [], _ => by simp [total]
  | x :: ls, h => by
    have h1 := total_le ls (fun y hy => h y (List.mem_cons_of_mem _ hy))
    have h2 := h x (List.mem_cons_self ..)
    simp only [total, List.map_cons, List.sum_cons, List.length_cons, Nat.succ_mul] at h1 ⊢
    omega
def lenV : Value → Nat
  | .slice _ n _ => n
  | _ => 0

set_option maxHeartbeats 16000000 in
set_option maxRecDepth 100000 in
theorem rweave_any {ls : List (List Pk)} {A : Option Addr} {c : Nat} {w : World} (hr : RdG LpR 1 w (fun b => b < w.heap.size) A ls) (hl : ls.length ≤ 1000000000) :
    Calls Try.prog 49 #[.slice A ls.length c] w (WeavePost w ls) := by
  have HR := Lib.hid (fun W (h : Below w.heap.size w W) => hr.below LpR.good h)
  clear hr
  by_cases h1 : ls.length < 1
  · have HE := Lib.hid (weaveE_bad (.inl h1))
    have h1' : decide ((ls.length : Int) < 1) = true := decide_eq_true (by omega)
    go_enter Try.func49, Try.ntmps49
    go_wp2
    go_ret2
    exact weavePost_bad rfl HE.out (by omega) (Below.refl _ _)
  · by_cases h4 : 4 < ls.length
    · have HE := Lib.hid (weaveE_bad (.inr (.inl h4)))
      have h1' : decide ((ls.length : Int) < 1) = false := decide_eq_false (by omega)
      have h4' : decide ((4 : Int) < (ls.length : Int)) = true := decide_eq_true (by omega)
      go_enter Try.func49, Try.ntmps49
      go_wp2
      go_ret2
      exact weavePost_bad rfl HE.out (by omega) (Below.refl _ _)
    · have HE1 := Lib.hid (fun h => weaveE_bad (ls := ls) (.inr (.inr h)))
      have HE2 := Lib.hid (fun h3 h => weaveE_asc (ls := ls) h1 h4 h3 h)
      have HE3 := Lib.hid (fun h3 h => weaveE_ok (ls := ls) h1 h4 h3 h)
      have h1' : decide ((ls.length : Int) < 1) = false := decide_eq_false (by omega)
      have h4' : decide ((4 : Int) < (ls.length : Int)) = false := decide_eq_false (by omega)
      have hmk := run_make_any (P := Try.prog) w 114 Try.underlying114 info_lane (by omega) .i64 ls.length hl
      have hO0 := OwnG.madeS (R := QuR) (size := 3) (e := 119) (base := w.heap.size) (D := fun b => b < w.heap.size + 1) w (Nat.le_refl _) hl (zc := (Value.agg #[.slice none 0 0, .int .i64 0, .bool false]).cells) rfl (by omega) (x := q0 []) (fun W S => ⟨none, 0, rfl, Nat.le_refl _, RdG.nil_⟩)
      rw [← lanesUp_zero] at hO0
      have b0 := below_alloc (Below.refl w.heap.size w) (.cells (madeCells (Value.agg #[.slice none 0 0, .int .i64 0, .bool false]).cells (ls.length * 3)) 119)
      have hs0 : (w.alloc (.cells (madeCells (Value.agg #[.slice none 0 0, .int .i64 0, .bool false]).cells (ls.length * 3)) 119)).heap.size = w.heap.size + 1 := by simp
      generalize w.alloc (.cells (madeCells (Value.agg #[.slice none 0 0, .int .i64 0, .bool false]).cells (ls.length * 3)) 119) = w0 at *
      have hO := hO0.weak QuR.good (D' := fun b => b < w0.heap.size) (fun b hb _ => by rw [hs0]; exact hb)
      have HO := Lib.hid hO
      have HS0 := Lib.hid hs0
      clear hO0 hO hs0
      go_enter Try.func49, Try.ntmps49
      go_upto_region 4 with fail
      clear hmk
      go_wp2
      go_loopw [5] (fun iv wr => ∃ i : Nat, i ≤ ls.length ∧ iv = .int .i64 i ∧ (∀ j, j < i → okTo (ls.getD j []) j (ls.getD j []).length) ∧ OwnG QuR 3 119 wr w.heap.size (fun b => b < wr.heap.size) (.slice (some ⟨w.heap.size, 0, none⟩) ls.length ls.length) (lanesUp ls i) ∧ Below w.heap.size w wr) (fun iv _ => ls.length - (intOf iv).toNat)
      case atStart => exact ⟨0, Nat.zero_le _, rfl, (fun j hj => absurd hj (by omega)), HO.out, b0⟩
      case round =>
        obtain ⟨i, hi, rfl, hok, hown, hb⟩ := hrel
        have HOk := Lib.hid hok
        clear hok
        by_cases hlt : i < ls.length
        · obtain ⟨ad, Aj, cj, rfl, hSad, e0, hcj, hrj, hlj⟩ := RdLp.at_ (HR.out _ hb) hlt
          have hgi : ls.getD i [] = ls[i] := by rw [List.getD_eq_getElem?_getD, List.getElem?_eq_getElem hlt]; rfl
          have HStep := Lib.hid (show okTo ls[i] i ls[i].length → ∀ j, j < i + 1 → okTo (ls.getD j []) j (ls.getD j []).length from fun h j hj => by
            by_cases hji : j = i
            · subst hji; rw [hgi]; exact h
            · exact HOk.out j (by omega))
          have HNot := Lib.hid (show ¬ okTo ls[i] i ls[i].length → weaveE ls = 1 from fun h => HE1.out (fun h9 => h (by have := h9 i hlt; rwa [hgi] at this)))
          have HSet := Lib.hid (lanesUp_set hlt)
          have HLi := Lib.hid (lanesUp_len ls hi)
          have HAt := Lib.hid (fun h' => lanesUp_at hlt h')
          have HRj := Lib.hid (fun W (h : Below wr.heap.size wr W) => hrj.below PkR.good h)
          have hadl := World.block_lt_of_cell? wr _ e0
          rw [add_block] at hadl
          have HOw := Lib.hid (fun W (h : Below wr.heap.size wr W) => (hown.keep QuR.good (Mod.of_fresh (M := fun _ => False) h) (fun _ _ _ h => h) (fun _ _ h => h)))
          have HB := Lib.hid hb
          have HE0 := Lib.hid e0
          have hgl := hown.own_ge w.heap.size rfl
          clear hown hgi hrj hb e0
          generalize ls[i] = li at *
          obtain ⟨wo, rfl⟩ : ∃ wo : World, wo = wr := ⟨_, rfl⟩
          go_wp2
          go_loopw [6] (fun kv wk => ∃ k : Nat, k ≤ li.length ∧ kv = .int .i64 k ∧ okTo li i k ∧ Below wo.heap.size wo wk) (fun kv _ => li.length - (intOf kv).toNat)
          case atStart => exact ⟨0, Nat.zero_le _, rfl, (fun j hj => absurd hj (by omega)), Below.refl _ _⟩
          case round =>
            obtain ⟨k, hk, rfl, hokk, hbk⟩ := hrel
            have f0 := (hbk.cell (p := ad.add i) (by rw [add_block]; exact hadl)).trans HE0.out
            by_cases hlk : k < li.length
            · obtain ⟨ap, p, Ap, cp, hAp, _, hp, y0, y1, y2, y3, y4, y5, hcp, hrp, hwp⟩ := RdPk.at_ (HRj.out _ hbk) hlk
              subst hAp
              have HSn := Lib.hid (fun h1 h2 => okTo_snoc (i := i) hlk hokk h1 h2)
              have HNt := Lib.hid (fun h1 => okTo_not (i := i) hlk h1)
              clear hokk
              have HLay := Lib.hid (rlay_any li[k] Ap cp hwp wr hrp.top)
              generalize hLE : layE li[k] = E at *
              clear hLE
              generalize layB li[k] = B at *
              generalize li[k] = q at *
              obtain ⟨q1, q2, q3, q4, q5, q6⟩ := q
              simp only at y0 y1 y2 y3 y4 y5 HSn HNt
              (try simp only [Pk.val] at HLay)
              have hapl := World.block_lt_of_cell? wr _ y0
              have hadl2 : ad.block < wr.heap.size := Nat.lt_of_lt_of_le hadl hbk.size
              by_cases hE : E = 0
              · subst hE
                by_cases hst : q1 = (i : Int)
                · have HSn' := Lib.hid (HSn.out rfl hst)
                  subst hst
                  go_wp2_with (first
                    | (go_at_call 61; (with_reducible refine HLay.out.mono ?_); rintro e w2 ⟨v2, rfl, _, hb2⟩; have f2 := (hb2.cell (p := ad.add i) (by rw [add_block]; exact hadl2)).trans f0; have z0 := (hb2.cell (p := p) hapl).trans y0))
                  go_roundw
                  case rel => exact ⟨k + 1, by omega, by go_num, HSn'.out, below_then hbk hb2⟩
                  case measure => simp [intOf]; omega
                · have hst' : (q1 != (i : Int)) = true := by rw [bne_iff_ne]; exact hst
                  have HE := Lib.hid (HNot.out (HNt.out (fun h => hst h.2)))
                  clear hst
                  go_wp2_with (first
                    | (go_at_call 61; (with_reducible refine HLay.out.mono ?_); rintro e w2 ⟨v2, rfl, _, hb2⟩; have f2 := (hb2.cell (p := ad.add i) (by rw [add_block]; exact hadl2)).trans f0; have z0 := (hb2.cell (p := p) hapl).trans y0))
                  go_ret2
                  exact weavePost_bad rfl HE.out (by omega) (below_then HB.out (below_then hbk hb2))
              · have hE' : (E != 0) = true := by rw [bne_iff_ne]; exact hE
                have HE := Lib.hid (HNot.out (HNt.out (fun h => hE h.1)))
                clear hE
                go_wp2_with (first
                  | (go_at_call 61; (with_reducible refine HLay.out.mono ?_); rintro e w2 ⟨v2, rfl, _, hb2⟩))
                go_ret2
                exact weavePost_bad rfl HE.out (by omega) (below_then HB.out (below_then hbk hb2))
            · have hkl : k = li.length := by omega
              subst hkl
              have HOkA := Lib.hid (HStep.out hokk)
              clear hokk
              have hso := hbk.size
              have f1 := ((below_alloc (Below.refl wr.heap.size wr) (.cells #[] 40)).cell (p := ad.add i) (by rw [add_block]; omega)).trans f0
              have hra := HRj.out _ (below_alloc hbk (.cells #[] 40))
              go_wp2_with (first
                | (at_builtin; (refine wpList_append_G (v := .slice (some ⟨wr.heap.size, 0, none⟩) 0 0) rfl (.tmp 66) (.tmp 70) _ rfl PkR.good (wr.alloc (.cells #[] 40)) (.agg #[.int .i64 0, .int .i64 0, .int .i64 0, .bool false, .bool false, .slice none 0 0]) 56 Try.underlying49 info_pk rfl (by omega) rfl (OwnG.empty0 PkR.good wr (base := wr.heap.size) (D := fun b => b < w.heap.size) (Nat.le_refl _)) (fun b => b < w.heap.size) Aj cj li.length li rfl rfl hra (fun b hb _ => hb) (fun b hb h => by simp [Value.ownBlock] at hb; have h8 : b < w.heap.size := h; omega) (fun b hb => by simp; omega) (by simp; omega) (by simp) ?_); intro v3 w3 ow3 hg3 hv3; rw [List.nil_append] at ow3; obtain ⟨A3, c3, rfl, hc3, hr3⟩ := ow3.reads PkR.good (S := fun b => b < w3.heap.size ∧ some w.heap.size ≠ some b) (fun b hb hl => ⟨hl, fun e => by injection e with e; rcases hb with hb | hb; omega; have := (ow3.own_ge b hb).1; omega⟩); have hb3 : Below wo.heap.size wo w3 := below_only (below_alloc hbk _) hg3 (by simp; omega) (by omega); have ownL := (HOw.out w3 hb3).weak QuR.good (D' := fun b => b < w3.heap.size) (fun b hb _ => Nat.lt_of_lt_of_le hb hb3.size); obtain ⟨gb, cb, hvb, hgb1, hgb2, _, hfz, hrow⟩ := ownL.rowS QuR.good (by rw [HLi.out]; omega); injection hvb with hgb hlb hcb; clear hlb hcb; injection hgb with hgb; injection hgb with hgb _ _; subst hgb; obtain ⟨cs, ⟨Ac, cc, hcs, _, _⟩, hcell, hput⟩ := hrow i (by rw [HLi.out]; omega); have hcs' : cs = [.slice Ac 0 cc, .int .i64 0, .bool false] := (by rw [hcs, HAt.out]; rfl); have z0 := hcell 0 (.slice Ac 0 cc) (by rw [hcs']; rfl); rw [Nat.add_zero] at z0; have zf := hfz (i * 3); have HPut := Lib.hid (hput 0 (.slice A3 li.length c3) (q0 li) (by omega) ⟨A3, c3, (by rw [hcs']; rfl), hc3, hr3⟩); clear hput hcell hcs hcs' hfz hrow))
              rw [Nat.add_zero, HSet.out] at HPut
              go_roundw
              case rel => exact ⟨i + 1, by omega, by go_num, HOkA.out, HPut.out.weak QuR.good (fun b hb _ => by simpa [World.setCell] using hb), below_put (below_then HB.out hb3) (Nat.le_refl _)⟩
              case measure => simp [intOf]; omega
        · have hkl : i = ls.length := by omega
          subst hkl
          have HWo := Lib.hid (show weaveOk ls from HOk.out)
          rw [lanesUp_all] at hown
          have HOw := Lib.hid hown
          have HB := Lib.hid hb
          have HR5 := Lib.hid (HR.out _ hb)
          have hszw := hown.own_ge w.heap.size rfl
          clear hown hb HOk HR b0
          obtain ⟨w5, rfl⟩ : ∃ w5 : World, w5 = wr := ⟨_, rfl⟩
          go_wp2
          go_loopw [9] (fun iv wr => ∃ i n : Nat, i ≤ ls.length ∧ iv = .int .i64 i ∧ (∀ j, j < i → ascTo (ls.getD j []) (ls.getD j []).length) ∧ wr = w5.drewN n) (fun iv _ => ls.length - (intOf iv).toNat)
          case atStart => exact ⟨0, 0, Nat.zero_le _, rfl, (fun j hj => absurd hj (by omega)), rfl⟩
          case round =>
            obtain ⟨i, n, hi, rfl, hok, rfl⟩ := hrel
            have HOk := Lib.hid hok
            clear hok
            by_cases hlt : i < ls.length
            · obtain ⟨ad, Aj, cj, rfl, _, e0, hcj, hrj, _⟩ := RdLp.at_ HR5.out hlt
              have hgi : ls.getD i [] = ls[i] := by rw [List.getD_eq_getElem?_getD, List.getElem?_eq_getElem hlt]; rfl
              have HStep := Lib.hid (show ascTo ls[i] ls[i].length → ∀ j, j < i + 1 → ascTo (ls.getD j []) (ls.getD j []).length from fun h j hj => by
                by_cases hji : j = i
                · subst hji; rw [hgi]; exact h
                · exact HOk.out j (by omega))
              have HNot := Lib.hid (show ¬ ascTo ls[i] ls[i].length → weaveE ls = 12 from fun h => HE2.out HWo.out (fun h9 => h (by have := h9 i hlt; rwa [hgi] at this)))
              have HRj := Lib.hid hrj
              clear hgi hrj
              generalize ls[i] = li at *
              go_wp2
              go_loopw [10] (fun kv wr => ∃ k n : Nat, 1 ≤ k ∧ kv = .int .i64 k ∧ ascTo li k ∧ (k ≤ li.length ∨ k = 1) ∧ wr = w5.drewN n) (fun kv _ => li.length - (intOf kv).toNat)
              case atStart => exact ⟨1, n, Nat.le_refl _, rfl, (fun j hj => absurd hj (by omega)), .inr rfl, rfl⟩
              case round =>
                obtain ⟨k1, n2, hk1, rfl, hasc, hkl, rfl⟩ := hrel
                obtain ⟨k, rfl⟩ : ∃ k, k1 = k + 1 := ⟨k1 - 1, by omega⟩
                by_cases hlk : k + 1 < li.length
                · obtain ⟨ap, p, Ap, cp, hAp, _, hp, _, y1, _⟩ := RdPk.at_ HRj.out hlk
                  subst hAp
                  obtain ⟨ap2, p2, Ap2, cp2, hAp2, _, hp2, _, z1, _⟩ := RdPk.at_ HRj.out (j := k) (by omega)
                  injection hAp2 with hAp2
                  subst hAp2
                  have HSn := Lib.hid (fun h1 => ascTo_snoc hlk hasc h1)
                  have HNt := Lib.hid (fun h1 => ascTo_not hlk h1)
                  clear hasc
                  generalize li[k + 1] = x at *
                  generalize li[k] = y at *
                  have hsub : (k : Int) + 1 - 1 = (k : Int) := by omega
                  by_cases hle : y.at_ ≤ x.at_
                  · have HS' := Lib.hid (HSn.out hle)
                    have hle' : decide (x.at_ < y.at_) = false := decide_eq_false (by omega)
                    go_wp2
                    go_quiet (fail)
                    go_wp2
                    go_roundw
                    case rel => exact ⟨k + 2, _, by omega, by go_num, HS'.out, .inl (by omega), rfl⟩
                    case measure => simp [intOf]; omega
                  · have HE := Lib.hid (HNot.out (HNt.out hle))
                    have hle' : x.at_ < y.at_ := by omega
                    clear hle
                    go_wp2
                    go_quiet (fail)
                    go_wp2
                    go_ret2
                    exact weavePost_bad rfl HE.out (by omega) (below_drewN (below_drewN HB.out _) _)
                · have HS' := Lib.hid (HStep.out (fun j hj => by
                    rcases hkl with h9 | h9
                    · exact hasc j (by omega)
                    · exact absurd hj (by omega)))
                  clear hasc
                  go_wp2
                  go_roundw
                  case rel => exact ⟨i + 1, _, by omega, by go_num, HS'.out, rfl⟩
                  case measure => simp [intOf]; omega
            · have hkl : i = ls.length := by omega
              subst hkl
              have HE := Lib.hid (HE3.out HWo.out HOk.out)
              have htl : total ls ≤ 4000000000 := by
                have := total_le (B := 1000000000) ls (fun x hx => by
                  obtain ⟨j, hj, rfl⟩ := List.mem_iff_getElem.1 hx
                  obtain ⟨_, _, _, _, _, _, _, _, h9⟩ := RdLp.at_ HR5.out hj
                  exact h9)
                have h5 : ls.length * 1000000000 ≤ 4 * 1000000000 := Nat.mul_le_mul_right _ (by omega)
                omega
              have HP := Lib.hid (show weaveP ls = merge (total ls) ls by rw [weaveP, if_pos HE.out])
              have HF := Lib.hid (fun W (qs : List (List Pk)) (A : Option Addr) (S : Nat → Prop) (hr : RdQu W S A (qs.map q0)) (hn : qs.length = ls.length) => rfirst_n (c := ls.length) (n := ls.length) hr (by rw [List.length_map, hn]) (by omega))
              simp only [wait_q0] at HF
              have hOW : OwnG QuR 3 119 (w5.drewN n) w.heap.size (fun b => b < w5.heap.size) (.slice (some ⟨w.heap.size, 0, none⟩) ls.length ls.length) (ls.map q0) := HOw.out
              obtain ⟨A9, c9, hv9, hc9, hr9⟩ := hOW.reads QuR.good (S := fun b => b < w5.heap.size) (fun b hb hl => hl)
              simp only [Value.slice.injEq, List.length_map] at hv9
              obtain ⟨rfl, _, rfl⟩ := hv9
              go_wp2_with (first
                | (go_at_call 62; (with_reducible refine (HF.out _ ls _ _ hr9 rfl).mono ?_); rintro e w6 ⟨rfl, n6, rfl⟩))
              go_loopw [11, 12] (fun ov nv wr => ∃ (rs : List (List Pk)) (out : List Pk), rs.length = ls.length ∧ nv = .int .i64 (firstQ rs) ∧ out ++ merge (total rs) rs = merge (total ls) ls ∧ out.length + total rs = total ls ∧
                OwnG QuR 3 119 wr w.heap.size (fun b => b < w5.heap.size) (.slice (some ⟨w.heap.size, 0, none⟩) ls.length ls.length) (rs.map q0) ∧ OwnG PkR 6 40 wr w5.heap.size (fun b => b < wr.heap.size ∧ b ≠ w.heap.size) ov out ∧ Below w.heap.size w wr ∧ w5.heap.size ≤ wr.heap.size) (fun ov _ _ => total ls - lenV ov)
              case atStart => exact ⟨ls, [], rfl, rfl, rfl, by simp, hOW, OwnG.nil_ _ _ _ _ _ _, below_drewN HB.out _, Nat.le_refl _⟩
              case round =>
                obtain ⟨rs, out, hrl, rfl, hmg, htot, hL, hOut, hb, hw5⟩ := hrel
                have HRl := Lib.hid hrl
                have HMg := Lib.hid hmg
                have HTot := Lib.hid htot
                clear hrl hmg htot
                by_cases h0 : 0 ≤ firstQ rs
                · obtain ⟨m, hm⟩ := Int.eq_ofNat_of_zero_le h0
                  obtain ⟨hml, p, l, hrm⟩ := first_at hm
                  have HMs := Lib.hid (merge_step hm hml hrm)
                  have HTs := Lib.hid (total_set hml hrm)
                  obtain ⟨gb, cb, hvb, _, _, _, _, hrow⟩ := hL.rowS QuR.good (by rw [List.length_map]; omega)
                  injection hvb with hgb hlb hcb
                  injection hgb with hgb
                  injection hgb with hgb _ _
                  subst hgb
                  clear hlb hcb
                  obtain ⟨cs, ⟨Am, cm, hcs, hcm, hrd⟩, hcell, _⟩ := hrow m (by rw [List.length_map]; exact hml)
                  have hwq : ((rs.map q0)[m]'(by rw [List.length_map]; exact hml)).wait = p :: l := by rw [List.getElem_map, q0, hrm]
                  rw [hwq] at hcs hcm hrd
                  have z0 := hcell 0 (.slice Am (p :: l).length cm) (by rw [hcs]; rfl)
                  rw [Nat.add_zero, List.length_cons] at z0
                  obtain ⟨a1, Ad, cd, hA1, _, y0, y1, y2, y3, y4, y5, hcd, hrdd, hwf⟩ := RdPk.head_ hrd
                  subst hA1
                  have hpr : PkR wr (fun b => b < w5.heap.size ∧ b ≠ w.heap.size) [.int .i64 p.st, .int .i64 p.at_, .int .i64 p.ln, .bool p.key, .bool p.hid, .slice Ad p.data.length cd] p := ⟨Ad, cd, rfl, hcd, hrdd.weak (fun b hb _ => ⟨hb.1, fun e => hb.2 (by rw [e])⟩), hwf⟩
                  obtain ⟨A0, c0, rfl, _, _, hob0⟩ := hOut.form PkR.good
                  have hOut' := hOut
                  have HM := Lib.hid hm
                  clear hcell hrow hcs hwq hrdd h0
                  rw [HM.out]
                  have hml2 : m < ls.length := by rw [← HRl.out]; exact hml
                  have hol : out.length ≤ 3999999999 := by have := HTot.out; have := HTs.out; omega
                  go_upto_region 27 with (first
                    | (at_builtin; (refine wpList_push_G (v := .slice A0 out.length c0) rfl (.tmp 113) (.tmp 121) _ rfl PkR.good wr (.agg #[.int .i64 0, .int .i64 0, .int .i64 0, .bool false, .bool false, .slice none 0 0]) 56 Try.underlying49 info_pk rfl (by omega) rfl hOut' (fun b => b < w5.heap.size ∧ b ≠ w.heap.size) _ 1 [.int .i64 p.st, .int .i64 p.at_, .int .i64 p.ln, .bool p.key, .bool p.hid, .slice Ad p.data.length cd] p rfl rfl hpr (fun b => b ≤ wr.heap.size ∧ b ≠ w.heap.size) (fun b hb _ => ⟨Nat.le_of_lt hb.1, hb.2⟩) (fun b hb _ => ⟨by have := hb.1; omega, hb.2⟩) (fun b hb h => by have := (hob0 b hb).1; have := h.1; omega) (fun b hb => hb.1) ⟨Nat.le_refl _, by omega⟩ (by omega) (by omega) ?_); intro v7 w7 ow7 hg7 hv7))
                  obtain ⟨A7, c7, rfl, _, _, _⟩ := ow7.form PkR.good
                  have hs7' := hg7.size
                  simp at hs7'
                  have hM7 : Mod (fun b => w5.heap.size ≤ b) wr w7 := ((Mod.refl _ _).alloc _).then_ (Mod.of_grown hg7 (fun x hx _ => (hob0 x hx).1))
                  have hL7 := hL.keep QuR.good hM7 (fun b hb _ h => by have h8 : b < w5.heap.size := hb; have h9 : w5.heap.size ≤ b := h; omega) (fun b hb h => by simp [Value.ownBlock] at hb; have h9 : w5.heap.size ≤ b := h; omega)
                  have hs7 := hM7.size
                  have hb7 := hb.trans (hM7.below (B := w.heap.size) (by omega) (fun b hb => by have h9 : w5.heap.size ≤ b := hb; omega))
                  obtain ⟨gb, cb, hvb, _, _, _, hfz, hrow⟩ := hL7.rowS QuR.good (by rw [List.length_map]; omega)
                  injection hvb with hgb hlb hcb
                  injection hgb with hgb
                  injection hgb with hgb _ _
                  subst hgb
                  clear hlb hcb
                  obtain ⟨cs, ⟨Am2, cm2, hcs, hcm2, hrd2⟩, hcell, hput⟩ := hrow m (by rw [List.length_map]; exact hml)
                  have hwq : ((rs.map q0)[m]'(by rw [List.length_map]; exact hml)).wait = p :: l := by rw [List.getElem_map, q0, hrm]
                  rw [hwq] at hcs hcm2 hrd2
                  obtain ⟨A8, hrun8, hr8⟩ := hrd2.slice_l (lo := 1) (c := cm2) Try.underlying49 info_pk (by simp) hcm2
                  simp only [List.length_cons, Nat.add_sub_cancel, List.drop_succ_cons, List.drop_zero, show ((1 : Nat) : Int) = 1 from rfl] at hrun8 hr8
                  have x0 := hcell 0 (.slice Am2 (p :: l).length cm2) (by rw [hcs]; rfl)
                  rw [Nat.add_zero, List.length_cons] at x0
                  have xf := hfz (m * 3)
                  rw [List.length_cons] at hcm2
                  have HPut := Lib.hid (hput 0 (.slice A8 l.length (cm2 - 1)) (q0 l) (by omega) ⟨A8, cm2 - 1, by rw [hcs, List.getElem_map]; rfl, (show l.length ≤ cm2 - 1 by omega), hr8⟩)
                  rw [Nat.add_zero, ← List.map_set] at HPut
                  have HO7 := Lib.hid ow7
                  clear hput hcell hcs hfz hrow hL7 hL hOut hOut' z0 y0 y1 y2 y3 y4 y5 hwq hrd2 hrd ow7 hpr
                  obtain ⟨A9, c9, hv9, _, hr9⟩ := HPut.out.reads QuR.good (S := fun _ => True) (fun _ _ _ => trivial)
                  simp only [Value.slice.injEq] at hv9
                  obtain ⟨rfl, h9, rfl⟩ := hv9
                  clear h9
                  have HR9 := Lib.hid hr9
                  clear hr9
                  go_wp2_with (first
                    | (go_at_call 62; (with_reducible refine (HF.out _ (rs.set m l) _ _ HR9.out (by rw [List.length_set, HRl.out])).mono ?_); rintro e w9 ⟨rfl, n9, rfl⟩))
                  have hO8 := HO7.out.keep PkR.good (mod_put (M := (· = w.heap.size)) (g := w.heap.size) (off := m * 3) (u := .slice A8 l.length (cm2 - 1)) (Mod.refl _ w7) (fun _ => rfl) |>.drewN n9) (fun b hb _ h => hb.2 h) (fun b hb h => by have := (HO7.out.own_ge b hb).1; have h9 : b = w.heap.size := h; omega)
                  rw [List.length_append, List.length_singleton] at hO8
                  go_roundw
                  case rel =>
                    refine ⟨rs.set m l, out ++ [p], by rw [List.length_set, HRl.out], rfl, ?_, ?_, HPut.out, hO8.weak PkR.good (fun b hb _ => ⟨by simp [World.setCell]; have := hb.1; omega, hb.2⟩), below_drewN (below_put hb7 (Nat.le_refl _)) _, by simp [World.setCell]; omega⟩
                    · rw [← HMg.out, HMs.out, List.append_assoc]; rfl
                    · have := HTs.out; have := HTot.out; simp; omega
                  case measure => simp [lenV]; have := HTs.out; have := HTot.out; omega
                · have hfb := firstUp_bd rs rs.length
                  have hf9 : firstQ rs < 0 := by omega
                  have HMd := Lib.hid (merge_done hf9)
                  have h0' : decide (0 ≤ firstQ rs) = false := decide_eq_false h0
                  generalize firstQ rs = fq at *
                  go_wp2
                  go_ret2
                  refine ⟨_, by rw [HE.out]; rfl, ?_, hb⟩
                  rw [HP.out, ← HMg.out, HMd.out, List.append_nil]
                  exact (hOut.base_ (by omega)).weak PkR.good (fun b hb _ => hb.1)
end Go.Proofs.Ytnflhogjonlnmaa
