/- weave.All. -/
import Derived.Test.YtnflhogjonlnmaaWvSrtM
import Derived.Test.YtnflhogjonlnmaaRWvAll
import Derived.Test.YtnflhogjonlnmaaWvPut
set_option linter.unusedSimpArgs false
set_option linter.unusedVariables false
namespace Go.Proofs.Ytnflhogjonlnmaa
open Go.RowKit

theorem take_flat {ls : List (List Pk)} {i : Nat} (h : i < ls.length) : (ls.take (i + 1)).flatten = (ls.take i).flatten ++ ls[i] := by
  rw [List.take_succ_eq_append_getElem h, List.flatten_append]; simp
theorem flat_le {ls : List (List Pk)} {i k : Nat} (h : i < ls.length) (hk : k ≤ ls[i].length) : ((ls.take i).flatten ++ ls[i].take k).length ≤ total ls := by
  have h1 : ls.flatten = (ls.take i).flatten ++ (ls[i] ++ (ls.drop (i + 1)).flatten) := by
    rw [← List.flatten_cons, ← List.flatten_append, ← split_rs h]
  rw [← total_flat, h1]
  simp only [List.length_append, List.length_take]
  omega

set_option maxHeartbeats 16000000 in
set_option maxRecDepth 100000 in
theorem wall_any {ls : List (List Pk)} {A : Option Addr} {c : Nat} {w : World} (hr : RdG LpR 1 w (fun b => b < w.heap.size) A ls) (hl : ls.length ≤ 1000000000) :
    Calls Try.prog 24 #[.slice A ls.length c] w (WeavePost w ls) := by
  have HR := Lib.hid (fun W (h : Below w.heap.size w W) => hr.below LpR.good h)
  clear hr
  by_cases h1 : ls.length < 1
  · have HE := Lib.hid (weaveE_bad (.inl h1))
    have h1' : decide ((ls.length : Int) < 1) = true := decide_eq_true (by omega)
    go_enter Try.func24, Try.ntmps24
    go_wp2
    go_ret2
    exact weavePost_bad rfl HE.out (by omega) (Below.refl _ _)
  · by_cases h4 : 4 < ls.length
    · have HE := Lib.hid (weaveE_bad (.inr (.inl h4)))
      have h1' : decide ((ls.length : Int) < 1) = false := decide_eq_false (by omega)
      have h4' : decide ((4 : Int) < (ls.length : Int)) = true := decide_eq_true (by omega)
      go_enter Try.func24, Try.ntmps24
      go_wp2
      go_ret2
      exact weavePost_bad rfl HE.out (by omega) (Below.refl _ _)
    · have HE1 := Lib.hid (fun h => weaveE_bad (ls := ls) (.inr (.inr h)))
      have HE2 := Lib.hid (fun h3 h => weaveE_asc (ls := ls) h1 h4 h3 h)
      have HE3 := Lib.hid (fun h3 h => weaveE_ok (ls := ls) h1 h4 h3 h)
      have h1' : decide ((ls.length : Int) < 1) = false := decide_eq_false (by omega)
      have h4' : decide ((4 : Int) < (ls.length : Int)) = false := decide_eq_false (by omega)
      go_enter Try.func24, Try.ntmps24
      go_wp2
      go_loopw [25] (fun iv wr => ∃ i : Nat, i ≤ ls.length ∧ iv = .int .i64 i ∧ (∀ j, j < i → okTo (ls.getD j []) j (ls.getD j []).length) ∧ Below w.heap.size w wr) (fun iv _ => ls.length - (intOf iv).toNat)
      case atStart => exact ⟨0, Nat.zero_le _, rfl, (fun j hj => absurd hj (by omega)), Below.refl _ _⟩
      case round =>
        obtain ⟨i, hi, rfl, hok, hb⟩ := hrel
        have HOk := Lib.hid hok
        clear hok
        by_cases hlt : i < ls.length
        · obtain ⟨ad, Aj, cj, rfl, hSad, e0, hcj, hrj, hlj⟩ := RdLp.at_ (HR.out _ hb) hlt
          have hgi : ls.getD i [] = ls[i] := by rw [List.getD_eq_getElem?_getD, List.getElem?_eq_getElem hlt]; rfl
          have HStep := Lib.hid (show okTo ls[i] i ls[i].length → ∀ j, j < i + 1 → okTo (ls.getD j []) j (ls.getD j []).length from fun h j hj => by
            by_cases hji : j = i
            · subst hji; rw [hgi]; exact h
            · exact HOk.out j (by omega))
          have HNot := Lib.hid (show ¬ okTo ls[i] i ls[i].length → weaveE ls = 1 from fun h => HE1.out (fun h9 => h (by have := h9 i hlt; rwa [hgi] at this)))
          have HRj := Lib.hid (fun W (h : Below wr.heap.size wr W) => hrj.below PkR.good h)
          have HB := Lib.hid hb
          clear hgi hrj hb
          generalize ls[i] = li at *
          obtain ⟨wo, rfl⟩ : ∃ wo : World, wo = wr := ⟨_, rfl⟩
          go_wp2
          go_loopw [32] (fun kv wk => ∃ k : Nat, k ≤ li.length ∧ kv = .int .i64 k ∧ okTo li i k ∧ Below wo.heap.size wo wk) (fun kv _ => li.length - (intOf kv).toNat)
          case atStart => exact ⟨0, Nat.zero_le _, rfl, (fun j hj => absurd hj (by omega)), Below.refl _ _⟩
          case round =>
            obtain ⟨k, hk, rfl, hokk, hbk⟩ := hrel
            by_cases hlk : k < li.length
            · obtain ⟨ap, p, Ap, cp, hAp, _, hp, y0, y1, y2, y3, y4, y5, hcp, hrp, hwp⟩ := RdPk.at_ (HRj.out _ hbk) hlk
              subst hAp
              have HSn := Lib.hid (fun h1 h2 => okTo_snoc (i := i) hlk hokk h1 h2)
              have HNt := Lib.hid (fun h1 => okTo_not (i := i) hlk h1)
              clear hokk
              have HLay := fun W (hb : Below wr.heap.size wr W) => lay_any li[k] Ap cp hwp W (RdI.more (RdI.below (RdS.top hrp) hb (Nat.le_refl _)) hb.size)
              generalize hLE : layE li[k] = E at *
              clear hLE
              generalize layB li[k] = B at *
              generalize li[k] = q at *
              obtain ⟨q1, q2, q3, q4, q5, q6⟩ := q
              simp only at y0 y1 y2 y3 y4 y5 HSn HNt
              simp only [Pk.val] at HLay
              replace HLay := Lib.hid HLay
              go_upto_region 9 with (fail)
              have bx : Below wr.heap.size wr (wr.alloc (.cells #[.int .i64 q1, .int .i64 q2, .int .i64 q3, .bool q4, .bool q5, .slice Ap q6.length cp] 40)) := below_alloc (Below.refl _ _) _
              have kx := Blk.new wr 40 #[.int .i64 q1, .int .i64 q2, .int .i64 q3, .bool q4, .bool q5, .slice Ap q6.length cp]
              generalize wr.alloc (.cells #[.int .i64 q1, .int .i64 q2, .int .i64 q3, .bool q4, .bool q5, .slice Ap q6.length cp] 40) = wx at *
              clear y0 y1 y2 y3 y4 y5 hrp
              have x0 := kx.cell 0
              have x1 := kx.cell 1
              have x2 := kx.cell 2
              have x3 := kx.cell 3
              have x4 := kx.cell 4
              have x5 := kx.cell 5
              have hkl := kx.lt
              by_cases hE : E = 0
              · subst hE
                by_cases hst : q1 = (i : Int)
                · have HSn' := Lib.hid (HSn.out rfl hst)
                  subst hst
                  go_wp2_with (first
                    | (go_at_call 41; (with_reducible refine (HLay.out _ bx).mono ?_); rintro e w2 ⟨v2, rfl, _, hb2⟩; have z0 := (kx.below hb2 hkl).cell 0))
                  go_roundw
                  case rel => exact ⟨k + 1, by omega, by go_num, HSn'.out, below_then (below_then hbk bx) hb2⟩
                  case measure => simp [intOf]; omega
                · have hst' : (q1 != (i : Int)) = true := by rw [bne_iff_ne]; exact hst
                  have HE := Lib.hid (HNot.out (HNt.out (fun h => hst h.2)))
                  clear hst
                  go_wp2_with (first
                    | (go_at_call 41; (with_reducible refine (HLay.out _ bx).mono ?_); rintro e w2 ⟨v2, rfl, _, hb2⟩; have z0 := (kx.below hb2 hkl).cell 0))
                  go_ret2
                  exact weavePost_bad rfl HE.out (by omega) (below_then HB.out (below_then (below_then hbk bx) hb2))
              · have hE' : (E != 0) = true := by rw [bne_iff_ne]; exact hE
                have HE := Lib.hid (HNot.out (HNt.out (fun h => hE h.1)))
                clear hE
                go_wp2_with (first
                  | (go_at_call 41; (with_reducible refine (HLay.out _ bx).mono ?_); rintro e w2 ⟨v2, rfl, _, hb2⟩))
                go_ret2
                exact weavePost_bad rfl HE.out (by omega) (below_then HB.out (below_then (below_then hbk bx) hb2))
            · have hkl : k = li.length := by omega
              subst hkl
              have HOkA := Lib.hid (HStep.out hokk)
              clear hokk
              go_wp2
              go_roundw
              case rel => exact ⟨i + 1, by omega, by go_num, HOkA.out, below_then HB.out hbk⟩
              case measure => simp [intOf]; omega
        · have hkl : i = ls.length := by omega
          subst hkl
          have HWo := Lib.hid (show weaveOk ls from HOk.out)
          have HB := Lib.hid hb
          have HR5 := Lib.hid (fun W (h : Below w.heap.size wr W) => HR.out W (hb.trans h))
          have hw5 := hb.size
          have htl : total ls ≤ 4000000000 := by
            have := total_le (B := 1000000000) ls (fun x hx => by
              obtain ⟨j, hj, rfl⟩ := List.mem_iff_getElem.1 hx
              obtain ⟨_, _, _, _, _, _, _, _, h9⟩ := RdLp.at_ (HR.out _ hb) hj
              exact h9)
            have h5 : ls.length * 1000000000 ≤ 4 * 1000000000 := Nat.mul_le_mul_right _ (by omega)
            omega
          clear hb HOk HR
          obtain ⟨w5, rfl⟩ : ∃ w5 : World, w5 = wr := ⟨_, rfl⟩
          go_wp2
          go_loopw [10, 53] (fun v iv wr => ∃ i : Nat, i ≤ ls.length ∧ iv = .int .i64 i ∧ (∀ j, j < i → ascTo (ls.getD j []) (ls.getD j []).length) ∧ OwnG PkR 6 40 wr w5.heap.size (fun b => b < wr.heap.size) v (ls.take i).flatten ∧ Below w5.heap.size w5 wr) (fun _ iv _ => ls.length - (intOf iv).toNat)
          case atStart => exact ⟨0, Nat.zero_le _, rfl, (fun j hj => absurd hj (by omega)), OwnG.nil_ _ _ _ _ _ _, Below.refl _ _⟩
          case round =>
            obtain ⟨i, hi, rfl, hok, hown, hb⟩ := hrel
            have HOk := Lib.hid hok
            clear hok
            by_cases hlt : i < ls.length
            · obtain ⟨ad, Aj, cj, rfl, _, e0, hcj, hrj, _⟩ := RdLp.at_ (HR5.out _ (hb.mono hw5)) hlt
              have hgi : ls.getD i [] = ls[i] := by rw [List.getD_eq_getElem?_getD, List.getElem?_eq_getElem hlt]; rfl
              have HStep := Lib.hid (show ascTo ls[i] ls[i].length → ∀ j, j < i + 1 → ascTo (ls.getD j []) (ls.getD j []).length from fun h j hj => by
                by_cases hji : j = i
                · subst hji; rw [hgi]; exact h
                · exact HOk.out j (by omega))
              have HNot := Lib.hid (show ¬ ascTo ls[i] ls[i].length → weaveE ls = 12 from fun h => HE2.out HWo.out (fun h9 => h (by have := h9 i hlt; rwa [hgi] at this)))
              have HRj := Lib.hid (fun W (h : Below w5.heap.size wr W) => hrj.keep PkR.good (Mod.of_below (M := fun b => w5.heap.size ≤ b) h (fun b h _ => h)) (fun b hb' _ h9 => by have h8 : b < w.heap.size := hb'; have h7 : w5.heap.size ≤ b := h9; omega))
              have HFl := Lib.hid (take_flat hlt)
              have HLe := Lib.hid (fun k hk => flat_le (k := k) hlt hk)
              have HLy := Lib.hid (show ∀ k, k < ls[i].length → layE (ls[i].getD k zp) = 0 from fun k hk => by have := (HWo.out i hlt k (by rw [hgi]; exact hk)).1; rwa [hgi] at this)
              have HB2 := Lib.hid hb
              have HOw := Lib.hid hown
              have hw6 := hb.size
              clear hgi hrj hb hown
              generalize hli : ls[i] = li at *
              generalize hpr : (ls.take i).flatten = prv at *
              clear hli hpr
              obtain ⟨w6, rfl⟩ : ∃ w6 : World, w6 = wr := ⟨_, rfl⟩
              go_wp2
              go_loopw [10, 59] (fun v kv wr => ∃ k : Nat, k ≤ li.length ∧ kv = .int .i64 k ∧ ascTo li k ∧ OwnG PkR 6 40 wr w5.heap.size (fun b => b < wr.heap.size) v (prv ++ li.take k) ∧ Below w5.heap.size w6 wr) (fun _ kv _ => li.length - (intOf kv).toNat)
              case atStart => exact ⟨0, Nat.zero_le _, rfl, (fun j hj => absurd hj (by omega)), by simpa using HOw.out, Below.refl _ _⟩
              case round =>
                obtain ⟨k, hk, rfl, hasc, hown, hbk⟩ := hrel
                have hszr := hbk.size
                by_cases hlk : k < li.length
                · obtain ⟨ap, p, Ap, cp, hAp, _, hp, y0, y1, y2, y3, y4, y5, hcp, hrp, hwp⟩ := RdPk.at_ (HRj.out _ hbk) hlk
                  subst hAp
                  have hgk : li.getD k zp = li[k] := pk_get hlk
                  have HBad := Lib.hid (show (0 < k ∧ li[k].at_ < (li.getD (k - 1) zp).at_) → weaveE ls = 12 from fun h => HNot.out (by
                    obtain ⟨k', rfl⟩ : ∃ k', k = k' + 1 := ⟨k - 1, by omega⟩
                    have h2 := h.2
                    rw [Nat.add_sub_cancel, pk_get (by omega)] at h2
                    exact ascTo_not hlk (by omega)))
                  have HGood := Lib.hid (show ¬ (0 < k ∧ li[k].at_ < (li.getD (k - 1) zp).at_) → ascTo li (k + 1) from fun h => by
                    by_cases h0 : k = 0
                    · subst h0; exact fun j hj => absurd hj (by omega)
                    · obtain ⟨k', rfl⟩ : ∃ k', k = k' + 1 := ⟨k - 1, by omega⟩
                      rw [Nat.add_sub_cancel, pk_get (by omega)] at h
                      exact ascTo_snoc hlk hasc (by omega))
                  have HPrev := Lib.hid (show 0 < k → ∃ pp : Addr, ap.add ((k - 1) * 6) = pp ∧ wr.cell? ⟨pp.block, pp.off + 1, none⟩ = some (.int .i64 (li.getD (k - 1) zp).at_) from fun h => by
                    obtain ⟨ap2, p2, Ap2, cp2, hAp2, _, hp2, _, z1, _⟩ := RdPk.at_ (HRj.out _ hbk) (j := k - 1) (by omega)
                    injection hAp2 with hAp2
                    subst hAp2
                    exact ⟨p2, hp2, by rw [pk_get (by omega)]; exact z1⟩)
                  have HTk := Lib.hid (show prv ++ li.take (k + 1) = (prv ++ li.take k) ++ [li[k]] by rw [List.take_succ_eq_append_getElem hlk, List.append_assoc])
                  have HLl := Lib.hid (HLe.out (k + 1) (by omega))
                  have hdl : li[k].data.length ≤ 65536 := by
                    have := lay_time (HLy.out k hlk)
                    rw [hgk] at this
                    exact this.2.2.2.2
                  have hol : (prv ++ li.take k).length ≤ 3999999999 := by
                    have h9 := HLl.out
                    rw [HTk.out, List.length_append] at h9
                    simp only [List.length_singleton] at h9
                    omega
                  generalize (li.getD (k - 1) zp).at_ = pat at *
                  generalize li[k] = q at *
                  generalize prv ++ li.take k = xs at *
                  clear hasc hgk
                  obtain ⟨A0, c0, rfl, hc0, _, hob0⟩ := hown.form PkR.good
                  obtain ⟨q1, q2, q3, q4, q5, q6⟩ := q
                  simp only at y0 y1 y2 y3 y4 y5 hcp hrp hdl HBad HGood
                  have HCl := fun W (hb : Below wr.heap.size wr W) => wclone_any ⟨q1, q2, q3, q4, q5, q6⟩ Ap cp (by simp only; omega) W (RdI.more (RdI.below (RdS.top hrp) hb (Nat.le_refl _)) hb.size)
                  simp only [Pk.val] at HCl
                  replace HCl := Lib.hid HCl
                  go_upto_region 21 with (fail)
                  have bx : Below wr.heap.size wr (wr.alloc (.cells #[.int .i64 q1, .int .i64 q2, .int .i64 q3, .bool q4, .bool q5, .slice Ap q6.length cp] 40)) := below_alloc (Below.refl _ _) _
                  have kx := Blk.new wr 40 #[.int .i64 q1, .int .i64 q2, .int .i64 q3, .bool q4, .bool q5, .slice Ap q6.length cp]
                  generalize wr.alloc (.cells #[.int .i64 q1, .int .i64 q2, .int .i64 q3, .bool q4, .bool q5, .slice Ap q6.length cp] 40) = wx at *
                  clear y0 y1 y2 y3 y4 y5 hrp
                  have x1 := kx.cell 1
                  go_cut [76] from 64 to 76 (fun v wc => v = .bool (decide (0 < k ∧ q2 < pat)) ∧ ∃ n, wc = wx.drewN n)
                  case first =>
                    by_cases h0 : k = 0
                    · subst h0
                      have hd : decide (0 < 0 ∧ q2 < pat) = false := by simp
                      go_wp2_with (fail)
                      refine wp_region_held_drew (S := (fun w' => w' = wx.drewN 1)) (by kernel_rfl) ?_ (fun hHeld => ?_)
                      focus exact rfl
                      refine wpAnyH_take (i := 0) (v := ?_) rfl (by kernel_rfl) (by kernel_rfl) (by kernel_rfl) (fun _ _ _ h => h) (Or.inl ⟨by kernel_rfl, ?_⟩) (by assumption) ?_
                      rotate_left
                      focus
                        intro w9 hSw
                        (try dsimp only at hSw)
                        go_simp
                        (try with_reducible rfl)
                      (try simp only [Act.put, List.getElem_toArray, List.getElem_cons_succ, List.getElem_cons_zero, List.setIfInBounds_toArray, List.set_cons_zero, List.set_cons_succ])
                      refine wpAnyH_take (i := 1) (v := ?_) rfl (by kernel_rfl) (by kernel_rfl) (by kernel_rfl) (fun _ _ _ h => h) (Or.inl ⟨by kernel_rfl, ?_⟩) (by assumption) ?_
                      rotate_left
                      focus
                        intro w9 hSw
                        (try dsimp only at hSw)
                        go_simp
                        (try with_reducible rfl)
                      (try simp only [Act.put, List.getElem_toArray, List.getElem_cons_succ, List.getElem_cons_zero, List.setIfInBounds_toArray, List.set_cons_zero, List.set_cons_succ])
                      refine wpAnyH_take (i := 2) (v := ?_) rfl (by kernel_rfl) (by kernel_rfl) (by kernel_rfl) (fun _ _ _ h => h) (Or.inl ⟨by kernel_rfl, ?_⟩) (by assumption) ?_
                      rotate_left
                      focus
                        intro w9 hSw
                        (try dsimp only at hSw)
                        go_simp
                        (try with_reducible rfl)
                      (try simp only [Act.put, List.getElem_toArray, List.getElem_cons_succ, List.getElem_cons_zero, List.setIfInBounds_toArray, List.set_cons_zero, List.set_cons_succ])
                      refine wpAnyH_take (i := 3) (v := undef) rfl (by kernel_rfl) (by kernel_rfl) (by kernel_rfl) (fun _ _ _ h => h) (Or.inr ⟨by kernel_rfl, rfl⟩) (by assumption) ?_
                      (try simp only [Act.put, List.getElem_toArray, List.getElem_cons_succ, List.getElem_cons_zero, List.setIfInBounds_toArray, List.set_cons_zero, List.set_cons_succ])
                      refine wpAnyH_take (i := 4) (v := undef) rfl (by kernel_rfl) (by kernel_rfl) (by kernel_rfl) (fun _ _ _ h => h) (Or.inr ⟨by kernel_rfl, rfl⟩) (by assumption) ?_
                      (try simp only [Act.put, List.getElem_toArray, List.getElem_cons_succ, List.getElem_cons_zero, List.setIfInBounds_toArray, List.set_cons_zero, List.set_cons_succ])
                      refine wpAnyH_take (i := 5) (v := undef) rfl (by kernel_rfl) (by kernel_rfl) (by kernel_rfl) (fun _ _ _ h => h) (Or.inr ⟨by kernel_rfl, rfl⟩) (by assumption) ?_
                      (try simp only [Act.put, List.getElem_toArray, List.getElem_cons_succ, List.getElem_cons_zero, List.setIfInBounds_toArray, List.set_cons_zero, List.set_cons_succ])
                      refine wpAnyH_take (i := 6) (v := undef) rfl (by kernel_rfl) (by kernel_rfl) (by kernel_rfl) (fun _ _ _ h => h) (Or.inr ⟨by kernel_rfl, rfl⟩) (by assumption) ?_
                      (try simp only [Act.put, List.getElem_toArray, List.getElem_cons_succ, List.getElem_cons_zero, List.setIfInBounds_toArray, List.set_cons_zero, List.set_cons_succ])
                      refine wpAnyH_take (i := 7) (v := undef) rfl (by kernel_rfl) (by kernel_rfl) (by kernel_rfl) (fun _ _ _ h => h) (Or.inr ⟨by kernel_rfl, rfl⟩) (by assumption) ?_
                      (try simp only [Act.put, List.getElem_toArray, List.getElem_cons_succ, List.getElem_cons_zero, List.setIfInBounds_toArray, List.set_cons_zero, List.set_cons_succ])
                      refine wpAnyH_take (i := 8) (v := undef) rfl (by kernel_rfl) (by kernel_rfl) (by kernel_rfl) (fun _ _ _ h => h) (Or.inr ⟨by kernel_rfl, rfl⟩) (by assumption) ?_
                      (try simp only [Act.put, List.getElem_toArray, List.getElem_cons_succ, List.getElem_cons_zero, List.setIfInBounds_toArray, List.set_cons_zero, List.set_cons_succ])
                      refine wpAnyH_take (i := 9) (v := undef) rfl (by kernel_rfl) (by kernel_rfl) (by kernel_rfl) (fun _ _ _ h => h) (Or.inr ⟨by kernel_rfl, rfl⟩) (by assumption) ?_
                      (try simp only [Act.put, List.getElem_toArray, List.getElem_cons_succ, List.getElem_cons_zero, List.setIfInBounds_toArray, List.set_cons_zero, List.set_cons_succ])
                      refine wpAnyH_take (i := 10) (v := undef) rfl (by kernel_rfl) (by kernel_rfl) (by kernel_rfl) (fun _ _ _ h => h) (Or.inr ⟨by kernel_rfl, rfl⟩) (by assumption) ?_
                      (try simp only [Act.put, List.getElem_toArray, List.getElem_cons_succ, List.getElem_cons_zero, List.setIfInBounds_toArray, List.set_cons_zero, List.set_cons_succ])
                      refine wpAnyH_take (i := 11) (v := undef) rfl (by kernel_rfl) (by kernel_rfl) (by kernel_rfl) (fun _ _ _ h => h) (Or.inr ⟨by kernel_rfl, rfl⟩) (by assumption) ?_
                      (try simp only [Act.put, List.getElem_toArray, List.getElem_cons_succ, List.getElem_cons_zero, List.setIfInBounds_toArray, List.set_cons_zero, List.set_cons_succ])
                      refine wpAnyH_take (i := 12) (v := ?_) rfl (by kernel_rfl) (by kernel_rfl) (by kernel_rfl) (fun _ _ _ h => h) (Or.inl ⟨by kernel_rfl, ?_⟩) (by assumption) ?_
                      rotate_left
                      focus
                        intro w9 hSw
                        (try dsimp only at hSw)
                        go_simp
                        (try with_reducible rfl)
                      (try simp only [Act.put, List.getElem_toArray, List.getElem_cons_succ, List.getElem_cons_zero, List.setIfInBounds_toArray, List.set_cons_zero, List.set_cons_succ])
                      refine wpAnyH_done (by kernel_rfl) ?_ _
                      (try simp only [Act.put, List.getElem_toArray, List.getElem_cons_succ, List.getElem_cons_zero, List.setIfInBounds_toArray, List.set_cons_zero, List.set_cons_succ])
                      go_wp2
                      go_meet
                      exact ⟨by simp, 1, rfl⟩
                    · obtain ⟨pp, hpp, z1⟩ := HPrev.out (by omega)
                      have z1' := (bx.cell (World.block_lt_of_cell? wr _ z1)).trans z1
                      obtain ⟨k', hk'⟩ : ∃ k', k - 1 = k' := ⟨_, rfl⟩
                      rw [hk'] at hpp
                      have hkz : IntKind.i64.wrap ((k : Int) - 1) = (k' : Int) := by rw [IntWalk.i64_in _ (by omega)]; omega
                      have hkz2 : (k : Int) - 1 = (k' : Int) := by omega
                      have hkl : k' < li.length := by omega
                      have hpos : 0 < k := by omega
                      have HD := Lib.hid (show decide (0 < k ∧ q2 < pat) = decide (q2 < pat) by simp [hpos])
                      clear z1 hk' h0
                      go_wp2_with (fail)
                      go_quiet (fail)
                      go_wp2
                      go_meet
                      exact ⟨by rw [HD.out], _, rfl⟩
                  case rest =>
                    obtain ⟨rfl, n, rfl⟩ := hcut
                    have kq := kx.drewN n
                    have bq := below_drewN bx n
                    clear x1 kx bx
                    generalize wx.drewN n = wq at *
                    by_cases hbad : 0 < k ∧ q2 < pat
                    · rw [decide_eq_true hbad]
                      have HE := Lib.hid (HBad.out hbad)
                      go_wp2
                      go_ret2
                      exact weavePost_bad rfl HE.out (by omega) (HB.out.trans ((HB2.out.trans (hbk.trans (bq.mono (by omega)))).mono hw5))
                    · rw [decide_eq_false hbad]
                      have HAs := Lib.hid (HGood.out hbad)
                      have hownq := hown.keep PkR.good (Mod.of_fresh (M := fun _ => False) bq) (fun _ _ _ h => h) (fun _ _ h => h)
                      have hszq := bq.size
                      have x0 := kq.cell 0
                      have x1 := kq.cell 1
                      have x2 := kq.cell 2
                      have x3 := kq.cell 3
                      have x4 := kq.cell 4
                      have x5 := kq.cell 5
                      go_wp2_with (first
                        | (go_at_call 42; (with_reducible refine (HCl.out _ bq).mono ?_); rintro e w7 ⟨A7, c7, rfl, ho7, hc7, hb7⟩; obtain ⟨_, _, hr7⟩ := ho7.rds; have hown7 := hownq.keep PkR.good (Mod.of_fresh (M := fun _ => False) hb7) (fun _ _ _ h => h) (fun _ _ h => h); have hs7 := hb7.size; have hpr : PkR w7 (fun b => wq.heap.size ≤ b ∧ b < w7.heap.size) [.int .i64 q1, .int .i64 q2, .int .i64 q3, .bool q4, .bool q5, .slice A7 q6.length c7] ⟨q1, q2, q3, q4, q5, q6⟩ := ⟨A7, c7, rfl, hc7, hr7.weak (fun b hb _ => ⟨hb.1, hb.2.1⟩), hwp⟩)
                        | (at_builtin; (refine wpList_push_G (v := .slice A0 xs.length c0) rfl (.tmp 77) (.tmp 80) _ rfl PkR.good w7 (.agg #[.int .i64 0, .int .i64 0, .int .i64 0, .bool false, .bool false, .slice none 0 0]) 56 Try.underlying49 info_pk rfl (by omega) rfl hown7 (fun b => wq.heap.size ≤ b ∧ b < w7.heap.size) _ 1 [.int .i64 q1, .int .i64 q2, .int .i64 q3, .bool q4, .bool q5, .slice A7 q6.length c7] ⟨q1, q2, q3, q4, q5, q6⟩ rfl rfl hpr (fun b => b ≤ w7.heap.size) (fun b hb _ => by have hb' : b < wr.heap.size := hb; show b ≤ w7.heap.size; omega) (fun b hb _ => Nat.le_of_lt hb.2) (fun b hb h => by have := (hob0 b hb).2; have := h.1; omega) (fun b hb => hb) (Nat.le_refl _) (by omega) (by omega) ?_); intro v8 w8 ow8 hg8 hv8))
                      have hb78 : Below w5.heap.size w7 w8 := Below.grown (below_alloc (Below.refl w7.heap.size w7) _ |>.mono (by omega)) hg8 (by simp; omega) (fun b hb => (hob0 b hb).1)
                      have hbf := hbk.trans ((bq.mono (by omega)).trans ((hb7.mono (by omega)).trans hb78))
                      have hs8 := hg8.size
                      simp at hs8
                      go_roundw
                      case rel => exact ⟨k + 1, by omega, by go_num, HAs.out, by rw [HTk.out]; exact ow8.weak PkR.good (fun b hb _ => by have hb' : b ≤ w7.heap.size := hb; show b < w8.heap.size; omega), hbf⟩
                      case measure => simp [intOf]; omega
                · have hkl : k = li.length := by omega
                  subst hkl
                  have HAs := Lib.hid (HStep.out hasc)
                  have HOw2 := Lib.hid hown
                  clear hasc hown
                  go_wp2
                  go_roundw
                  case rel => exact ⟨i + 1, by omega, by go_num, HAs.out, by have h9 := HOw2.out; rw [List.take_length] at h9; rw [HFl.out]; exact h9, HB2.out.trans hbk⟩
                  case measure => simp [intOf]; omega
            · have hkl : i = ls.length := by omega
              subst hkl
              have hE := HE3.out HWo.out HOk.out
              have HE := Lib.hid hE
              rw [List.take_length] at hown
              have HSo := Lib.hid (sortown_any hown (by rw [total_flat]; exact htl))
              have HWs := Lib.hid (fun l' (h1 : SrdP l') (h2 : SrtP ls.flatten l') => weave_sorted hE h1 h2)
              have hszr := hb.size
              generalize ls.flatten = fl at *
              obtain ⟨A0, c0, rfl, hc0, _, hob0⟩ := hown.form PkR.good
              clear hE hown
              go_wp2_with (first
                | (go_at_call 50; (with_reducible refine HSo.out.mono ?_); rintro e w7 ⟨rfl, xs', o7, s7, t7, l7, b7⟩))
              go_ret2
              have e7 := HWs.out xs' s7 t7
              refine ⟨_, by rw [HE.out]; rfl, ?_, HB.out.trans ((hb.trans b7).mono hw5)⟩
              rw [← e7]
              exact (o7.base_ hw5).weak PkR.good (fun b hb' _ => Nat.lt_of_lt_of_le hb' b7.size)
end Go.Proofs.Ytnflhogjonlnmaa
