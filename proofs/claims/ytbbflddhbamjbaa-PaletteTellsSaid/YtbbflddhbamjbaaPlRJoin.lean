/- The reference's PalJoin. -/
import Derived.Test.YtbbflddhbamjbaaPlSort
import Derived.Test.YtbbflddhbamjbaaPicSame
import Derived.Test.YtbbflddhbamjbaaLb
import Derived.Deep.DeepCutAuto
import Derived.Test.YtbbflddhbamjbaaPlJoin
import Derived.Test.YtbbflddhbamjbaaPlRMay
set_option linter.unusedSimpArgs false
set_option linter.unusedVariables false
namespace Go.Proofs.Ytbbflddhbamjbaa
open Go.RowKit
set_option maxHeartbeats 8000000 in
set_option maxRecDepth 100000 in
theorem rcolours_any {ls : List (List Int)} {A : Option Addr} {c : Nat} {w : World} {B : Nat} (hr : RdLL w B .i64 A ls) (hB : B ≤ w.heap.size) (hn : ls.length ≤ 1000000) (hrow : ∀ l ∈ ls, l.length ≤ 1000000) :
    Calls Try.prog 62 #[.slice A ls.length c] w fun e w' => ∃ A' c', e = .returned (.slice A' ls.length c') ∧ ls.length ≤ c' ∧ OwnG IsR 1 22 w' w.heap.size (fun x => w.heap.size ≤ x ∧ x < w'.heap.size) (.slice A' ls.length c') ls ∧ Below w.heap.size w w' := by
  have HRw := Lib.hid hrow
  clear hrow
  go_enter Try.func62, Try.ntmps62
  go_wp2
  go_loopw [3, 4] (fun v iv wr => ∃ i : Nat, i ≤ ls.length ∧ iv = .int .i64 i ∧ OwnG IsR 1 22 wr w.heap.size (fun x => w.heap.size ≤ x ∧ x < wr.heap.size) v (ls.take i) ∧ Below w.heap.size w wr) (fun _ iv _ => ls.length - (intOf iv).toNat)
  case atStart => exact ⟨0, Nat.zero_le _, rfl, by rw [List.take_zero]; exact OwnG.nil_ _ _ _ _ _ _, Below.refl _ _⟩
  case round =>
    obtain ⟨i, hi, rfl, hO, hbr⟩ := hrel
    have HO := Lib.hid hO
    have hsr := hbr.size
    clear hO
    by_cases hlt : i < ls.length
    · obtain ⟨ad, Aj, cj, rfl, hadB, hcell, hcj, hrj⟩ := (hr.below hbr hB) i hlt
      have hlen := HRw.out _ (mem_getD hlt)
      have HS := Lib.hid (show ls.take (i + 1) = ls.take i ++ [ls.getD i []] by rw [List.take_succ_eq_append_getElem hlt, List.getD_eq_getElem?_getD, List.getElem?_eq_getElem hlt]; rfl)
      have hLt := Lib.hid (show (ls.take i).length = i by rw [List.length_take]; omega)
      generalize ls.take i = L at *
      obtain ⟨Av, cv, rfl, hcv, _, hov⟩ := HO.out.form IsR.good
      have hcell := (World.cell?_alloc_lt wr (.cells #[] 3) (ad.add i) (by rw [add_block]; omega)).trans hcell
      generalize ls.getD i [] = r at *
      have HOv := Lib.hid hov
      clear hov
      go_wp2_with (first
        | (at_builtin; (refine wpList_append_int _ rfl (.tmp 12) (.tmp 16) _ rfl wr wr.heap.size wr.heap.size 3 .i64 8 Try.underlying22 info_int _ [] rfl (OwnI.empty _ _ _ _ (Nat.le_refl _)) _ Aj r.length cj r rfl rfl (hrj.alloc (Nat.le_trans hB hsr) _) (by simp; omega) (by omega) (below_alloc (Below.refl _ _) _) (Nat.le_refl _) (by simp) ?_); intro v5 w5 ow5 bw5; rw [List.nil_append] at ow5; obtain ⟨A5, c5, rfl, hc5, _, _⟩ := ow5.form; obtain ⟨_, _, hr5⟩ := ow5.rds; have hs5 := bw5.size; have HO5 := Lib.hid ((HO.out.keep IsR.good (Mod.of_fresh (M := fun _ => False) bw5) (fun _ _ _ h => h) (fun _ _ h => h)).weak IsR.good (D' := fun x => w.heap.size ≤ x ∧ x < w5.heap.size) (fun b hb _ => ⟨hb.1, by have := hb.2; omega⟩)); clear ow5)
        | (at_builtin; (refine wpList_push_G rfl (.tmp 11) (.tmp 18) _ rfl IsR.good w5 (.slice none 0 0) 24 Try.underlying23 info_ints rfl (by omega) rfl HO5.out (fun b => wr.heap.size ≤ b ∧ b < w5.heap.size) _ 1 [.slice A5 r.length c5] r rfl rfl (show IsR _ _ _ _ from ⟨A5, c5, rfl, hc5, hr5.weak (fun b hb _ => ⟨hb.1, hb.2.1⟩)⟩) (fun x => w.heap.size ≤ x ∧ x ≤ w5.heap.size) (fun b hb _ => ⟨hb.1, Nat.le_of_lt hb.2⟩) (fun b hb _ => ⟨by have := hb.1; omega, Nat.le_of_lt hb.2⟩) (fun b hb h => by have h1 := (HOv.out b hb).2; have h2 := h.1; omega) (fun b hb => hb.2) ⟨by omega, Nat.le_refl _⟩ (by rw [hLt.out]; omega) (by omega) ?_); intro v8 w8 ow8 hg8 hv8))
      have hs8 := hg8.size
      simp at hs8
      have b8 : Below w.heap.size w w8 := hbr.trans (Below.grown (below_alloc bw5 _ |>.mono (by omega)) hg8 (by simp; omega) (fun b hb => (HOv.out b hb).1))
      have HO8 := Lib.hid (ow8.weak IsR.good (D' := fun x => w.heap.size ≤ x ∧ x < w8.heap.size) (fun b hb hl => ⟨hb.1, hl⟩))
      go_roundw
      case rel => exact ⟨i + 1, by omega, by go_num, by rw [HS.out]; exact HO8.out, b8⟩
      case measure => simp [intOf]; omega
    · have hil : i = ls.length := by omega
      subst hil
      have h := HO.out
      rw [List.take_length] at h
      have HOf := Lib.hid h
      obtain ⟨Av, cv, rfl, hcv, _, _⟩ := h.form IsR.good
      clear h
      go_wp2
      go_ret
      exact ⟨Av, cv, rfl, hcv, HOf.out, hbr⟩
end Go.Proofs.Ytbbflddhbamjbaa

namespace Go.Proofs.Ytbbflddhbamjbaa
open Go.RowKit

set_option maxHeartbeats 4000000 in
set_option maxRecDepth 100000 in
theorem rjoin_head {a b : Pal} {A A2 : Option Addr} {c c2 : Nat} {w : World} {B : Nat} (hr : RdLL w B .i64 A a.c) (hr2 : RdLL w B .i64 A2 b.c) (hB : B ≤ w.heap.size) (hc : a.c.length ≤ c) (hc2 : b.c.length ≤ c2) (h63 : Len63 a.c) (h63b : Len63 b.c) (h : joinOk a b = false) :
    Calls Try.prog 43 #[palV a A c, palV b A2 c2] w (JoinPost w a b) := by
  have HNo := Lib.hid (fun (w' : World) (e : Ending) (he : e = .returned (.tuple #[.agg #[.int .i64 0, .int .i64 0, .slice none 0 0], .bool false])) (hb : Below w.heap.size w w') => JoinPost.no (a := a) (b := b) (by rw [joinB, h]; rfl) he hb)
  have HMy := fun W (hb : Below w.heap.size w W) => rmay_any (c := c) (hr.below hb hB) (Nat.le_trans hB hb.size) hc h63
  have HMy2 := fun W (hb : Below w.heap.size w W) => rmay_any (c := c2) (hr2.below hb hB) (Nat.le_trans hB hb.size) hc2 h63b
  have hcase : palB a = false ∨ (palB a = true ∧ palB b = false) ∨ (palB a = true ∧ palB b = true ∧ (a.d != b.d) = true) ∨ (palB a = true ∧ palB b = true ∧ (a.d != b.d) = false ∧ (a.n != b.n) = true) := by
    rw [joinOk] at h
    cases ha : palB a with
    | false => exact .inl rfl
    | true =>
      cases hb : palB b with
      | false => exact .inr (.inl ⟨rfl, rfl⟩)
      | true =>
        rw [ha, hb] at h
        simp at h
        by_cases hd : a.d = b.d
        · exact .inr (.inr (.inr ⟨rfl, rfl, by simp [hd], by simp [h hd]⟩))
        · exact .inr (.inr (.inl ⟨rfl, rfl, by simp [hd]⟩))
  have kz := Blk.new2 w (.cells #[.int .i64 a.d, .int .i64 a.n, .slice A a.c.length c] 25) (.cells #[.int .i64 b.d, .int .i64 b.n, .slice A2 b.c.length c2] 25) 25 #[.int .i64 0, .int .i64 0, .slice none 0 0]
  have ka := ((Blk.new w 25 #[.int .i64 a.d, .int .i64 a.n, .slice A a.c.length c]).alloc (.cells #[.int .i64 b.d, .int .i64 b.n, .slice A2 b.c.length c2] 25)).alloc (.cells #[.int .i64 0, .int .i64 0, .slice none 0 0] 25)
  have kb := (Blk.new1 w (.cells #[.int .i64 a.d, .int .i64 a.n, .slice A a.c.length c] 25) 25 #[.int .i64 b.d, .int .i64 b.n, .slice A2 b.c.length c2]).alloc (.cells #[.int .i64 0, .int .i64 0, .slice none 0 0] 25)
  have bb := below_alloc (below_alloc (below_alloc (Below.refl w.heap.size w) (.cells #[.int .i64 a.d, .int .i64 a.n, .slice A a.c.length c] 25)) (.cells #[.int .i64 b.d, .int .i64 b.n, .slice A2 b.c.length c2] 25)) (.cells #[.int .i64 0, .int .i64 0, .slice none 0 0] 25)
  obtain ⟨ad, an, ac⟩ := a
  obtain ⟨bd, bn, bc⟩ := b
  simp only [palV] at *
  clear h hr hr2
  generalize palB ⟨ad, an, ac⟩ = pa at *
  generalize palB ⟨bd, bn, bc⟩ = pb at *
  have key : ∀ (W2 : World) (r : Value), Below w.heap.size w W2 → Blk W2 (w.heap.size + 1 + 1) 25 #[.int .i64 0, .int .i64 0, .slice none 0 0] → True := fun _ _ _ _ => trivial
  clear key
  rcases hcase with rfl | ⟨rfl, rfl⟩ | ⟨rfl, rfl, q1⟩ | ⟨rfl, rfl, q1, q2⟩
  all_goals
    replace HMy := Lib.hid HMy
    replace HMy2 := Lib.hid HMy2
    go_enter Try.func43, Try.ntmps43
    go_upto_region 1 with fail
    generalize ((w.alloc (.cells #[.int .i64 ad, .int .i64 an, .slice A ac.length c] 25)).alloc (.cells #[.int .i64 bd, .int .i64 bn, .slice A2 bc.length c2] 25)).alloc (.cells #[.int .i64 0, .int .i64 0, .slice none 0 0] 25) = w0 at *
    have x0 := ka.cell 0
    have x1 := ka.cell 1
    have x2 := ka.cell 2
  · go_wp2_with (first
      | (go_at_call 28; (with_reducible refine (HMy.out _ bb).mono ?_); rintro e w1 ⟨rfl, hb1⟩; have kz1 := kz.below hb1 kz.lt; have y0 := kz1.cell 0; have y1 := kz1.cell 1; have y2 := kz1.cell 2; have f0 := kz1.frozen 0; have f1 := kz1.frozen 1; have f2 := kz1.frozen 2))
    refine bodyPost_ret (v := .tuple #[.agg #[.int .i64 0, .int .i64 0, .slice none 0 0], .bool false]) (by simp [results, Try.results43, go_sem, y0, y1, y2]) rfl ?_
    exact HNo.out _ _ rfl (below_then bb hb1 |>.setCell (by simp; omega) _ |>.setCell (by simp; omega) _ |>.setCell (by simp; omega) _)
  all_goals
    go_wp2_with (first
      | (go_at_call 28; (with_reducible refine (HMy.out _ bb).mono ?_); rintro e w1 ⟨rfl, hb1⟩; have kb1 := kb.below hb1 kb.lt; have v0 := kb1.cell 0; have v1 := kb1.cell 1; have v2 := kb1.cell 2; have b01 := Lib.hid (below_then bb hb1))
      | (go_at_call 28; (with_reducible refine (HMy2.out _ b01.out).mono ?_); rintro e w2 ⟨rfl, hb2⟩; have b12 := hb1.trans (hb2.mono hb1.size); have kz1 := kz.below b12 kz.lt; have ka1 := ka.below b12 ka.lt; have kb2 := kb.below b12 kb.lt; have x0 := ka1.cell 0; have x1 := ka1.cell 1; have v0 := kb2.cell 0; have v1 := kb2.cell 1; have y0 := kz1.cell 0; have y1 := kz1.cell 1; have y2 := kz1.cell 2; have f0 := kz1.frozen 0; have f1 := kz1.frozen 1; have f2 := kz1.frozen 2))
    refine bodyPost_ret (v := .tuple #[.agg #[.int .i64 0, .int .i64 0, .slice none 0 0], .bool false]) (by simp [results, Try.results43, go_sem, y0, y1, y2]) rfl ?_
    exact HNo.out _ _ rfl (below_then bb b12 |>.setCell (by simp; omega) _ |>.setCell (by simp; omega) _ |>.setCell (by simp; omega) _)

set_option maxHeartbeats 16000000 in
set_option maxRecDepth 100000 in
theorem rjoin_any {a b : Pal} {A A2 : Option Addr} {c c2 : Nat} {w : World} {B : Nat} (hr : RdLL w B .i64 A a.c) (hr2 : RdLL w B .i64 A2 b.c) (hB : B ≤ w.heap.size) (hc : a.c.length ≤ c) (hc2 : b.c.length ≤ c2) (h63 : Len63 a.c) (h63b : Len63 b.c) :
    Calls Try.prog 43 #[palV a A c, palV b A2 c2] w (JoinPost w a b) := by
  cases hok : joinOk a b with
  | false => exact rjoin_head hr hr2 hB hc hc2 h63 h63b hok
  | true =>
    have hok' := hok
    rw [joinOk, Bool.and_eq_true, Bool.and_eq_true, decide_eq_true_eq] at hok'
    obtain ⟨⟨ha, hb⟩, hd, hn⟩ := hok'
    have HNo := Lib.hid (fun (w' : World) (e : Ending) (h : ¬ (joinC a b).length ≤ 256) (he : e = .returned (.tuple #[.agg #[.int .i64 0, .int .i64 0, .slice none 0 0], .bool false])) (hb : Below w.heap.size w w') => JoinPost.no (a := a) (b := b) (by rw [joinB, hok, decide_eq_false h]; rfl) he hb)
    have HYes := Lib.hid (fun (h : (joinC a b).length ≤ 256) => (⟨by rw [joinB, hok, decide_eq_true h]; rfl, by rw [joinP, joinB, hok, decide_eq_true h]; rfl⟩ : joinB a b = true ∧ joinP a b = ⟨a.d, a.n, joinC a b⟩))
    have HJm := Lib.hid (joined_may hok)
    have HMy := fun W (hb : Below w.heap.size w W) => rmay_any (c := c) (hr.below hb hB) (Nat.le_trans hB hb.size) hc h63
    have HMy2 := fun W (hb : Below w.heap.size w W) => rmay_any (c := c2) (hr2.below hb hB) (Nat.le_trans hB hb.size) hc2 h63b
    rw [ha] at HMy
    rw [hb] at HMy2
    have hra := rows_of ha
    have hrb := rows_of hb
    have hah := (palB_iff.1 ha).1
    have hbh := (palB_iff.1 hb).1
    simp only [headB, decide_eq_true_eq] at hah hbh
    have HRa := Lib.hid (show ∀ r ∈ a.c, r.length = a.n.toNat ∧ r.length ≤ 4 ∧ 0 < r.length ∧ Col (keyC r) from fun r hr => by
      have h1 := hra.1 r hr
      exact ⟨by omega, by omega, by omega, keyC_col fun x hx => okV_c64 hah.2.1 (h1.2 x hx)⟩)
    have HRb := Lib.hid (show ∀ r ∈ b.c, r.length = a.n.toNat ∧ r.length ≤ 4 ∧ 0 < r.length ∧ Col (keyC r) from fun r hr => by
      have h1 := hrb.1 r hr
      exact ⟨by omega, by omega, by omega, keyC_col fun x hx => okV_c64 hbh.2.1 (h1.2 x hx)⟩)
    have HJ0 := Lib.hid (joinK_zero a b)
    have HJf := Lib.hid (joinK_full a b)
    have HJi := Lib.hid (fun i (hi : i < b.c.length) h => joinK_in (a := a) hi h)
    have HJo := Lib.hid (fun i (hi : i < b.c.length) h => joinK_out (a := a) hi h)
    have HJl := Lib.hid (fun i => joinK_len (a := a) (b := b) (i := i))
    have HCl := fun W (hb : Below w.heap.size w W) => rcolours_any (c := c) (hr.below hb hB) (Nat.le_trans hB hb.size) (by omega) (fun l hl => by have := (HRa.out l hl).2.1; omega)
    have q1 : (a.d != b.d) = false := by simp [hd]
    have q2 : (a.n != b.n) = false := by simp [hn]
    have kz := Blk.new2 w (.cells #[.int .i64 a.d, .int .i64 a.n, .slice A a.c.length c] 25) (.cells #[.int .i64 b.d, .int .i64 b.n, .slice A2 b.c.length c2] 25) 25 #[.int .i64 0, .int .i64 0, .slice none 0 0]
    have ka := ((Blk.new w 25 #[.int .i64 a.d, .int .i64 a.n, .slice A a.c.length c]).alloc (.cells #[.int .i64 b.d, .int .i64 b.n, .slice A2 b.c.length c2] 25)).alloc (.cells #[.int .i64 0, .int .i64 0, .slice none 0 0] 25)
    have kb := (Blk.new1 w (.cells #[.int .i64 a.d, .int .i64 a.n, .slice A a.c.length c] 25) 25 #[.int .i64 b.d, .int .i64 b.n, .slice A2 b.c.length c2]).alloc (.cells #[.int .i64 0, .int .i64 0, .slice none 0 0] 25)
    have bb := below_alloc (below_alloc (below_alloc (Below.refl w.heap.size w) (.cells #[.int .i64 a.d, .int .i64 a.n, .slice A a.c.length c] 25)) (.cells #[.int .i64 b.d, .int .i64 b.n, .slice A2 b.c.length c2] 25)) (.cells #[.int .i64 0, .int .i64 0, .slice none 0 0] 25)
    have hal : a.c.length ≤ 256 := by omega
    have hbl : b.c.length ≤ 256 := by omega
    clear hok ha hb hra hrb hah hbh hd hn
    generalize joinK a b = JK at *
    generalize joinC a b = JC at *
    generalize hJB : joinB a b = JB at *
    generalize hJP : joinP a b = JP at *
    obtain ⟨ad, an, ac⟩ := a
    obtain ⟨bd, bn, bc⟩ := b
    simp only [palV] at *
    replace HMy := Lib.hid HMy
    replace HMy2 := Lib.hid HMy2
    replace HCl := Lib.hid HCl
    have HJE := Lib.hid (And.intro hJB hJP)
    clear hJB hJP
    go_enter Try.func43, Try.ntmps43
    go_upto_region 1 with fail
    generalize ((w.alloc (.cells #[.int .i64 ad, .int .i64 an, .slice A ac.length c] 25)).alloc (.cells #[.int .i64 bd, .int .i64 bn, .slice A2 bc.length c2] 25)).alloc (.cells #[.int .i64 0, .int .i64 0, .slice none 0 0] 25) = w0 at *
    have x0 := ka.cell 0
    have x1 := ka.cell 1
    have x2 := ka.cell 2
    go_upto_region 3 with (first
      | (go_at_call 28; (with_reducible refine (HMy.out _ bb).mono ?_); rintro e w1 ⟨rfl, hb1⟩; have kb1 := kb.below hb1 kb.lt; have v0 := kb1.cell 0; have v1 := kb1.cell 1; have v2 := kb1.cell 2; have b01 := Lib.hid (below_then bb hb1))
      | (go_at_call 28; (with_reducible refine (HMy2.out _ b01.out).mono ?_); rintro e w2 ⟨rfl, hb2⟩; have b12 := hb1.trans (hb2.mono hb1.size); have ka2 := ka.below b12 ka.lt; have kb2 := kb.below b12 kb.lt; have x0 := ka2.cell 0; have x1 := ka2.cell 1; have x2 := ka2.cell 2; have v0 := kb2.cell 0; have v1 := kb2.cell 1))
    have kz2 := kz.below b12 kz.lt
    have bb2 := below_then b01.out hb2
    clear v0 v1 v2 kb1 b01 hb1 hb2 ka kb kz b12 HMy HMy2 q1 q2 bb
    have HFi := Lib.hid (fun (W : World) (hb : Below w.heap.size w W) (A9 : Option Addr) (c9 : Nat) (r : List Int) (h : RdI W B .i64 A9 r) => find_any (cc := c) (c2 := c9) (hr.below hb hB) h h63)
    go_upto_region 4 with (first
      | (go_at_call 62; (with_reducible refine (HCl.out _ bb2).mono ?_); rintro e w3 ⟨A3, c3, rfl, hc3, hO3, hb3⟩))
    have HFn := Lib.hid (show ∀ x, (x ∈ ac → 0 ≤ findI ac x) ∧ (x ∉ ac → findI ac x = -1) from fun x => ⟨fun h => by rw [findI, if_pos h]; omega, fun h => by rw [findI, if_neg h]⟩)
    have hw0 := bb2.size
    have ka3 := ka2.below hb3 ka2.lt
    have kb3 := kb2.below hb3 kb2.lt
    have hka2 := ka2.lt
    have hkb2 := kb2.lt
    have hkz2 := kz2.lt
    have HO3 := Lib.hid hO3
    clear hO3 x0 x1 x2
    have v2 := kb3.cell 2
    go_wp2
    clear v2
    go_loopw [6, 7] (fun v iv w6 => ∃ i : Nat, i ≤ bc.length ∧ iv = .int .i64 i ∧ OwnG IsR 1 22 w6 w2.heap.size (fun x => w2.heap.size ≤ x ∧ x < w6.heap.size) v (JK i) ∧ Below w2.heap.size w2 w6) (fun _ iv _ => bc.length - (intOf iv).toNat)
    case atStart => exact ⟨0, Nat.zero_le _, rfl, by rw [HJ0.out]; exact HO3.out, hb3⟩
    case round =>
      obtain ⟨i, hi, rfl, hO, hb6⟩ := hrel
      have HO := Lib.hid hO
      clear hO
      have b06 := below_then bb2 hb6
      have hs6 := hb6.size
      have kar := ka2.below hb6 hka2
      have kbr := kb2.below hb6 hkb2
      by_cases hlt : i < bc.length
      · obtain ⟨ad9, Aj, cj, rfl, hadB, hcell, hcj, hrj⟩ := (hr2.below b06 hB) i hlt
        obtain ⟨r1, r2, _, _⟩ := HRb.out _ (mem_getD hlt)
        have hs06 := b06.size
        have HJi2 := Lib.hid (HJi.out i hlt)
        have HJo2 := Lib.hid (HJo.out i hlt)
        have HF := Lib.hid (fun n => quiet_more (HFi.out (wr.drewN n) (below_drewN b06 n) Aj cj (bc.getD i []) (hrj.below (below_drewN (Below.refl wr.heap.size wr) n) (Nat.le_trans hB hs06))))
        have x2 := kar.cell 2
        have v2 := kbr.cell 2
        have HRj := Lib.hid hrj
        clear r1 hrj
        generalize bc.getD i [] = r at *
        have hlti : (i : Int) < (bc.length : Int) := by omega
        obtain ⟨hf1, hf2⟩ := HFn.out r
        generalize findI ac r = fi at *
        go_upto_region 7 with fail
        go_quiet (first
          | (go_at_call 31; with_reducible exact HF.out _))
        have hb6q := below_drewN hb6 nq
        have HOq := Lib.hid (HO.out.keep IsR.good (Mod.of_fresh (M := fun _ => False) (below_drewN (Below.refl wr.heap.size wr) nq)) (fun _ _ _ h => h) (fun _ _ h => h))
        have kbq := kbr.below (below_drewN (Below.refl wr.heap.size wr) nq) kbr.lt
        have hcellq : (wr.drewN nq).cell? (ad9.add i) = some (.slice Aj r.length cj) := hcell
        have hrq := HRj.out.below (below_drewN (Below.refl wr.heap.size wr) nq) (Nat.le_trans hB hs06)
        have hszq : (wr.drewN nq).heap.size = wr.heap.size := rfl
        clear hcell x2 v2 kar kbr HF HO HRj
        generalize wr.drewN nq = wq at *
        by_cases hin : r ∈ ac
        · have hf := hf1 hin
          have g1 : decide (fi < 0) = false := decide_eq_false (by omega)
          have HJ := Lib.hid (HJi2.out hin)
          clear hf1 hf2 hin
          go_wp2
          go_roundw
          case rel => exact ⟨i + 1, by omega, by go_num, by rw [HJ.out, hszq]; exact HOq.out, hb6q⟩
          case measure => simp [intOf]; omega
        · have hf := hf2 hin
          have g1 : decide (fi < 0) = true := decide_eq_true (by omega)
          have g0 : fi < 0 := by omega
          have HJ := Lib.hid (HJo2.out hin)
          clear hf1 hf2 hin
          have hjl : (JK i).length ≤ 512 := by have := HJl.out i; omega
          have kbe := kbq.alloc (.cells #[] 3)
          have v2 := kbe.cell 2
          have hcelle := (World.cell?_alloc_lt wq (.cells #[] 3) (ad9.add i) (by rw [add_block]; omega)).trans hcellq
          obtain ⟨Av, cv, rfl, hcv, _, hov⟩ := HOq.out.form IsR.good
          have HOv := Lib.hid hov
          have HRq := Lib.hid hrq
          have hsq := hb6q.size
          clear hov hrq hcellq
          subst hf
          have hszl := Nat.le_of_eq hszq
          have hszg := Nat.le_of_eq hszq.symm
          clear hszq
          go_wp2_with (first
            | (at_builtin; (refine wpList_append_int _ rfl (.tmp 51) (.tmp 56) _ rfl wq wq.heap.size wq.heap.size 3 .i64 8 Try.underlying22 info_int _ [] rfl (OwnI.empty _ _ _ _ (Nat.le_refl _)) _ Aj r.length cj r rfl rfl (HRq.out.alloc (by omega) _) (by simp; omega) (by omega) (below_alloc (Below.refl _ _) _) (Nat.le_refl _) (by simp) ?_); intro v5 w5 ow5 bw5; rw [List.nil_append] at ow5; obtain ⟨A5, c5, rfl, hc5, _, _⟩ := ow5.form; obtain ⟨_, _, hr5⟩ := ow5.rds; have hs5 := bw5.size; have HO5 := Lib.hid ((HOq.out.keep IsR.good (Mod.of_fresh (M := fun _ => False) bw5) (fun _ _ _ h => h) (fun _ _ h => h)).weak IsR.good (D' := fun x => w2.heap.size ≤ x ∧ x < w5.heap.size) (fun b hb _ => ⟨hb.1, by have := hb.2; omega⟩)); clear ow5)
            | (at_builtin; (refine wpList_push_G rfl (.tmp 50) (.tmp 58) _ rfl IsR.good w5 (.slice none 0 0) 24 Try.underlying23 info_ints rfl (by omega) rfl HO5.out (fun b => wq.heap.size ≤ b ∧ b < w5.heap.size) _ 1 [.slice A5 r.length c5] r rfl rfl (show IsR _ _ _ _ from ⟨A5, c5, rfl, hc5, hr5.weak (fun b hb _ => ⟨hb.1, hb.2.1⟩)⟩) (fun x => w2.heap.size ≤ x ∧ x ≤ w5.heap.size) (fun b hb _ => ⟨hb.1, Nat.le_of_lt hb.2⟩) (fun b hb _ => ⟨by have := hb.1; omega, Nat.le_of_lt hb.2⟩) (fun b hb h => by have h1 := (HOv.out b hb).2; have h2 := h.1; omega) (fun b hb => hb.2) ⟨by omega, Nat.le_refl _⟩ (by omega) (by omega) ?_); intro v8 w8 ow8 hg8 hv8))
          have hs8 := hg8.size
          simp at hs8
          have b8 : Below w2.heap.size w2 w8 := hb6q.trans (Below.grown (below_alloc bw5 _ |>.mono (by omega)) hg8 (by simp; omega) (fun b hb => (HOv.out b hb).1))
          have HO8 := Lib.hid (ow8.weak IsR.good (D' := fun x => w2.heap.size ≤ x ∧ x < w8.heap.size) (fun b hb hl => ⟨hb.1, hl⟩))
          go_roundw
          case rel => exact ⟨i + 1, by omega, by go_num, by rw [HJ.out]; exact HO8.out, b8⟩
          case measure => simp [intOf]; omega
      · have hie : i = bc.length := by omega
        subst hie
        have hO := HO.out
        rw [HJf.out] at hO
        obtain ⟨Av, cv, rfl, hcv, hrdv, hov⟩ := hO.form IsR.good
        have HO9 := Lib.hid hO
        have HOv := Lib.hid hov
        have v2 := kbr.cell 2
        have x0 := kar.cell 0
        have x1 := kar.cell 1
        have kz6 := kz2.below hb6 hkz2
        have y0 := kz6.cell 0
        have y1 := kz6.cell 1
        have y2 := kz6.cell 2
        have f0 := kz6.frozen 0
        have f1 := kz6.frozen 1
        have f2 := kz6.frozen 2
        clear hO hrdv hov
        by_cases h256 : JC.length ≤ 256
        · have HE := Lib.hid (HYes.out h256)
          have g1 : decide ((256 : Int) < (JC.length : Int)) = false := decide_eq_false (by omega)
          clear h256
          go_wp2
          refine bodyPost_ret (v := .tuple #[.agg #[.int .i64 ad, .int .i64 an, .slice Av JC.length cv], .bool true]) (by simp [results, Try.results43, go_sem, y0, y1, y2]) rfl ?_
          have hm9 : Mod (· = w.heap.size + 1 + 1) wr (((wr.setCell ⟨w.heap.size + 1 + 1, 0, none⟩ (.int .i64 ad)).setCell ⟨w.heap.size + 1 + 1, 1, none⟩ (.int .i64 an)).setCell ⟨w.heap.size + 1 + 1, 2, none⟩ (.slice Av JC.length cv)) := mod_put (mod_put (mod_put (Mod.refl _ _) (fun _ => rfl)) (fun _ => rfl)) (fun _ => rfl)
          have hfin := HO9.out.keep IsR.good hm9 (fun b hb _ e => by have := hb.1; omega) (fun b hb e => by have := (HOv.out b hb).1; omega)
          obtain ⟨A9, c9, hv, _, hrd⟩ := hfin.reads IsR.good (S := fun b => b < (((wr.setCell ⟨w.heap.size + 1 + 1, 0, none⟩ (.int .i64 ad)).setCell ⟨w.heap.size + 1 + 1, 1, none⟩ (.int .i64 an)).setCell ⟨w.heap.size + 1 + 1, 2, none⟩ (.slice Av JC.length cv)).heap.size) (fun b _ hl => hl)
          simp only [Value.slice.injEq] at hv
          obtain ⟨rfl, _, rfl⟩ := hv
          have hE1 : joinB ⟨ad, an, ac⟩ ⟨bd, bn, bc⟩ = true := HJE.out.1.trans HE.out.1
          have hE2 : joinP ⟨ad, an, ac⟩ ⟨bd, bn, bc⟩ = ⟨ad, an, JC⟩ := HJE.out.2.trans HE.out.2
          refine ⟨Av, cv, by rw [hE1, hE2]; rfl, by rw [hE2]; exact hcv, by rw [hE2]; exact hrd.rdLL (fun b hb => hb), ?_⟩
          exact (b06.setCell (p := ⟨w.heap.size + 1 + 1, 0, none⟩) (by simp; omega) (.int .i64 ad)).setCell (p := ⟨w.heap.size + 1 + 1, 1, none⟩) (by simp; omega) (.int .i64 an) |>.setCell (p := ⟨w.heap.size + 1 + 1, 2, none⟩) (by simp; omega) (.slice Av JC.length cv)
        · have HNn := Lib.hid (fun w' e he hb => HNo.out w' e h256 he hb)
          have g1 : decide ((256 : Int) < (JC.length : Int)) = true := decide_eq_true (by omega)
          clear h256
          go_wp2
          refine bodyPost_ret (v := .tuple #[.agg #[.int .i64 0, .int .i64 0, .slice none 0 0], .bool false]) (by simp [results, Try.results43, go_sem, y0, y1, y2]) rfl ?_
          exact HNn.out _ _ rfl ((b06.setCell (p := ⟨w.heap.size + 1 + 1, 0, none⟩) (by simp; omega) (.int .i64 0)).setCell (p := ⟨w.heap.size + 1 + 1, 1, none⟩) (by simp; omega) (.int .i64 0) |>.setCell (p := ⟨w.heap.size + 1 + 1, 2, none⟩) (by simp; omega) (.slice none 0 0))
end Go.Proofs.Ytbbflddhbamjbaa
