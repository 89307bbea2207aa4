/- palette.Join. -/
import Derived.Test.YtbbflddhbamjbaaPlRank
import Derived.Deep.DeepCutAuto
import Derived.Test.YtbbflddhbamjbaaPlOf
import Derived.Test.YtbbflddhbamjbaaPicLast
set_option linter.unusedSimpArgs false
set_option linter.unusedVariables false
namespace Go.Proofs.Ytbbflddhbamjbaa
open Go.RowKit
set_option maxHeartbeats 8000000 in
set_option maxRecDepth 100000 in
theorem palclone_any {P : Pal} {A : Option Addr} {c : Nat} {w : World} {B : Nat} (hr : RdLL w B .i64 A P.c) (hB : B ≤ w.heap.size) (hn : P.c.length ≤ 1000000) (hrow : ∀ l ∈ P.c, l.length ≤ 1000000) :
    Calls Try.prog 52 #[palV P A c] w fun e w' => ∃ A' c', e = .returned (palV P A' c') ∧ P.c.length ≤ c' ∧ OwnG IsR 1 22 w' w.heap.size (fun x => w.heap.size ≤ x ∧ x < w'.heap.size) (.slice A' P.c.length c') P.c ∧ Below w.heap.size w w' := by
  obtain ⟨d, n, cs⟩ := P
  simp only [palV] at *
  have HRw := Lib.hid hrow
  have HPs := Lib.hid (fun r (hr : r < cs.length) => preC_set (os := cs) hr)
  have HPn := Lib.hid (fun r (hr : r ≤ cs.length) => preC_len (os := cs) hr)
  have HP0 := Lib.hid (preC_zero cs)
  have HPf := Lib.hid (preC_full cs)
  obtain ⟨M, hM⟩ : ∃ M, cs.length = M := ⟨_, rfl⟩
  have HM := Lib.hid hM
  rw [hM] at hn ⊢
  have hmh := fun W => run_make_one (P := Try.prog) W 23 Try.underlying23 info_ints (z := .slice none 0 0) rfl (by omega) .i64 M (by omega)
  have kp := (Blk.new w 25 #[.int .i64 d, .int .i64 n, .slice A M c]).alloc (.cells #[.int .i64 0, .int .i64 0, .slice none 0 0] 25)
  have kz := Blk.new1 w (.cells #[.int .i64 d, .int .i64 n, .slice A M c] 25) 25 #[.int .i64 0, .int .i64 0, .slice none 0 0]
  have bb := below_alloc (below_alloc (Below.refl w.heap.size w) (.cells #[.int .i64 d, .int .i64 n, .slice A M c] 25)) (.cells #[.int .i64 0, .int .i64 0, .slice none 0 0] 25)
  clear hM hrow
  go_enter Try.func52, Try.ntmps52
  go_upto_region 1 with fail
  generalize (w.alloc (.cells #[.int .i64 d, .int .i64 n, .slice A M c] 25)).alloc (.cells #[.int .i64 0, .int .i64 0, .slice none 0 0] 25) = w5 at *
  have hkp := kp.lt
  have hkz := kz.lt
  have p0 := kp.cell 0
  have p1 := kp.cell 1
  have p2 := kp.cell 2
  go_upto_region 2 with fail
  have hm0 := OwnG.made (R := IsR) (e := 22) (base := w5.heap.size) (D := fun x => w5.heap.size ≤ x ∧ x < w5.heap.size + 1) w5 (Nat.le_refl _) (n := M) (by omega) (z := .slice none 0 0) (x := []) (fun W' S => ⟨none, 0, rfl, Nat.le_refl _, RdS.nil_⟩)
  have b56 := below_alloc (Below.refl w5.heap.size w5) (.cells (Array.replicate M (.slice none 0 0)) 22)
  have hs6 : w5.heap.size < (w5.alloc (.cells (Array.replicate M (.slice none 0 0)) 22)).heap.size := by simp
  generalize w5.alloc (.cells (Array.replicate M (.slice none 0 0)) 22) = w6 at *
  have hM0 : OwnG IsR 1 22 w6 w5.heap.size (fun x => w5.heap.size ≤ x ∧ x < w6.heap.size) (.slice (some ⟨w5.heap.size, 0, none⟩) M M) (preC cs 0) := by
    rw [HP0.out, HM.out]
    exact hm0.weak IsR.good (fun b hb hl => ⟨hb.1, hl⟩)
  have kp6 := kp.below b56 hkp
  clear hm0 hmh p0 p1 p2
  have p2 := kp6.cell 2
  go_wp2
  clear p2
  go_loopw [13] (fun iv w7 => ∃ r : Nat, r ≤ M ∧ iv = .int .i64 r ∧ OwnG IsR 1 22 w7 w5.heap.size (fun x => w5.heap.size ≤ x ∧ x < w7.heap.size) (.slice (some ⟨w5.heap.size, 0, none⟩) M M) (preC cs r) ∧ Below w5.heap.size w5 w7) (fun iv _ => M - (intOf iv).toNat)
  case atStart => exact ⟨0, Nat.zero_le _, rfl, hM0, b56⟩
  case round =>
    obtain ⟨r, hr9, rfl, hO, hb7⟩ := hrel
    have b07 := bb.trans (hb7.mono bb.size)
    have kp7 := kp.below hb7 hkp
    by_cases hlt : r < M
    · have hkM : r < cs.length := by rw [HM.out]; exact hlt
      obtain ⟨ad, Aj, cj, rfl, hadB, hcell, hcj, hrj⟩ := (hr.below b07 hB) r hkM
      have hlen := HRw.out _ (mem_getD hkM)
      have HCn := Lib.hid (clone_any Aj (cs.getD r []).length cj (cs.getD r []) rfl (by omega) wr B (by have := b07.size; omega) hrj)
      have HRe := Lib.hid (show cs.getD r [] = cs.getD r [] from rfl)
      have HO := Lib.hid hO
      have hri : (r : Int) < (M : Int) := by omega
      have e9 := HPs.out r hkM
      clear hO hrj
      generalize cs.getD r [] = row at *
      have hw57 := hb7.size
      have HAft := Lib.hid (show ∀ w8 A8 c8, OwnI w8 wr.heap.size 3 .i64 (.slice A8 row.length c8) row → Below wr.heap.size wr w8 → (∃ u, w8.cell? ⟨w5.heap.size, r, none⟩ = some u) ∧ w8.frozen? ⟨w5.heap.size, r, none⟩ = false ∧ OwnG IsR 1 22 (w8.setCell ⟨w5.heap.size, r, none⟩ (.slice A8 row.length c8)) w5.heap.size (fun x => w5.heap.size ≤ x ∧ x < w8.heap.size) (.slice (some ⟨w5.heap.size, 0, none⟩) M M) ((preC cs r).set r row) from fun w8 A8 c8 how8 hb8 => by
        have hs8 := hb8.size
        have hO8 := (HO.out.keep IsR.good (Mod.of_fresh (M := fun _ => False) hb8) (fun _ _ _ h => h) (fun _ _ h => h)).weak IsR.good (D' := fun x => w5.heap.size ≤ x ∧ x < w8.heap.size) (fun b hb _ => ⟨hb.1, by have := hb.2; omega⟩)
        have hpl := HPn.out r (by rw [HM.out]; exact hr9)
        have hrl9 := HM.out
        obtain ⟨gb, cb, hv, hgb1, hgb2, hcb, hfz, hget, hset⟩ := hO8.row1 IsR.good (by omega)
        simp only [Value.slice.injEq, Option.some.injEq, Addr.mk.injEq, and_true] at hv
        obtain ⟨rfl, _, rfl⟩ := hv
        obtain ⟨u8, hu8, _⟩ := hget r (by omega)
        obtain ⟨_, hc8, hr8⟩ := how8.rds
        exact ⟨⟨u8, hu8⟩, hfz r, hset r (.slice A8 row.length c8) row ⟨A8, c8, rfl, hc8, hr8.weak (fun b hb _ => ⟨⟨by have := hb.1; omega, hb.2.1⟩, fun e => by injection e with e; have := hb.1; have := (HO.out.own_ge w5.heap.size rfl).2; omega⟩)⟩⟩)
      have HE9 := Lib.hid e9
      clear e9
      go_wp2_with (first
        | (go_at_call 46; (with_reducible refine HCn.out.mono ?_); rintro e w8 ⟨A8, c8, rfl, how8, hb8⟩; obtain ⟨⟨u8, hu8⟩, hf8, hst⟩ := HAft.out w8 A8 c8 how8 hb8; have HSt := Lib.hid hst; clear hst how8))
      go_roundw
      case rel => exact ⟨r + 1, by omega, by go_num, by rw [← HE9.out]; exact HSt.out.weak IsR.good (fun b hb _ => ⟨hb.1, by have := hb.2; simp; omega⟩), below_put (hb7.trans (hb8.mono hb7.size)) (Nat.le_refl _)⟩
      case measure => simp [intOf]; omega
    · have hri : r = M := by omega
      subst hri
      have kz7 := (kz.below hb7 hkz)
      have p0 := kp7.cell 0
      have p1 := kp7.cell 1
      have y0 := kz7.cell 0
      have y1 := kz7.cell 1
      have y2 := kz7.cell 2
      have f0 := kz7.frozen 0
      have f1 := kz7.frozen 1
      have f2 := kz7.frozen 2
      have hrr := HM.out
      have hOf : OwnG IsR 1 22 wr w5.heap.size (fun x => w5.heap.size ≤ x ∧ x < wr.heap.size) (.slice (some ⟨w5.heap.size, 0, none⟩) r r) cs := by
        have h := HPf.out
        rw [hrr] at h
        rw [← h]; exact hO
      have HOf := Lib.hid hOf
      have HRr := Lib.hid hrr
      clear hO hOf hrr
      go_wp2
      refine bodyPost_ret (v := .agg #[.int .i64 d, .int .i64 n, .slice (some ⟨w5.heap.size, 0, none⟩) r r]) (by simp [results, Try.results52, go_sem, y0, y1, y2]) rfl ?_
      have hm9 : Mod (· = w.heap.size + 1) wr (((wr.setCell ⟨w.heap.size + 1, 0, none⟩ (.int .i64 d)).setCell ⟨w.heap.size + 1, 1, none⟩ (.int .i64 n)).setCell ⟨w.heap.size + 1, 2, none⟩ (.slice (some ⟨w5.heap.size, 0, none⟩) r r)) := mod_put (mod_put (mod_put (Mod.refl _ _) (fun _ => rfl)) (fun _ => rfl)) (fun _ => rfl)
      have hfin := (HOf.out.keep IsR.good hm9 (fun b hb _ e => by have := hb.1; omega) (fun b hb e => by simp [Value.ownBlock] at hb; omega)).base_ (base' := w.heap.size) (by omega)
      exact ⟨_, _, rfl, Nat.le_refl _, hfin.weak IsR.good (fun b hb hl => ⟨by have := hb.1; omega, hl⟩), b07 |>.setCell (by simp) _ |>.setCell (by simp) _ |>.setCell (by simp) _⟩
end Go.Proofs.Ytbbflddhbamjbaa

namespace Go.Proofs.Ytbbflddhbamjbaa
open Go.RowKit
def joinK (a b : Pal) (i : Nat) : List (List Int) := a.c ++ (b.c.take i).filter fun r => decide (r ∉ a.c)
def joinC (a b : Pal) : List (List Int) := a.c ++ b.c.filter fun r => decide (r ∉ a.c)
def joinOk (a b : Pal) : Bool := palB a && palB b && decide (a.d = b.d ∧ a.n = b.n)
def joinB (a b : Pal) : Bool := joinOk a b && decide ((joinC a b).length ≤ 256)
def joinP (a b : Pal) : Pal := if joinB a b = true then ⟨a.d, a.n, joinC a b⟩ else palZ
theorem joinK_full (a b : Pal) : joinK a b b.c.length = joinC a b := by rw [joinK, List.take_length]; rfl
theorem joinK_zero (a b : Pal) : joinK a b 0 = a.c := by simp [joinK]
theorem joinK_in {a b : Pal} {i : Nat} (hi : i < b.c.length) (h : b.c.getD i [] ∈ a.c) : joinK a b (i + 1) = joinK a b i := by
  rw [getDL hi] at h
  rw [joinK, joinK, List.take_succ_eq_append_getElem hi, List.filter_append]
  simp [h]
theorem joinK_out {a b : Pal} {i : Nat} (hi : i < b.c.length) (h : b.c.getD i [] ∉ a.c) : joinK a b (i + 1) = joinK a b i ++ [b.c.getD i []] := by
  rw [getDL hi] at h ⊢
  rw [joinK, joinK, List.take_succ_eq_append_getElem hi, List.filter_append, List.append_assoc]
  simp [h]
theorem joinK_len {a b : Pal} {i : Nat} : (joinK a b i).length ≤ a.c.length + b.c.length := by
  rw [joinK, List.length_append]
  have h1 := List.length_filter_le (fun r => decide (r ∉ a.c)) (b.c.take i)
  rw [List.length_take] at h1
  omega
theorem palB_mk {P : Pal} (h0 : headB P = true) (h1 : ∀ r ∈ P.c, ((r.length : Nat) : Int) = P.n ∧ ∀ x ∈ r, okV P.d x = true) (h2 : P.c.Nodup) : palB P = true := by
  rw [palB_iff]
  refine ⟨h0, fun i hi => ?_⟩
  have hm : P.c.getD i [] ∈ P.c := by rw [getDL hi]; exact List.getElem_mem hi
  obtain ⟨e1, e2⟩ := h1 _ hm
  simp only [rowOk, Bool.and_eq_true, decide_eq_true_eq, List.all_eq_true]
  refine ⟨⟨e1, e2⟩, fun h => ?_⟩
  obtain ⟨j, h3, h4, h5⟩ := mem_takeD h
  rw [getDL hi, getDL h4] at h5
  have := (List.getElem_inj h2).1 h5
  omega
theorem joined_may {a b : Pal} (h : joinOk a b = true) : palB ⟨a.d, a.n, joinC a b⟩ = decide ((joinC a b).length ≤ 256) := by
  rw [joinOk, Bool.and_eq_true, Bool.and_eq_true, decide_eq_true_eq] at h
  obtain ⟨⟨ha, hb⟩, hd, hn⟩ := h
  have h1 := rows_of ha
  have h2 := rows_of hb
  rw [palB_iff] at ha hb
  have h3 := ha.1
  simp only [headB, decide_eq_true_eq] at h3
  by_cases hl : (joinC a b).length ≤ 256
  · rw [decide_eq_true hl]
    refine palB_mk ?_ (fun r hr => ?_) ?_
    · simp only [headB, decide_eq_true_eq]
      refine ⟨h3.1, h3.2.1, h3.2.2.1, h3.2.2.2.1, ?_, hl⟩
      rw [joinC, List.length_append]
      omega
    · simp only [joinC, List.mem_append, List.mem_filter] at hr
      rcases hr with hr | ⟨hr, _⟩
      · exact h1.1 r hr
      · have := h2.1 r hr
        rw [← hd, ← hn] at this
        exact this
    · show (joinC a b).Nodup
      rw [joinC, List.nodup_append]
      refine ⟨h1.2, h2.2.filter _, fun x hx y hy e => ?_⟩
      subst e
      rw [List.mem_filter] at hy
      exact absurd hx (of_decide_eq_true hy.2)
  · rw [decide_eq_false hl, Bool.eq_false_iff]
    intro h9
    rw [palB_iff] at h9
    have h8 := h9.1
    simp only [headB, decide_eq_true_eq] at h8
    omega
def JoinPost (w : World) (a b : Pal) (e : Ending) (w' : World) : Prop :=
  ∃ A' c', e = .returned (.tuple #[palV (joinP a b) A' c', .bool (joinB a b)]) ∧ (joinP a b).c.length ≤ c' ∧ RdLL w' w'.heap.size .i64 A' (joinP a b).c ∧ Below w.heap.size w w'
theorem JoinPost.no {w w' : World} {a b : Pal} {e : Ending} (h : joinB a b = false) (he : e = .returned (.tuple #[.agg #[.int .i64 0, .int .i64 0, .slice none 0 0], .bool false])) (hb : Below w.heap.size w w') : JoinPost w a b e w' := by
  have hp : joinP a b = palZ := by rw [joinP, h]; rfl
  refine ⟨none, 0, ?_, ?_, ?_, hb⟩
  · rw [hp, h]; exact he
  · rw [hp]; exact Nat.le_refl _
  · rw [hp]; exact fun j hj => absurd hj (by simp [palZ])

set_option maxHeartbeats 4000000 in
set_option maxRecDepth 100000 in
theorem join_head {a b : Pal} {A A2 : Option Addr} {c c2 : Nat} {w : World} {B : Nat} (hr : RdLL w B .i64 A a.c) (hr2 : RdLL w B .i64 A2 b.c) (hB : B ≤ w.heap.size) (h : joinOk a b = false) :
    Calls Try.prog 20 #[palV a A c, palV b A2 c2] w (JoinPost w a b) := by
  have HNo := Lib.hid (fun (w' : World) (e : Ending) (he : e = .returned (.tuple #[.agg #[.int .i64 0, .int .i64 0, .slice none 0 0], .bool false])) (hb : Below w.heap.size w w') => JoinPost.no (a := a) (b := b) (by rw [joinB, h]; rfl) he hb)
  have HMy := fun W (hb : Below w.heap.size w W) => may_any (c := c) (hr.below hb hB) (Nat.le_trans hB hb.size)
  have HMy2 := fun W (hb : Below w.heap.size w W) => may_any (c := c2) (hr2.below hb hB) (Nat.le_trans hB hb.size)
  have hcase : palB a = false ∨ (palB a = true ∧ palB b = false) ∨ (palB a = true ∧ palB b = true ∧ (a.d != b.d) = true) ∨ (palB a = true ∧ palB b = true ∧ (a.d != b.d) = false ∧ (a.n != b.n) = true) := by
    rw [joinOk] at h
    cases ha : palB a with
    | false => exact .inl rfl
    | true =>
      cases hb : palB b with
      | false => exact .inr (.inl ⟨rfl, rfl⟩)
      | true =>
        rw [ha, hb] at h
        simp at h
        by_cases hd : a.d = b.d
        · exact .inr (.inr (.inr ⟨rfl, rfl, by simp [hd], by simp [h hd]⟩))
        · exact .inr (.inr (.inl ⟨rfl, rfl, by simp [hd]⟩))
  have kz := Blk.new2 w (.cells #[.int .i64 a.d, .int .i64 a.n, .slice A a.c.length c] 25) (.cells #[.int .i64 b.d, .int .i64 b.n, .slice A2 b.c.length c2] 25) 25 #[.int .i64 0, .int .i64 0, .slice none 0 0]
  have ka := ((Blk.new w 25 #[.int .i64 a.d, .int .i64 a.n, .slice A a.c.length c]).alloc (.cells #[.int .i64 b.d, .int .i64 b.n, .slice A2 b.c.length c2] 25)).alloc (.cells #[.int .i64 0, .int .i64 0, .slice none 0 0] 25)
  have kb := (Blk.new1 w (.cells #[.int .i64 a.d, .int .i64 a.n, .slice A a.c.length c] 25) 25 #[.int .i64 b.d, .int .i64 b.n, .slice A2 b.c.length c2]).alloc (.cells #[.int .i64 0, .int .i64 0, .slice none 0 0] 25)
  have bb := below_alloc (below_alloc (below_alloc (Below.refl w.heap.size w) (.cells #[.int .i64 a.d, .int .i64 a.n, .slice A a.c.length c] 25)) (.cells #[.int .i64 b.d, .int .i64 b.n, .slice A2 b.c.length c2] 25)) (.cells #[.int .i64 0, .int .i64 0, .slice none 0 0] 25)
  obtain ⟨ad, an, ac⟩ := a
  obtain ⟨bd, bn, bc⟩ := b
  simp only [palV] at *
  clear h hr hr2
  generalize palB ⟨ad, an, ac⟩ = pa at *
  generalize palB ⟨bd, bn, bc⟩ = pb at *
  have key : ∀ (W2 : World) (r : Value), Below w.heap.size w W2 → Blk W2 (w.heap.size + 1 + 1) 25 #[.int .i64 0, .int .i64 0, .slice none 0 0] → True := fun _ _ _ _ => trivial
  clear key
  rcases hcase with rfl | ⟨rfl, rfl⟩ | ⟨rfl, rfl, q1⟩ | ⟨rfl, rfl, q1, q2⟩
  all_goals
    replace HMy := Lib.hid HMy
    replace HMy2 := Lib.hid HMy2
    go_enter Try.func20, Try.ntmps20
    go_upto_region 1 with fail
    generalize ((w.alloc (.cells #[.int .i64 ad, .int .i64 an, .slice A ac.length c] 25)).alloc (.cells #[.int .i64 bd, .int .i64 bn, .slice A2 bc.length c2] 25)).alloc (.cells #[.int .i64 0, .int .i64 0, .slice none 0 0] 25) = w0 at *
    have x0 := ka.cell 0
    have x1 := ka.cell 1
    have x2 := ka.cell 2
  · go_wp2_with (first
      | (go_at_call 37; (with_reducible refine (HMy.out _ bb).mono ?_); rintro e w1 ⟨rfl, hb1⟩; have kz1 := kz.below hb1 kz.lt; have y0 := kz1.cell 0; have y1 := kz1.cell 1; have y2 := kz1.cell 2; have f0 := kz1.frozen 0; have f1 := kz1.frozen 1; have f2 := kz1.frozen 2))
    refine bodyPost_ret (v := .tuple #[.agg #[.int .i64 0, .int .i64 0, .slice none 0 0], .bool false]) (by simp [results, Try.results20, go_sem, y0, y1, y2]) rfl ?_
    exact HNo.out _ _ rfl (below_then bb hb1 |>.setCell (by simp; omega) _ |>.setCell (by simp; omega) _ |>.setCell (by simp; omega) _)
  all_goals
    go_wp2_with (first
      | (go_at_call 37; (with_reducible refine (HMy.out _ bb).mono ?_); rintro e w1 ⟨rfl, hb1⟩; have kb1 := kb.below hb1 kb.lt; have v0 := kb1.cell 0; have v1 := kb1.cell 1; have v2 := kb1.cell 2; have b01 := Lib.hid (below_then bb hb1))
      | (go_at_call 37; (with_reducible refine (HMy2.out _ b01.out).mono ?_); rintro e w2 ⟨rfl, hb2⟩; have b12 := hb1.trans (hb2.mono hb1.size); have kz1 := kz.below b12 kz.lt; have ka1 := ka.below b12 ka.lt; have kb2 := kb.below b12 kb.lt; have x0 := ka1.cell 0; have x1 := ka1.cell 1; have v0 := kb2.cell 0; have v1 := kb2.cell 1; have y0 := kz1.cell 0; have y1 := kz1.cell 1; have y2 := kz1.cell 2; have f0 := kz1.frozen 0; have f1 := kz1.frozen 1; have f2 := kz1.frozen 2))
    refine bodyPost_ret (v := .tuple #[.agg #[.int .i64 0, .int .i64 0, .slice none 0 0], .bool false]) (by simp [results, Try.results20, go_sem, y0, y1, y2]) rfl ?_
    exact HNo.out _ _ rfl (below_then bb b12 |>.setCell (by simp; omega) _ |>.setCell (by simp; omega) _ |>.setCell (by simp; omega) _)

set_option maxHeartbeats 16000000 in
set_option maxRecDepth 100000 in
theorem join_any {a b : Pal} {A A2 : Option Addr} {c c2 : Nat} {w : World} {B : Nat} (hr : RdLL w B .i64 A a.c) (hr2 : RdLL w B .i64 A2 b.c) (hB : B ≤ w.heap.size) :
    Calls Try.prog 20 #[palV a A c, palV b A2 c2] w (JoinPost w a b) := by
  cases hok : joinOk a b with
  | false => exact join_head hr hr2 hB hok
  | true =>
    have hok' := hok
    rw [joinOk, Bool.and_eq_true, Bool.and_eq_true, decide_eq_true_eq] at hok'
    obtain ⟨⟨ha, hb⟩, hd, hn⟩ := hok'
    have HNo := Lib.hid (fun (w' : World) (e : Ending) (h : ¬ (joinC a b).length ≤ 256) (he : e = .returned (.tuple #[.agg #[.int .i64 0, .int .i64 0, .slice none 0 0], .bool false])) (hb : Below w.heap.size w w') => JoinPost.no (a := a) (b := b) (by rw [joinB, hok, decide_eq_false h]; rfl) he hb)
    have HYes := Lib.hid (fun (h : (joinC a b).length ≤ 256) => (⟨by rw [joinB, hok, decide_eq_true h]; rfl, by rw [joinP, joinB, hok, decide_eq_true h]; rfl⟩ : joinB a b = true ∧ joinP a b = ⟨a.d, a.n, joinC a b⟩))
    have HJm := Lib.hid (joined_may hok)
    have HMy := fun W (hb : Below w.heap.size w W) => may_any (c := c) (hr.below hb hB) (Nat.le_trans hB hb.size)
    have HMy2 := fun W (hb : Below w.heap.size w W) => may_any (c := c2) (hr2.below hb hB) (Nat.le_trans hB hb.size)
    rw [ha] at HMy
    rw [hb] at HMy2
    have hra := rows_of ha
    have hrb := rows_of hb
    have hah := (palB_iff.1 ha).1
    have hbh := (palB_iff.1 hb).1
    simp only [headB, decide_eq_true_eq] at hah hbh
    have HRa := Lib.hid (show ∀ r ∈ a.c, r.length = a.n.toNat ∧ r.length ≤ 4 ∧ 0 < r.length ∧ Col (keyC r) from fun r hr => by
      have h1 := hra.1 r hr
      exact ⟨by omega, by omega, by omega, keyC_col fun x hx => okV_c64 hah.2.1 (h1.2 x hx)⟩)
    have HRb := Lib.hid (show ∀ r ∈ b.c, r.length = a.n.toNat ∧ r.length ≤ 4 ∧ 0 < r.length ∧ Col (keyC r) from fun r hr => by
      have h1 := hrb.1 r hr
      exact ⟨by omega, by omega, by omega, keyC_col fun x hx => okV_c64 hbh.2.1 (h1.2 x hx)⟩)
    have HNd := Lib.hid hra.2
    have HSeen := Lib.hid (show ∀ r ∈ b.c, (mget (keysL a.c) (keyC r)).getD (.bool false) = .bool (decide (r ∈ a.c)) from fun r hr => keysL_seen (n := a.n.toNat) (by omega) (fun x hx => (HRa.out x hx).1) (HRb.out r hr).1)
    have HNew := Lib.hid (show ∀ i, i < a.c.length → ∀ p ∈ keysL (a.c.take i), p.1 ≠ keyC (a.c.getD i []) from fun i hi => keysL_new (n := a.n.toNat) (by omega) (fun x hx => (HRa.out x (List.mem_of_mem_take hx)).1) (HRa.out _ (mem_getD hi)).1 (fun hm => by
      obtain ⟨j, h3, h4, h5⟩ := mem_takeD hm
      rw [getDL hi, getDL h4] at h5
      have := (List.getElem_inj HNd.out).1 h5
      omega))
    have HKs := Lib.hid (show ∀ i, i < a.c.length → keysL (a.c.take (i + 1)) = keysL (a.c.take i) ++ [(keyC (a.c.getD i []), Value.bool true)] from fun i hi => by
      rw [keysL, keysL, List.take_succ_eq_append_getElem hi, List.map_append, getDL hi]; rfl)
    have HKf := Lib.hid (show keysL (a.c.take a.c.length) = keysL a.c by rw [List.take_length])
    have HJ0 := Lib.hid (joinK_zero a b)
    have HJf := Lib.hid (joinK_full a b)
    have HJi := Lib.hid (fun i (hi : i < b.c.length) h => joinK_in (a := a) hi h)
    have HJo := Lib.hid (fun i (hi : i < b.c.length) h => joinK_out (a := a) hi h)
    have HJl := Lib.hid (fun i => joinK_len (a := a) (b := b) (i := i))
    have HCl := fun W (hb : Below w.heap.size w W) => palclone_any (c := c) (hr.below hb hB) (Nat.le_trans hB hb.size) (by omega) (fun l hl => by have := (HRa.out l hl).2.1; omega)
    have q1 : (a.d != b.d) = false := by simp [hd]
    have q2 : (a.n != b.n) = false := by simp [hn]
    have kz := Blk.new2 w (.cells #[.int .i64 a.d, .int .i64 a.n, .slice A a.c.length c] 25) (.cells #[.int .i64 b.d, .int .i64 b.n, .slice A2 b.c.length c2] 25) 25 #[.int .i64 0, .int .i64 0, .slice none 0 0]
    have ka := ((Blk.new w 25 #[.int .i64 a.d, .int .i64 a.n, .slice A a.c.length c]).alloc (.cells #[.int .i64 b.d, .int .i64 b.n, .slice A2 b.c.length c2] 25)).alloc (.cells #[.int .i64 0, .int .i64 0, .slice none 0 0] 25)
    have kb := (Blk.new1 w (.cells #[.int .i64 a.d, .int .i64 a.n, .slice A a.c.length c] 25) 25 #[.int .i64 b.d, .int .i64 b.n, .slice A2 b.c.length c2]).alloc (.cells #[.int .i64 0, .int .i64 0, .slice none 0 0] 25)
    have bb := below_alloc (below_alloc (below_alloc (Below.refl w.heap.size w) (.cells #[.int .i64 a.d, .int .i64 a.n, .slice A a.c.length c] 25)) (.cells #[.int .i64 b.d, .int .i64 b.n, .slice A2 b.c.length c2] 25)) (.cells #[.int .i64 0, .int .i64 0, .slice none 0 0] 25)
    have hal : a.c.length ≤ 256 := by omega
    have hbl : b.c.length ≤ 256 := by omega
    clear hok ha hb hra hrb hah hbh hd hn
    generalize joinK a b = JK at *
    generalize joinC a b = JC at *
    generalize hJB : joinB a b = JB at *
    generalize hJP : joinP a b = JP at *
    obtain ⟨ad, an, ac⟩ := a
    obtain ⟨bd, bn, bc⟩ := b
    simp only [palV] at *
    replace HMy := Lib.hid HMy
    replace HMy2 := Lib.hid HMy2
    replace HCl := Lib.hid HCl
    have hmk := fun W => run_makeMap (P := Try.prog) 68 W
    have HJE := Lib.hid (And.intro hJB hJP)
    clear hJB hJP
    go_enter Try.func20, Try.ntmps20
    go_upto_region 1 with fail
    generalize ((w.alloc (.cells #[.int .i64 ad, .int .i64 an, .slice A ac.length c] 25)).alloc (.cells #[.int .i64 bd, .int .i64 bn, .slice A2 bc.length c2] 25)).alloc (.cells #[.int .i64 0, .int .i64 0, .slice none 0 0] 25) = w0 at *
    have x0 := ka.cell 0
    have x1 := ka.cell 1
    have x2 := ka.cell 2
    go_upto_region 3 with (first
      | (go_at_call 37; (with_reducible refine (HMy.out _ bb).mono ?_); rintro e w1 ⟨rfl, hb1⟩; have kb1 := kb.below hb1 kb.lt; have v0 := kb1.cell 0; have v1 := kb1.cell 1; have v2 := kb1.cell 2; have b01 := Lib.hid (below_then bb hb1))
      | (go_at_call 37; (with_reducible refine (HMy2.out _ b01.out).mono ?_); rintro e w2 ⟨rfl, hb2⟩; have b12 := hb1.trans (hb2.mono hb1.size); have ka2 := ka.below b12 ka.lt; have kb2 := kb.below b12 kb.lt; have x0 := ka2.cell 0; have x1 := ka2.cell 1; have x2 := ka2.cell 2; have v0 := kb2.cell 0; have v1 := kb2.cell 1))
    have kz2 := kz.below b12 kz.lt
    have bb2 := below_then b01.out hb2
    clear v0 v1 v2 kb1 b01 hb1 hb2 ka kb kz b12 HMy HMy2 q1 q2 bb
    go_upto_region 4 with (first
      | (go_at_call 52; (with_reducible refine (HCl.out _ bb2).mono ?_); rintro e w3 ⟨A3, c3, rfl, hc3, hO3, hb3⟩))
    have hw0 := bb2.size
    have hw3 := hb3.size
    have b03 := below_then bb2 hb3
    have kj4 := Blk.new w3 25 #[.int .i64 ad, .int .i64 an, .slice A3 ac.length c3]
    have ka4 := (ka2.below hb3 ka2.lt).alloc (.cells #[.int .i64 ad, .int .i64 an, .slice A3 ac.length c3] 25)
    have kb4 := (kb2.below hb3 kb2.lt).alloc (.cells #[.int .i64 ad, .int .i64 an, .slice A3 ac.length c3] 25)
    have kz4 := (kz2.below hb3 kz2.lt).alloc (.cells #[.int .i64 ad, .int .i64 an, .slice A3 ac.length c3] 25)
    have b04 := below_alloc b03 (.cells #[.int .i64 ad, .int .i64 an, .slice A3 ac.length c3] 25)
    have hO4 := hO3.keep IsR.good ((Mod.refl (fun _ => False) w3).alloc (.cells #[.int .i64 ad, .int .i64 an, .slice A3 ac.length c3] 25)) (fun _ _ _ h => h) (fun _ _ h => h)
    obtain ⟨gj, hgj⟩ : ∃ gj, gj = w3.heap.size := ⟨_, rfl⟩
    have hs4 : (w3.alloc (.cells #[.int .i64 ad, .int .i64 an, .slice A3 ac.length c3] 25)).heap.size = gj + 1 := by rw [hgj]; simp
    have ho3 := hO3.own_ge
    rw [← hgj] at kj4 hw3 hO4 ho3 ⊢
    have hkz2 : w.heap.size + 1 + 1 < w2.heap.size := kz2.lt
    clear ka2 kb2 kz2 hb3 hO3 b03 x0 x1 x2 hgj
    generalize w3.alloc (.cells #[.int .i64 ad, .int .i64 an, .slice A3 ac.length c3] 25) = w4 at *
    have hm5 := MapC.made w4
    have b45 := below_alloc (Below.refl w4.heap.size w4) (.map #[] 0)
    have b05 := below_alloc b04 (.map #[] 0)
    have kj5 := kj4.alloc (.map #[] 0)
    have ka5 := ka4.alloc (.map #[] 0)
    have kb5 := kb4.alloc (.map #[] 0)
    have kz5 := kz4.alloc (.map #[] 0)
    have hO5 := hO4.keep IsR.good ((Mod.refl (fun _ => False) w4).alloc (.map #[] 0)) (fun _ _ _ h => h) (fun _ _ h => h)
    have hs5 : (w4.alloc (.map #[] 0)).heap.size = gj + 1 + 1 := by rw [← hs4]; simp
    rw [hs4] at hm5
    have x2 := ka5.cell 2
    go_upto_region 5 with fail
    clear kj4 ka4 kb4 kz4 hO4 hs4 b04 b45 hmk
    generalize w4.alloc (.map #[] 0) = w5 at *
    have HS5 := Lib.hid hs5
    have HO5 := Lib.hid hO5
    have HM5 := Lib.hid hm5
    clear hs5 hO5 hm5
    go_wp2
    go_loopw [41] (fun iv wr => ∃ i : Nat, i ≤ ac.length ∧ iv = .int .i64 i ∧ MapC wr (gj + 1) (keysL (ac.take i)) ∧ Mod (· = gj + 1) w5 wr) (fun iv _ => ac.length - (intOf iv).toNat)
    case atStart => exact ⟨0, Nat.zero_le _, rfl, HM5.out, Mod.refl _ _⟩
    case round =>
      obtain ⟨i, hi, rfl, hmc, hMd⟩ := hrel
      have hMc := Lib.hid hmc
      have hml := hmc.lt
      clear hmc
      have b0r := b05.trans (hMd.below (B := w.heap.size) (by have := HS5.out; omega) (fun b hb => by omega))
      have hsr := b0r.size
      by_cases hlt : i < ac.length
      · obtain ⟨ad9, Aj, cj, rfl, hadB, hcell, hcj, hrj⟩ := (hr.below b0r hB) i hlt
        obtain ⟨r1, r2, r3, r4⟩ := HRa.out _ (mem_getD hlt)
        have HKy := Lib.hid (keyof_any (c := cj) hrj (Nat.le_trans hB hsr) r3 r2)
        have HN := Lib.hid (HNew.out i hlt)
        have HKi := Lib.hid (HKs.out i hlt)
        have HC4 := Lib.hid r4
        clear r1 r2 r3 r4 hrj
        generalize ac.getD i [] = r at *
        have hlti : (i : Int) < (ac.length : Int) := by omega
        go_wp2_with (first
          | (go_at_call 53; (with_reducible refine HKy.out.mono ?_); rintro e w6 ⟨rfl, hb6⟩)
          | (at_mapUpdate; (refine wpList_put_c rfl map_cb (.tmp 45) (.tmp 47) (.const (.bool true)) rfl (b := gj + 1) (l := keysL (ac.take i)) rfl (keyC r) rfl (.bool true) rfl (hMc.out.below hb6 hml) HC4.out HN.out ?_); intro w7 hm7 hg7))
        have hM7 := hMd.then_ ((Mod.of_fresh (M := (· = gj + 1)) hb6).then_ (Mod.of_only hg7 (fun _ => rfl)))
        go_roundw
        case rel => exact ⟨i + 1, by omega, by go_num, by rw [HKi.out]; exact hm7, hM7⟩
        case measure => simp [intOf]; omega
      · have hie : i = ac.length := by omega
        subst hie
        have hMk : MapC wr (gj + 1) (keysL ac) := by rw [← HKf.out]; exact hMc.out
        have kjr := kj5.mod hMd (by omega)
        have kar := ka5.mod hMd (by omega)
        have kbr := kb5.mod hMd (by omega)
        have kzr := kz5.mod hMd (by omega)
        have hs5r := hMd.size
        have hOr := (HO5.out.keep IsR.good hMd (fun b hb _ e => by have := hb.2; omega) (fun b hb e => by have := (ho3 b hb).2; omega)).weak IsR.good (D' := fun x => w2.heap.size ≤ x ∧ x < wr.heap.size ∧ x ≠ gj) (fun b hb hl => ⟨hb.1, hl, by have := hb.2; omega⟩)
        have hlt9 : ¬ (ac.length : Int) < (ac.length : Int) := by omega
        have v2 := kbr.cell 2
        go_upto_region 10 with fail
        have HMk := Lib.hid hMk
        have HOr := Lib.hid hOr
        have HS5r := Lib.hid hs5r
        have hmlr := hMk.lt
        obtain ⟨wo, rfl⟩ : ∃ wo : World, wo = wr := ⟨_, rfl⟩
        clear hMk hOr HO5 HM5 hMc ka5 kb5 kz5 kj5 hMd hs5r HNew HKs HKf
        go_wp2
        clear v2
        go_loopw [52] (fun iv w6 => ∃ (i : Nat) (v : Value), i ≤ bc.length ∧ iv = .int .i64 i ∧ Blk w6 gj 25 #[.int .i64 ad, .int .i64 an, v] ∧ OwnG IsR 1 22 w6 w2.heap.size (fun x => w2.heap.size ≤ x ∧ x < w6.heap.size ∧ x ≠ gj) v (JK i) ∧ (∀ b, v.ownBlock = some b → b ≠ gj ∧ b ≠ gj + 1) ∧ Mod (fun b => w2.heap.size ≤ b ∧ b ≠ gj + 1) wo w6) (fun iv _ => bc.length - (intOf iv).toNat)
        case atStart => exact ⟨0, _, Nat.zero_le _, rfl, kjr, by rw [HJ0.out]; exact HOr.out, fun b hb => by have := (ho3 b hb).2; omega, Mod.refl _ _⟩
        case round =>
          obtain ⟨i, v, hi, rfl, hkj, hO, hne, hM6⟩ := hrel
          have HO := Lib.hid hO
          have HNe := Lib.hid hne
          clear hO hne
          have b06 := b0r.trans (hM6.below (B := w.heap.size) hsr (fun b hb => by omega))
          have hs6 := hM6.size
          by_cases hlt : i < bc.length
          · obtain ⟨ad9, Aj, cj, rfl, hadB, hcell, hcj, hrj⟩ := (hr2.below b06 hB) i hlt
            obtain ⟨r1, r2, r3, r4⟩ := HRb.out _ (mem_getD hlt)
            have hs06 := b06.size
            have HKy := Lib.hid (keyof_any (c := cj) hrj (Nat.le_trans hB hs06) r3 r2)
            have hmk6 := HMk.out.same (w' := wr) (hM6.block (gj + 1) hmlr (fun h => h.2 rfl))
            have hml6 := hmk6.lt
            have HLk := fun W (h : Below wr.heap.size wr W) => hmk6.look map_cb zero_b r4 W (h.block _ hml6)
            rw [HSeen.out _ (mem_getD hlt)] at HLk
            have HJi2 := Lib.hid (HJi.out i hlt)
            have HJo2 := Lib.hid (HJo.out i hlt)
            have HCn := Lib.hid (fun W (hb : Below wr.heap.size wr W) => clone_any Aj (bc.getD i []).length cj (bc.getD i []) rfl (by omega) W.drew B (Nat.le_trans (Nat.le_trans hB hs06) hb.size) (hrj.below hb.drew (Nat.le_trans hB hs06)))
            have hr24 : (bc.getD i []).length ≤ 4 := r2
            clear r1 r2 r3 r4 hrj hmk6
            generalize bc.getD i [] = r at *
            have hlti : (i : Int) < (bc.length : Int) := by omega
            by_cases hin : r ∈ ac
            · have HJ := Lib.hid (HJi2.out hin)
              rw [decide_eq_true hin] at HLk
              replace HLk := Lib.hid HLk
              clear hin
              go_wp2_with (first
                | (go_at_call 53; (with_reducible refine HKy.out.mono ?_); rintro e w7 ⟨rfl, hb7⟩; have hlk := HLk.out _ hb7))
              have hs7 := hb7.size
              have HO7 := Lib.hid ((HO.out.keep IsR.good (Mod.of_fresh (M := fun _ => False) hb7) (fun _ _ _ h => h) (fun _ _ h => h)).weak IsR.good (D' := fun x => w2.heap.size ≤ x ∧ x < w7.heap.size ∧ x ≠ gj) (fun b hb hl => ⟨hb.1, hl, hb.2.2⟩))
              have hkj7 := hkj.below hb7 hkj.lt
              have hM7 := hM6.then_ (Mod.of_fresh hb7)
              go_roundw
              case rel => exact ⟨i + 1, v, by omega, by go_num, hkj7, by rw [HJ.out]; exact HO7.out, HNe.out, hM7⟩
              case measure => simp [intOf]; omega
            · have HJ := Lib.hid (HJo2.out hin)
              rw [decide_eq_false hin] at HLk
              replace HLk := Lib.hid HLk
              clear hin
              go_upto_region 14 with (first
                | (go_at_call 53; (with_reducible refine HKy.out.mono ?_); rintro e w7 ⟨rfl, hb7⟩; have hlk := HLk.out _ hb7))
              have hs7 := hb7.size
              have hb67 := hM6.then_ (Mod.of_fresh (M := fun b => w2.heap.size ≤ b ∧ b ≠ gj + 1) hb7)
              have hkj7 := hkj.below hb7 hkj.lt
              have hkj7l := hkj7.lt
              have HO7 := (HO.out.keep IsR.good (Mod.of_fresh (M := fun _ => False) hb7) (fun _ _ _ h => h) (fun _ _ h => h)).weak IsR.good (D' := fun x => w2.heap.size ≤ x ∧ x < w7.heap.size ∧ x ≠ gj) (fun b hb hl => ⟨hb.1, hl, hb.2.2⟩)
              obtain ⟨Av, cv, rfl, hcv, _, hov⟩ := HO7.form IsR.good
              have HO7 := Lib.hid HO7
              have z2 := hkj7.cell 2
              have hzf := hkj7.frozen 2
              have hHCn := Lib.hid (HCn.out _ hb7)
              have hjl : (JK i).length ≤ 512 := by have := HJl.out i; omega
              clear hlk HLk HKy HCn
              refine wp_region_last (S := (fun w' => w'.cell? ⟨gj, 2, none⟩ = some (.slice Av (JK i).length cv))) 7 _ (by simp only [List.pop_toArray, List.dropLast_cons_cons, List.dropLast_singleton]; rfl) (by kernel_rfl) (by kernel_rfl) (by kernel_rfl) (by kernel_rfl) (by kernel_rfl) ?_ (fun hHeld => ?_)
              focus exact z2
              refine wpAnyH_take (i := 0) (v := ?_) rfl (by kernel_rfl) (by kernel_rfl) (by kernel_rfl) (fun _ _ _ h => h) (Or.inl ⟨by kernel_rfl, ?_⟩) (by assumption) ?_
              rotate_left
              focus
                intro w9 hSw
                (try dsimp only at hSw)
                go_simp
                (try with_reducible rfl)
              (try simp only [Act.put, List.getElem_toArray, List.getElem_cons_succ, List.getElem_cons_zero, List.setIfInBounds_toArray, List.set_cons_zero, List.set_cons_succ])
              refine wpAnyH_take (i := 1) (v := ?_) rfl (by kernel_rfl) (by kernel_rfl) (by kernel_rfl) (fun _ _ _ h => h) (Or.inl ⟨by kernel_rfl, ?_⟩) (by assumption) ?_
              rotate_left
              focus
                intro w9 hSw
                (try dsimp only at hSw)
                go_simp
                (try with_reducible rfl)
              (try simp only [Act.put, List.getElem_toArray, List.getElem_cons_succ, List.getElem_cons_zero, List.setIfInBounds_toArray, List.set_cons_zero, List.set_cons_succ])
              refine wpAnyH_take (i := 2) (v := ?_) rfl (by kernel_rfl) (by kernel_rfl) (by kernel_rfl) (fun _ _ _ h => h) (Or.inl ⟨by kernel_rfl, ?_⟩) (by assumption) ?_
              rotate_left
              focus
                intro w9 hSw
                (try dsimp only at hSw)
                go_simp
                (try with_reducible rfl)
              (try simp only [Act.put, List.getElem_toArray, List.getElem_cons_succ, List.getElem_cons_zero, List.setIfInBounds_toArray, List.set_cons_zero, List.set_cons_succ])
              refine wpAnyH_ready (rs := [3]) (by kernel_rfl) (by simp) (AllReadyH.cons rfl (fun K hK => ?_) AllReadyH.nil)
              go_simp
              go_at_call 46
              refine hHCn.out.mono ?_
              rintro e w8 ⟨A8, c8, rfl, how8', hb8'⟩
              have hb8 := below_undr hb8'
              have how8 : OwnI w8 w7.heap.size 3 .i64 (.slice A8 r.length c8) r := how8'
              have hs8 := hb8.size
              have hkj8 := hkj7.below hb8 hkj7l
              have z8 := hkj8.cell 2
              obtain ⟨_, hc8, hr8⟩ := how8.rds
              have HO8 := (HO7.out.keep IsR.good (Mod.of_fresh (M := fun _ => False) hb8) (fun _ _ _ h => h) (fun _ _ h => h)).weak IsR.good (D' := fun x => w2.heap.size ≤ x ∧ x < w8.heap.size ∧ x ≠ gj) (fun b hb hl => ⟨hb.1, hl, hb.2.2⟩)
              clear how8' how8 hb8'
              refine hK.out _ _ ?_ (fun hHeld => ?_)
              focus exact z8
              clear hK K
              (try simp only [Act.put, List.getElem_toArray, List.getElem_cons_succ, List.getElem_cons_zero, List.setIfInBounds_toArray, List.set_cons_zero, List.set_cons_succ])
              refine wpAnyH_ready (rs := [4]) (by kernel_rfl) (by simp) (AllReadyH.cons rfl (fun K hK => ?_) AllReadyH.nil)
              go_simp
              refine hK.out _ _ ?_ (fun hHeld => ?_)
              focus exact (hkj8.alloc _).cell 2
              clear hK K
              (try simp only [Act.put, List.getElem_toArray, List.getElem_cons_succ, List.getElem_cons_zero, List.setIfInBounds_toArray, List.set_cons_zero, List.set_cons_succ])
              refine wpAnyH_ready (rs := [5]) (by kernel_rfl) (by simp) (AllReadyH.cons rfl (fun K hK => ?_) AllReadyH.nil)
              refine step_push_G (by rfl) (.tmp 62) (.tmp 65) _ (by rfl) IsR.good w8 (.slice none 0 0) 24 Try.underlying23 info_ints (by rfl) (by omega) (by rfl) HO8 (fun b => w7.heap.size ≤ b ∧ b < w8.heap.size) _ 1 [.slice A8 r.length c8] r (by rfl) (by rfl) (show IsR _ _ _ _ from ⟨A8, c8, rfl, hc8, hr8.weak (fun b hb _ => ⟨hb.1, hb.2.1⟩)⟩) (fun x => w2.heap.size ≤ x ∧ x ≤ w8.heap.size ∧ x ≠ gj) (fun b hb _ => ⟨hb.1, Nat.le_of_lt hb.2.1, hb.2.2⟩) (fun b hb _ => ⟨by have := hb.1; omega, Nat.le_of_lt hb.2, by have := hb.1; omega⟩) (fun b hb h => by have h1 := (hov b hb).2; have h2 := h.1; omega) (fun b hb => hb.2.1) ⟨by omega, Nat.le_refl _, by omega⟩ (by omega) (by omega) ?_
              intro v9 w9 ow9 hg9 hv9
              have hs9 := hg9.size
              simp at hs9
              obtain ⟨A9, c9, hv9e, _, _⟩ := ow9.form IsR.good
              rw [List.length_append, List.length_singleton] at hv9e
              subst hv9e
              have hM79 : Mod (fun b => (Value.slice Av (JK i).length cv).ownBlock = some b) w7 w9 := ((Mod.of_fresh hb8).alloc _).then_ (Mod.of_grown hg9 (fun x e _ => e))
              have hnj : ¬ (Value.slice Av (JK i).length cv).ownBlock = some gj := fun e => (HNe.out gj e).1 rfl
              have hkj9 := hkj7.mod hM79 hnj
              have z9 := hkj9.cell 2
              have zf9 := hkj9.frozen 2
              refine hK.out _ _ ?_ (fun hHeld => ?_)
              focus exact z9
              clear hK K
              (try simp only [Act.put, List.getElem_toArray, List.getElem_cons_succ, List.getElem_cons_zero, List.setIfInBounds_toArray, List.set_cons_zero, List.set_cons_succ])
              refine wpAnyH_take (i := 6) (v := ?_) rfl (by kernel_rfl) (by kernel_rfl) (by kernel_rfl) (fun _ _ _ h => h) (Or.inl ⟨by kernel_rfl, ?_⟩) (by assumption) ?_
              rotate_left
              focus
                intro w9 hSw
                (try dsimp only at hSw)
                go_simp
                (try with_reducible rfl)
              (try simp only [Act.put, List.getElem_toArray, List.getElem_cons_succ, List.getElem_cons_zero, List.setIfInBounds_toArray, List.set_cons_zero, List.set_cons_succ])
              refine wpAnyH_done (by kernel_rfl) (lastQ_step rfl (fun K hK => ?_)) _
              go_simp
              refine hK _ _ ?_
              clear hK K
              have hk10 : Blk (w9.setCell ⟨gj, 2, none⟩ (.slice A9 ((JK i).length + 1) c9)) gj 25 #[.int .i64 ad, .int .i64 an, .slice A9 ((JK i).length + 1) c9] := hkj9.set_ 2 _
              have hne9 : ∀ b, (Value.slice A9 ((JK i).length + 1) c9).ownBlock = some b → b ≠ gj ∧ b ≠ gj + 1 := fun b hb => by
                rcases hv9 with e | e
                · exact HNe.out b (by rw [← e]; exact hb)
                · rw [e] at hb
                  injection hb with hb
                  have := HS5r.out
                  have := HS5.out
                  omega
              have hO10 := (ow9.keep IsR.good (mod_put (M := (· = gj)) (off := 2) (u := .slice A9 ((JK i).length + 1) c9) (Mod.refl _ w9) (fun _ => rfl)) (fun b hb _ e => hb.2.2 e) (fun b hb e => (hne9 b hb).1 e)).weak IsR.good (D' := fun x => w2.heap.size ≤ x ∧ x < (w9.setCell ⟨gj, 2, none⟩ (.slice A9 ((JK i).length + 1) c9)).heap.size ∧ x ≠ gj) (fun b hb hl => ⟨hb.1, hl, hb.2.2⟩)
              have hM10 : Mod (fun b => w2.heap.size ≤ b ∧ b ≠ gj + 1) wo (w9.setCell ⟨gj, 2, none⟩ (.slice A9 ((JK i).length + 1) c9)) := mod_put (hb67.then_ (hM79.mono (fun b hb _ => ⟨(hov b hb).1, (HNe.out b hb).2⟩))) (fun _ => ⟨by omega, by omega⟩)
              rw [← HJ.out] at hO10
              have hne10 := hne9
              have HO10 := Lib.hid hO10
              clear hO10 hne9 hM79 zf9 z9 hkj9 ow9 hg9 hv9 HO8 hr8 hb8 hkj8 z8 hHCn z2 hzf hHeld hov HO7
              generalize w9.setCell ⟨gj, 2, none⟩ (.slice A9 ((JK i).length + 1) c9) = w10 at *
              go_wp2
              go_roundw
              case rel => exact ⟨i + 1, _, by omega, by go_num, hk10, HO10.out, hne10, hM10⟩
              case measure => simp [intOf]; omega
          · have hie : i = bc.length := by omega
            subst hie
            have hO := HO.out
            rw [HJf.out] at hO
            obtain ⟨Av, cv, rfl, hcv, hrdv, hov⟩ := hO.form IsR.good
            have hrd := hrdv.rdLL (B := wr.heap.size) (fun b hb => by
              rcases hb with hb | hb
              · exact hb.1.2.1
              · exact (hov b hb).2)
            have HMj := may_any (P := ⟨ad, an, JC⟩) (c := cv) hrd (Nat.le_refl _)
            rw [HJm.out] at HMj
            simp only [palV] at HMj
            have HO9 := Lib.hid hO
            have z0 := hkj.cell 0
            have z1 := hkj.cell 1
            have z2 := hkj.cell 2
            have kz6 := kzr.mod hM6 (fun h => by omega)
            have hjl := HJl.out bc.length
            rw [HJf.out] at hjl
            clear hO hrdv hrd
            by_cases h256 : JC.length ≤ 256
            · rw [decide_eq_true h256] at HMj
              replace HMj := Lib.hid HMj
              have HE := Lib.hid (HYes.out h256)
              clear h256
              go_wp2_with (first
                | (go_at_call 37; (with_reducible refine HMj.out.mono ?_); rintro e w7 ⟨rfl, hb7⟩; have kz7 := kz6.below hb7 kz6.lt; have y0 := kz7.cell 0; have y1 := kz7.cell 1; have y2 := kz7.cell 2; have f0 := kz7.frozen 0; have f1 := kz7.frozen 1; have f2 := kz7.frozen 2; have kj7 := hkj.below hb7 hkj.lt; have z0 := kj7.cell 0; have z1 := kj7.cell 1; have z2 := kj7.cell 2))
              refine bodyPost_ret (v := .tuple #[.agg #[.int .i64 ad, .int .i64 an, .slice Av JC.length cv], .bool true]) (by simp [results, Try.results20, go_sem, y0, y1, y2]) rfl ?_
              have hm9 : Mod (· = w.heap.size + 1 + 1) w7 (((w7.setCell ⟨w.heap.size + 1 + 1, 0, none⟩ (.int .i64 ad)).setCell ⟨w.heap.size + 1 + 1, 1, none⟩ (.int .i64 an)).setCell ⟨w.heap.size + 1 + 1, 2, none⟩ (.slice Av JC.length cv)) := mod_put (mod_put (mod_put (Mod.refl _ _) (fun _ => rfl)) (fun _ => rfl)) (fun _ => rfl)
              have hfin := (HO9.out.keep IsR.good (Mod.of_fresh (M := fun _ => False) hb7) (fun _ _ _ h => h) (fun _ _ h => h)).keep IsR.good hm9 (fun b hb _ e => by have := hb.1; omega) (fun b hb e => by have := (hov b hb).1; omega)
              obtain ⟨A9, c9, hv, _, hrd⟩ := hfin.reads IsR.good (S := fun b => b < (((w7.setCell ⟨w.heap.size + 1 + 1, 0, none⟩ (.int .i64 ad)).setCell ⟨w.heap.size + 1 + 1, 1, none⟩ (.int .i64 an)).setCell ⟨w.heap.size + 1 + 1, 2, none⟩ (.slice Av JC.length cv)).heap.size) (fun b _ hl => hl)
              simp only [Value.slice.injEq] at hv
              obtain ⟨rfl, _, rfl⟩ := hv
              have hE1 : joinB ⟨ad, an, ac⟩ ⟨bd, bn, bc⟩ = true := HJE.out.1.trans HE.out.1
              have hE2 : joinP ⟨ad, an, ac⟩ ⟨bd, bn, bc⟩ = ⟨ad, an, JC⟩ := HJE.out.2.trans HE.out.2
              refine ⟨Av, cv, by rw [hE1, hE2]; rfl, by rw [hE2]; exact hcv, by rw [hE2]; exact hrd.rdLL (fun b hb => hb), ?_⟩
              exact ((below_then b06 hb7).setCell (p := ⟨w.heap.size + 1 + 1, 0, none⟩) (by simp; omega) (.int .i64 ad)).setCell (p := ⟨w.heap.size + 1 + 1, 1, none⟩) (by simp; omega) (.int .i64 an) |>.setCell (p := ⟨w.heap.size + 1 + 1, 2, none⟩) (by simp; omega) (.slice Av JC.length cv)
            · rw [decide_eq_false h256] at HMj
              replace HMj := Lib.hid HMj
              have HNn := Lib.hid (fun w' e he hb => HNo.out w' e h256 he hb)
              clear h256
              go_wp2_with (first
                | (go_at_call 37; (with_reducible refine HMj.out.mono ?_); rintro e w7 ⟨rfl, hb7⟩; have kz7 := kz6.below hb7 kz6.lt; have y0 := kz7.cell 0; have y1 := kz7.cell 1; have y2 := kz7.cell 2; have f0 := kz7.frozen 0; have f1 := kz7.frozen 1; have f2 := kz7.frozen 2))
              refine bodyPost_ret (v := .tuple #[.agg #[.int .i64 0, .int .i64 0, .slice none 0 0], .bool false]) (by simp [results, Try.results20, go_sem, y0, y1, y2]) rfl ?_
              exact HNn.out _ _ rfl (((below_then b06 hb7).setCell (p := ⟨w.heap.size + 1 + 1, 0, none⟩) (by simp; omega) (.int .i64 0)).setCell (p := ⟨w.heap.size + 1 + 1, 1, none⟩) (by simp; omega) (.int .i64 0) |>.setCell (p := ⟨w.heap.size + 1 + 1, 2, none⟩) (by simp; omega) (.slice none 0 0))
end Go.Proofs.Ytbbflddhbamjbaa
