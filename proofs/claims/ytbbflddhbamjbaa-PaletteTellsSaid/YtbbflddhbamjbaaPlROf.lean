/- The reference's PalOf. -/
import Derived.Test.YtbbflddhbamjbaaPlSort
import Derived.Test.YtbbflddhbamjbaaPicSame
import Derived.Deep.DeepCutAuto
import Derived.Test.YtbbflddhbamjbaaPlOf
import Derived.Test.YtbbflddhbamjbaaPlRMay
import Derived.Test.YtbbflddhbamjbaaRColour
import Derived.Test.YtbbflddhbamjbaaPicRIs
import Derived.Test.YtbbflddhbamjbaaLb
set_option linter.unusedSimpArgs false
set_option linter.unusedVariables false
namespace Go.Proofs.Ytbbflddhbamjbaa
open Go.RowKit

theorem ltL_drop {a b : List Int} {j : Nat} (ha : j < a.length) (hb : j < b.length) : ltL (a.drop j) (b.drop j) = if a.getD j 0 < b.getD j 0 then true else if b.getD j 0 < a.getD j 0 then false else ltL (a.drop (j + 1)) (b.drop (j + 1)) := by
  rw [List.drop_eq_getElem_cons ha, List.drop_eq_getElem_cons hb]
  have e1 : a.getD j 0 = a[j] := by rw [List.getD_eq_getElem?_getD, List.getElem?_eq_getElem ha]; rfl
  have e2 : b.getD j 0 = b[j] := by rw [List.getD_eq_getElem?_getD, List.getElem?_eq_getElem hb]; rfl
  rw [e1, e2]
  rfl
set_option maxHeartbeats 2000000 in
theorem below_any {w : World} {B : Nat} {A A2 : Option Addr} {c c2 : Nat} {a b : List Int} (hr : RdI w B .i64 A a) (hr2 : RdI w B .i64 A2 b) (hl : a.length = b.length) (h63 : a.length ≤ 9223372036854775807) :
    Calls Try.prog 32 #[.slice A a.length c, .slice A2 b.length c2] w fun e w' => e = .returned (.bool (ltL a b)) ∧ ∃ n, w' = w.drewN n := by
  have hlen := Lib.hid hl
  have hrl : Hid (RdI w B .i64 A2 b) := hr2
  obtain ⟨R, hR⟩ : ∃ R, ltL a b = R := ⟨_, rfl⟩
  rw [hR]
  have HR := Lib.hid (show ltL (a.drop 0) (b.drop 0) = R by rw [List.drop_zero, List.drop_zero]; exact hR)
  have HS := Lib.hid (fun j (h1 : j < a.length) => ltL_drop h1 (show j < b.length by omega))
  clear hr2 hR
  rw [← hl]
  clear hl
  go_enter Try.func32, Try.ntmps32
  go_wp2
  go_loopw [5] (fun i wr => ∃ (j n : Nat), j ≤ a.length ∧ i = .int .i64 j ∧ wr = w.drewN n ∧ ltL (a.drop j) (b.drop j) = R) (fun i _ => a.length - (intOf i).toNat)
  case atStart => exact ⟨0, 0, Nat.zero_le _, rfl, rfl, HR.out⟩
  case round =>
    obtain ⟨j, n, hj, rfl, rfl, ht⟩ := hrel
    have HT := Lib.hid ht
    clear ht
    by_cases hlt : j < a.length
    · obtain ⟨ad, rfl, _, k0⟩ := hr.at_ hlt
      obtain ⟨ad2, rfl, _, k1⟩ := hrl.out.at_ (show j < b.length by rw [← hlen.out]; exact hlt)
      have hs := HS.out j hlt
      rw [HT.out] at hs
      by_cases hx : a.getD j 0 = b.getD j 0
      · rw [hx, if_neg (Int.lt_irrefl _), if_neg (Int.lt_irrefl _)] at hs
        have HSj := Lib.hid hs
        rw [← hx] at k1
        clear hx hs
        generalize a.getD j 0 = x at k0 k1
        go_wp2
        go_quiet (fail)
        go_wp2
        go_roundw
        case rel => exact ⟨j + 1, _, by omega, by go_num, rfl, HSj.out.symm⟩
        case measure => simp [intOf]; omega
      · have hxf : (a.getD j 0 != b.getD j 0) = true := by simpa using hx
        have hd : R = decide (a.getD j 0 < b.getD j 0) := by
          rw [hs]
          by_cases h1 : a.getD j 0 < b.getD j 0
          · rw [if_pos h1, decide_eq_true h1]
          · rw [if_neg h1, if_pos (show b.getD j 0 < a.getD j 0 by omega), decide_eq_false h1]
        have HD := Lib.hid hd
        clear hs hd hx
        generalize a.getD j 0 = x at *
        generalize b.getD j 0 = y at *
        go_wp2
        go_quiet (fail)
        go_wp2
        go_quiet (fail)
        go_wp2
        go_ret
        exact ⟨ret_bool HD.out.symm, _, by rw [World.drewN_drewN, World.drewN_drewN]⟩
    · have hjl : j = a.length := by omega
      have HF := Lib.hid (show R = false by
        have h := HT.out
        rw [hjl, List.drop_length, List.drop_eq_nil_of_le (by rw [hlen.out]; exact Nat.le_refl _)] at h
        exact h.symm)
      subst hjl
      go_wp2
      go_ret
      exact ⟨ret_bool HF.out.symm, _, rfl⟩
end Go.Proofs.Ytbbflddhbamjbaa

namespace Go.Proofs.Ytbbflddhbamjbaa
open Go.RowKit

/-- l in order, and of the same ones as the colours of the first i places -/
structure SrtD (p : List (List Int)) (i : Nat) (l : List (List Int)) : Prop where
  perm : l.Perm (ddT p i)
  srt : l.Pairwise (fun a b => ltL a b = true)
theorem SrtD.zero (p : List (List Int)) : SrtD p 0 [] := ⟨List.Perm.refl _, List.Pairwise.nil⟩
theorem SrtD.len {p : List (List Int)} {i : Nat} {l : List (List Int)} (h : SrtD p i l) : l.length = (ddT p i).length := h.perm.length_eq
theorem SrtD.same {p : List (List Int)} {i : Nat} {l : List (List Int)} (h : SrtD p i l) (hc : colAt p i ∈ l) : SrtD p (i + 1) l := ⟨by rw [ddT_in (h.perm.mem_iff.1 hc)]; exact h.perm, h.srt⟩
/-- one more, laid in at k -/
theorem SrtD.ins {p : List (List Int)} {i : Nat} {l : List (List Int)} (h : SrtD p i l) (hc : colAt p i ∉ l) {k : Nat} (h1 : ∀ x ∈ l.take k, ltL x (colAt p i) = true) (h2 : ∀ x ∈ l.drop k, ltL (colAt p i) x = true) : SrtD p (i + 1) (l.take k ++ colAt p i :: l.drop k) := by
  refine ⟨?_, ?_⟩
  · rw [ddT_out (fun h9 => hc (h.perm.mem_iff.2 h9))]
    have e : (l.take k ++ colAt p i :: l.drop k).Perm (colAt p i :: l) := by
      have := List.perm_middle (a := colAt p i) (l₁ := l.take k) (l₂ := l.drop k)
      rwa [List.take_append_drop] at this
    exact e.trans ((List.Perm.cons _ h.perm).trans (List.perm_append_singleton _ _).symm)
  · have hs := h.srt
    rw [← List.take_append_drop k l, List.pairwise_append] at hs
    rw [List.pairwise_append, List.pairwise_cons]
    refine ⟨hs.1, ⟨h2, hs.2.1⟩, fun a ha b hb => ?_⟩
    rcases List.mem_cons.1 hb with rfl | hb
    · exact h1 a ha
    · exact hs.2.2 a ha b hb
theorem srt_take {l : List (List Int)} (hs : l.Pairwise (fun a b => ltL a b = true)) {k : Nat} (hk : k < l.length) {c : List Int} (h : ltL l[k] c = true) : ∀ x ∈ l.take (k + 1), ltL x c = true := fun x hx => by
  obtain ⟨j, hj, rfl⟩ := List.mem_iff_getElem.1 hx
  rw [List.length_take] at hj
  rw [List.getElem_take]
  by_cases hjk : j = k
  · subst hjk; exact h
  · exact ltL_trans (List.pairwise_iff_getElem.1 hs j k (by omega) hk (by omega)) h
theorem getLL {l : List (List Int)} {i : Nat} (h : i < l.length) : l.getD i [] = l[i] := by rw [List.getD_eq_getElem?_getD, List.getElem?_eq_getElem h]; rfl

/-- as OfPost, and the colours lie in blocks of the call's own -/
def OfPostS (w : World) (q : Pc) (most : Int) (e : Ending) (w' : World) : Prop :=
  ∃ P b A' c', e = .returned (.tuple #[palV P A' c', .bool b]) ∧ OfIs q most P b ∧ P.c.length ≤ c' ∧ RdG IsR 1 w' (fun x => w.heap.size ≤ x ∧ x < w'.heap.size) A' P.c ∧ Below w.heap.size w w'
theorem OfPostS.weak {w w' : World} {q : Pc} {most : Int} {e : Ending} (h : OfPostS w q most e w') : OfPost w q most e w' := by
  obtain ⟨P, b, A, c, h1, h2, h3, h4, h5⟩ := h
  exact ⟨P, b, A, c, h1, h2, h3, h4.rdLL (fun b hb => hb.2), h5⟩
theorem OfPostS.no {w w' : World} {q : Pc} {most : Int} {e : Ending} (h : ofOk q most = false) (he : e = .returned (.tuple #[.agg #[.int .i64 0, .int .i64 0, .slice none 0 0], .bool false])) (hb : Below w.heap.size w w') : OfPostS w q most e w' :=
  ⟨palZ, false, none, 0, he, ⟨h.symm, by rw [h]; rfl⟩, Nat.le_refl _, RdG.nil_, hb⟩

set_option maxHeartbeats 4000000 in
set_option maxRecDepth 100000 in
theorem rof_head {q : Pc} {A : Option Addr} {c : Nat} {most : Int} {w : World} {B : Nat} (hr : RdLL w B .i64 A q.p) (hB : B ≤ w.heap.size) (h63 : Len63 q.p) (h : isB q = false ∨ ¬ (1 ≤ most ∧ most ≤ 256)) :
    Calls Try.prog 10 #[picV q A c, .int .i64 most] w (OfPostS w q most) := by
  have hno : ofOk q most = false := by
    rw [ofOk]
    rcases h with h | h
    · rw [h, Bool.false_and, Bool.false_and]
    · rw [decide_eq_false h, Bool.and_false, Bool.false_and]
  have HNo := Lib.hid hno
  have HIs := fun W (hb : Below w.heap.size w W) => picis_any (c := c) (hr.below hb hB) (Nat.le_trans hB hb.size) h63
  have HB0 := Lib.hid (show Below w.heap.size w ((w.alloc (.cells #[.int .i64 q.w, .int .i64 q.h, .int .i64 q.d, .slice A q.p.length c] 30)).alloc (.cells #[.int .i64 0, .int .i64 0, .slice none 0 0] 25)) from below_alloc (below_alloc (Below.refl _ _) _) _)
  have HZ := Lib.hid (show Blk ((w.alloc (.cells #[.int .i64 q.w, .int .i64 q.h, .int .i64 q.d, .slice A q.p.length c] 30)).alloc (.cells #[.int .i64 0, .int .i64 0, .slice none 0 0] 25)) (w.heap.size + 1) 25 #[.int .i64 0, .int .i64 0, .slice none 0 0] from Blk.new1 w _ _ _)
  have hw2 : picV q A c = .agg #[.int .i64 q.w, .int .i64 q.h, .int .i64 q.d, .slice A q.p.length c] := rfl
  rw [hw2]
  have hcase : isB q = false ∨ (isB q = true ∧ most < 1) ∨ (isB q = true ∧ ¬ most < 1 ∧ 256 < most) := by
    cases hq : isB q with
    | false => exact .inl rfl
    | true =>
      rcases h with h | h
      · rw [hq] at h; cases h
      · right; simp only [true_and]; omega
  clear h hno hw2
  rcases hcase with h1 | ⟨h1, h2⟩ | ⟨h1, h2, h3⟩
  · simp only [h1] at HIs
    have HIs := Lib.hid (HIs _ HB0.out)
    clear h1
    go_enter Try.func10, Try.ntmps10
    go_wp2_with (first
      | (go_at_call 29; (with_reducible refine HIs.out.mono ?_); rintro e w1 ⟨rfl, hb1⟩; have kz := HZ.out.below hb1 (by simp); have z0 := kz.cell 0; have z1 := kz.cell 1; have z2 := kz.cell 2; have f0 := kz.frozen 0; have f1 := kz.frozen 1; have f2 := kz.frozen 2))
    refine bodyPost_ret (v := .tuple #[.agg #[.int .i64 0, .int .i64 0, .slice none 0 0], .bool false]) (by simp [results, Try.results10, go_sem, z0, z1, z2]) rfl ?_
    exact OfPostS.no HNo.out rfl (below_then HB0.out hb1 |>.setCell (by simp) _ |>.setCell (by simp) _ |>.setCell (by simp) _)
  · simp only [h1] at HIs
    have HIs := Lib.hid (HIs _ HB0.out)
    clear h1
    go_enter Try.func10, Try.ntmps10
    go_wp2_with (first
      | (go_at_call 29; (with_reducible refine HIs.out.mono ?_); rintro e w1 ⟨rfl, hb1⟩; have kz := HZ.out.below hb1 (by simp); have z0 := kz.cell 0; have z1 := kz.cell 1; have z2 := kz.cell 2; have f0 := kz.frozen 0; have f1 := kz.frozen 1; have f2 := kz.frozen 2))
    refine bodyPost_ret (v := .tuple #[.agg #[.int .i64 0, .int .i64 0, .slice none 0 0], .bool false]) (by simp [results, Try.results10, go_sem, z0, z1, z2]) rfl ?_
    exact OfPostS.no HNo.out rfl (below_then HB0.out hb1 |>.setCell (by simp) _ |>.setCell (by simp) _ |>.setCell (by simp) _)
  · simp only [h1] at HIs
    have HIs := Lib.hid (HIs _ HB0.out)
    clear h1
    go_enter Try.func10, Try.ntmps10
    go_wp2_with (first
      | (go_at_call 29; (with_reducible refine HIs.out.mono ?_); rintro e w1 ⟨rfl, hb1⟩; have kz := HZ.out.below hb1 (by simp); have z0 := kz.cell 0; have z1 := kz.cell 1; have z2 := kz.cell 2; have f0 := kz.frozen 0; have f1 := kz.frozen 1; have f2 := kz.frozen 2))
    refine bodyPost_ret (v := .tuple #[.agg #[.int .i64 0, .int .i64 0, .slice none 0 0], .bool false]) (by simp [results, Try.results10, go_sem, z0, z1, z2]) rfl ?_
    exact OfPostS.no HNo.out rfl (below_then HB0.out hb1 |>.setCell (by simp) _ |>.setCell (by simp) _ |>.setCell (by simp) _)

theorem mid_get {L : List (List Int)} {g : List Int} {k : Nat} (h0 : 0 < k) (hk : k ≤ L.length) (h : k - 1 < (L.take k ++ g :: L.drop k).length) (h' : k - 1 < L.length) : (L.take k ++ g :: L.drop k)[k - 1] = L[k - 1] := by
  rw [List.getElem_append_left (by rw [List.length_take]; omega), List.getElem_take]
theorem mid_shift {L : List (List Int)} {g : List Int} {k : Nat} (hk : k < L.length) : (L.take (k + 1) ++ g :: L.drop (k + 1)).set (k + 1) L[k] = L.take k ++ L[k] :: L.drop k := by
  have hl : (L.take (k + 1)).length = k + 1 := by rw [List.length_take]; omega
  rw [List.set_append, if_neg (by omega), hl, Nat.sub_self, List.set_cons_zero, List.take_succ_eq_append_getElem hk, List.append_assoc, List.drop_eq_getElem_cons hk]
  rfl
theorem mid_put {L : List (List Int)} {g c : List Int} {k : Nat} (hk : k ≤ L.length) : (L.take k ++ g :: L.drop k).set k c = L.take k ++ c :: L.drop k := by
  have hl : (L.take k).length = k := by rw [List.length_take]; omega
  rw [List.set_append, if_neg (by omega), hl, Nat.sub_self, List.set_cons_zero]
theorem mid_len {L : List (List Int)} {g : List Int} {k : Nat} (hk : k ≤ L.length) : (L.take k ++ g :: L.drop k).length = L.length + 1 := by
  rw [List.length_append, List.length_cons, List.length_take, List.length_drop]; omega

set_option maxHeartbeats 8000000 in
set_option maxRecDepth 100000 in
theorem rofS_any {q : Pc} {A : Option Addr} {c : Nat} {most : Int} {w : World} {B : Nat} (hr : RdLL w B .i64 A q.p) (hB : B ≤ w.heap.size) (h63 : Len63 q.p) :
    Calls Try.prog 10 #[picV q A c, .int .i64 most] w (OfPostS w q most) := by
  by_cases hq : isB q = true
  · by_cases hmo : 1 ≤ most ∧ most ≤ 256
    · obtain ⟨s1, s2, s3, s4, s5⟩ := isB_sum hq
      obtain ⟨m1, m2⟩ := mul_64 s1 s2
      obtain ⟨m, hm⟩ : ∃ m : Nat, q.w * q.h = m := ⟨(q.w * q.h).toNat, by omega⟩
      obtain ⟨nn, hnn⟩ : ∃ nn, q.p.length = nn := ⟨_, rfl⟩
      obtain ⟨mo, rfl⟩ := Int.eq_ofNat_of_zero_le (show 0 ≤ most by omega)
      have hofe : ofOk q mo = decide ((ddT q.p m).length ≤ mo) := by
        rw [ofOk, hq, decide_eq_true hmo, hm, Int.toNat_natCast, Bool.true_and, Bool.true_and]
        simp
      have HNo := Lib.hid (fun (w w' : World) (e : Ending) (h : ofOk q mo = false) (he : e = .returned (.tuple #[.agg #[.int .i64 0, .int .i64 0, .slice none 0 0], .bool false])) (hb : Below w.heap.size w w') => OfPostS.no (q := q) h he hb)
      have HYes := Lib.hid (show ∀ (c : List (List Int)), c.length ≤ mo → SrtD q.p m c → OfIs q mo ⟨q.d, nn, c⟩ true from fun c h1 h2 => by
        rw [h2.len] at h1
        refine ⟨by rw [hofe]; exact (decide_eq_true h1).symm, ?_⟩
        rw [hofe, if_pos (decide_eq_true h1)]
        exact ⟨rfl, by rw [hnn], by rw [hm, Int.toNat_natCast]; exact h2.perm, h2.srt⟩)
      have HPl : ∀ l ∈ q.p, l.length = m := fun l hl => by have := (s5 l hl).2.1; omega
      have HIs := fun W (hb : Below w.heap.size w W) => picis_any (c := c) (hr.below hb hB) (Nat.le_trans hB hb.size) h63
      simp only [hq] at HIs
      have HCo := fun i (hi : i < m) (h4 : m ≤ 4096) W (hb : Below w.heap.size w W) => colour_any (c := c) (n := i) (hr.below hb hB) (Nat.le_trans hB hb.size) (by omega) (fun l hl => by rw [HPl l hl]; exact hi) (by omega)
      have HCe : ∀ i, colL q.p i = colAt q.p i := fun _ => rfl
      have HCl := Lib.hid (show ∀ i, (colAt q.p i).length = nn from fun i => by simp [colAt, hnn])
      have HFull := Lib.hid (show ∀ i l, SrtD q.p i l → i < m → l.length = mo → colAt q.p i ∉ l → ofOk q mo = false from fun i l hs hi hl hno => by
        rw [hofe]
        refine decide_eq_false ?_
        have h1 := ddT_mono (p := q.p) (i + 1) (m - (i + 1))
        rw [ddT_out (fun h9 => hno (hs.perm.mem_iff.2 h9)), show i + 1 + (m - (i + 1)) = m by omega, List.length_append, List.length_singleton, ← hs.len] at h1
        omega)
      have HSame := Lib.hid (fun i l (h : SrtD q.p i l) (hc : colAt q.p i ∈ l) => h.same hc)
      have HIns := Lib.hid (fun i l (h : SrtD q.p i l) (hc : colAt q.p i ∉ l) k h1 h2 => h.ins hc (k := k) h1 h2)
      have HRow := Lib.hid (show ∀ i l, SrtD q.p i l → ∀ x ∈ l, x.length = nn from fun i l h x hx => by obtain ⟨j, _, rfl⟩ := ddT_mem.1 (h.perm.mem_iff.1 hx); exact HCl.out j)
      have HS0 := Lib.hid (SrtD.zero q.p)
      have HSr := Lib.hid (fun i l (h : SrtD q.p i l) => h.srt)
      have hm4 : m ≤ 4096 ∧ 1 ≤ m := by omega
      have hn4 : nn ≤ 4 ∧ 1 ≤ nn := by omega
      clear hq hofe HPl s5 h63
      obtain ⟨qw, qh, qd, qp⟩ := q
      simp only [picV] at *
      have hwr : IntKind.i64.wrap (qw * qh) = (m : Int) := by rw [hm]; exact IntWalk.i64_in _ (by omega)
      rw [hnn] at HIs HCo ⊢
      simp only [HCe] at HCo
      replace HCo := Lib.hid (fun i (hi : i < m) => HCo i hi hm4.1)
      replace HIs := Lib.hid HIs
      have g1 : decide ((mo : Int) < 1) = false := decide_eq_false (by omega)
      have g2 : decide ((256 : Int) < (mo : Int)) = false := decide_eq_false (by omega)
      clear HCe
      generalize colAt qp = CA at *
      generalize SrtD qp = SD at *
      clear hm m1 m2
      have hmo2 : mo ≤ 256 ∧ 1 ≤ mo := by omega
      clear hmo
      go_enter Try.func10, Try.ntmps10
      go_upto_region 4 with (first
        | (go_at_call 29; (with_reducible refine (HIs.out _ (by repeat (first | exact Below.refl _ _ | assumption | refine Below.drew ?_ | refine below_drewN ?_ _ | refine below_alloc ?_ _))).mono ?_); rintro e w1 ⟨rfl, hb1⟩))
      have kz := (Blk.new1 w (.cells #[.int .i64 qw, .int .i64 qh, .int .i64 qd, .slice A nn c] 30) 25 #[.int .i64 0, .int .i64 0, .slice none 0 0]).below hb1 (by simp)
      have kq := ((Blk.new w 30 #[.int .i64 qw, .int .i64 qh, .int .i64 qd, .slice A nn c]).alloc (.cells #[.int .i64 0, .int .i64 0, .slice none 0 0] 25)).below hb1 (by simp; omega)
      have bb := below_then (below_alloc (below_alloc (Below.refl w.heap.size w) _) _) hb1
      clear hb1 HIs
      have hkz := kz.lt
      have hkq := kq.lt
      go_wp2
      go_loopw [6, 7] (fun lv iv wr => ∃ (i : Nat) (L : List (List Int)), i ≤ m ∧ iv = .int .i64 i ∧ SD i L ∧ L.length ≤ mo ∧ OwnG IsR 1 22 wr w1.heap.size (fun x => w1.heap.size ≤ x ∧ x < wr.heap.size) lv L ∧ Below w1.heap.size w1 wr) (fun _ iv _ => m - (intOf iv).toNat)
      case atStart => exact ⟨0, [], Nat.zero_le _, rfl, HS0.out, Nat.zero_le _, OwnG.nil_ _ _ _ _ _ _, Below.refl _ _⟩
      case round =>
        obtain ⟨i, L, hi, rfl, hsd, hll, hown, hbr⟩ := hrel
        have HOw := Lib.hid hown
        have HSd := Lib.hid hsd
        clear hown hsd
        have kqr := kq.below hbr hkq
        obtain ⟨x0, x1, x2, x3, _⟩ := kqr.four
        have b0r := bb.trans (hbr.mono bb.size)
        have hszr := hbr.size
        obtain ⟨Al, cl, rfl, hcl, hrl, hol⟩ := HOw.out.form IsR.good
        by_cases hlt : i < m
        · have HCi := Lib.hid (HCo.out i hlt wr b0r)
          have hcl2 := HCl.out i
          have HF := Lib.hid (HFull.out i L HSd.out hlt)
          have HSm := Lib.hid (HSame.out i L HSd.out)
          have HIn := Lib.hid (HIns.out i L HSd.out)
          have HRw := Lib.hid (HRow.out i L HSd.out)
          generalize CA i = ci at *
          have HRL := Lib.hid (fun W (h : Below wr.heap.size wr W) => (hrl.below IsR.good h).rdLL (B := wr.heap.size) (fun b hb => by rcases hb with hb | hb <;> first | exact hb.1.2 | exact (hol b hb).2))
          have h63L : Len63 L := ⟨by omega, fun l hl => by rw [HRw.out l hl]; omega⟩
          have H63 := Lib.hid h63L
          clear hrl h63L
          go_upto_region 8 with (first
            | (go_at_call 30; (with_reducible refine HCi.out.mono ?_); rintro e w4 ⟨A8, c8, rfl, hc8, how8, hb4⟩))
          clear x0 x1 x2 x3
          obtain ⟨hq8, _, hr8⟩ := how8.rds
          clear hq8
          have hs4 := hb4.size
          have HFi := find_any (cc := cl) (c2 := c8) ((HRL.out w4 hb4).grow hs4) hr8.top H63.out
          rw [hcl2] at HFi
          have hfn := findI_neg (l := L) (c := ci)
          have hb14 := hbr.trans (hb4.mono hszr)
          have HO4 := Lib.hid ((HOw.out.keep IsR.good (Mod.of_fresh (M := fun _ => False) hb4) (fun _ _ _ h => h) (fun _ _ h => h)).weak IsR.good (D' := fun x => w1.heap.size ≤ x ∧ x < w4.heap.size) (fun b hb _ => ⟨hb.1, Nat.lt_of_lt_of_le hb.2 hs4⟩))
          by_cases hin : ci ∈ L
          · have q1 : decide (0 ≤ findI L ci) = true := decide_eq_true (hfn.2 hin)
            have HS := Lib.hid (HSm.out hin)
            replace HFi := Lib.hid HFi
            clear hfn hin hr8 how8
            generalize findI L ci = fi at *
            go_wp2_with (first
              | (go_at_call 31; (with_reducible refine HFi.out.mono ?_); rintro e w5 ⟨rfl, n5, rfl⟩))
            have HO5 := Lib.hid (HO4.out.keep IsR.good (M := fun _ => False) ((Mod.refl _ w4).drewN n5) (fun _ _ _ h => h) (fun _ _ h => h))
            go_roundw
            case rel => repeat (first | exact ⟨i + 1, L, by omega, by go_num, HS.out, hll, HO5.out, below_drewN hb14 _⟩ | refine Exists.intro _ ?_)
            case measure => simp [intOf]; omega
          · have q1 : decide (0 ≤ findI L ci) = false := decide_eq_false (fun h => hin (hfn.1 h))
            replace HFi := Lib.hid HFi
            have HNi := Lib.hid hin
            clear hfn
            generalize findI L ci = fi at *
            by_cases hfull : L.length = mo
            · have q2 : ((L.length : Int) == (mo : Int)) = true := by rw [hfull]; simp
              have HNn := Lib.hid (HF.out hfull hin)
              have kz4 := kz.below hb14 hkz
              clear hfull hin hr8 how8
              have b04 := bb.trans (hb14.mono bb.size)
              go_upto_region 10 with (first
                | (go_at_call 31; (with_reducible refine HFi.out.mono ?_); rintro e w5 ⟨rfl, n5, rfl⟩))
              have kz5 := kz4.drewN n5
              have b05 := below_drewN b04 n5
              generalize w4.drewN n5 = w5 at *
              have f0 := kz5.frozen 0
              have f1 := kz5.frozen 1
              have f2 := kz5.frozen 2
              have y0 := kz5.cell 0
              have y1 := kz5.cell 1
              have y2 := kz5.cell 2
              go_wp2
              refine bodyPost_ret (v := .tuple #[.agg #[.int .i64 0, .int .i64 0, .slice none 0 0], .bool false]) (by simp [results, Try.results10, go_sem, y0, y1, y2]) rfl ?_
              exact HNo.out _ _ _ HNn.out rfl (b05 |>.setCell (by simp) _ |>.setCell (by simp) _ |>.setCell (by simp) _)
            · have q2 : ((L.length : Int) == (mo : Int)) = false := by rw [beq_eq_false_iff_ne]; omega
              have hll2 : L.length + 1 ≤ mo := by omega
              clear hfull hin how8
              go_upto_region 11 with (first
                | (go_at_call 31; (with_reducible refine HFi.out.mono ?_); rintro e w5 ⟨rfl, n5, rfl⟩))
              have hr5 : RdS (w4.drewN n5) (fun b => wr.heap.size ≤ b ∧ b < w4.heap.size ∧ (Value.slice A8 ci.length c8).ownBlock = some b) .i64 A8 ci := RdC.keep hr8 ((Mod.refl (fun _ => False) w4).drewN n5) (fun _ _ _ h => h)
              have HO5 := Lib.hid (HO4.out.keep IsR.good (M := fun _ => False) ((Mod.refl _ w4).drewN n5) (fun _ _ _ h => h) (fun _ _ h => h))
              have hb15 := below_drewN hb14 n5
              have hs5 : w4.heap.size ≤ (w4.drewN n5).heap.size := Nat.le_refl _
              clear hr8 HO4
              generalize w4.drewN n5 = w5 at *
              have hr5' := Lib.hid (hr5.weak (S' := fun b => wr.heap.size ≤ b ∧ b < w5.heap.size) (fun b hb hl => ⟨hb.1, hl⟩))
              clear hr5
              have hc8n : nn ≤ c8 := hc8
              have hcl3 := Lib.hid hcl2
              subst hcl2
              go_upto_region 13 with (first
                | (at_builtin; (refine wpList_push_G rfl (.tmp 45) (.tmp 47) _ rfl IsR.good w5 (.slice none 0 0) 24 Try.underlying23 info_ints rfl (by omega) rfl HO5.out (fun b => wr.heap.size ≤ b ∧ b < w5.heap.size) _ 1 [.slice A8 ci.length c8] ci rfl rfl (show IsR _ _ _ _ from ⟨A8, c8, rfl, hc8n, hr5'.out⟩) (fun x => w1.heap.size ≤ x ∧ x ≤ w5.heap.size) (fun b hb _ => ⟨hb.1, by have := hb.2; omega⟩) (fun b hb _ => ⟨by have := hb.1; omega, Nat.le_of_lt hb.2⟩) (fun b hb h => by have h1 := (hol b hb).2; have h2 := h.1; omega) (fun b hb => hb.2) ⟨by omega, Nat.le_refl _⟩ (by omega) (by omega) ?_); intro v6 w6 ow6 hg6 hv6))
              have hs6 := hg6.size
              simp at hs6
              have b16 : Below w1.heap.size w1 w6 := Below.grown (below_alloc hb15 _) hg6 (by simp; have := hb15.size; omega) (fun b hb => (hol b hb).1)
              have hM6 : Mod (fun b => (Value.slice Al L.length cl).ownBlock = some b) w5 w6 := ((Mod.refl _ w5).alloc _).then_ (Mod.of_grown hg6 (fun b e _ => e))
              have hr6 : RdS w6 (fun b => wr.heap.size ≤ b ∧ b < w5.heap.size) .i64 A8 ci := RdC.keep hr5'.out hM6 (fun b hb _ h => by have h1 := (hol b h).2; have h2 := hb.1; omega)
              obtain ⟨gb, cb, hv, hgb1, hgb2, hcb, _, _, _⟩ := ow6.row1 IsR.good (by simp)
              rw [List.length_append, List.length_singleton] at hv hcb
              subst hv
              have hgbx : gb < wr.heap.size ∨ gb = w5.heap.size + 1 := by
                rcases hv6 with h | h
                · exact .inl (hol gb h.symm).2
                · right; simpa [Value.ownBlock] using h
              have hgbn : ¬ (wr.heap.size ≤ gb ∧ gb < w5.heap.size) := by omega
              have hw1r : w1.heap.size ≤ wr.heap.size := hszr
              have hIsR : ∀ W, Mod (· = gb) w6 W → IsR W (fun b => (w1.heap.size ≤ b ∧ b ≤ w5.heap.size) ∧ some gb ≠ some b) [.slice A8 ci.length c8] ci := fun W hM => ⟨A8, c8, rfl, hc8n, (RdC.keep hr6 hM (fun b hb _ e => hgbn (e ▸ hb)) : RdS W (fun b => wr.heap.size ≤ b ∧ b < w5.heap.size) .i64 A8 ci).weak (fun b hb _ => ⟨⟨by have := hb.1; omega, by have := hb.2; omega⟩, fun e => by injection e with e; exact hgbn (e ▸ hb)⟩)⟩
              have hCr : ∀ W, Mod (· = gb) w6 W → RdI W W.heap.size .i64 A8 ci := fun W hM => RdS.top (S := fun b => wr.heap.size ≤ b ∧ b < w5.heap.size) (RdC.keep hr6 hM (fun b hb _ e => hgbn (e ▸ hb)))
              have hFin : ∀ W k g, k ≤ L.length → OwnG IsR 1 22 W w1.heap.size (fun x => w1.heap.size ≤ x ∧ x ≤ w5.heap.size) (.slice (some ⟨gb, 0, none⟩) (L.length + 1) cb) (L.take k ++ g :: L.drop k) → Mod (· = gb) w6 W →
                  (∃ u, W.cell? ⟨gb, k, none⟩ = some u) ∧ W.frozen? ⟨gb, k, none⟩ = false ∧ OwnG IsR 1 22 (W.setCell ⟨gb, k, none⟩ (.slice A8 ci.length c8)) w1.heap.size (fun x => w1.heap.size ≤ x ∧ x < (W.setCell ⟨gb, k, none⟩ (.slice A8 ci.length c8)).heap.size) (.slice (some ⟨gb, 0, none⟩) (L.length + 1) cb) (L.take k ++ ci :: L.drop k) ∧ Below w1.heap.size w1 (W.setCell ⟨gb, k, none⟩ (.slice A8 ci.length c8)) := fun W k g hk hO hM => by
                obtain ⟨g', c', hv', _, _, _, hfz, hget, hset⟩ := hO.row1 IsR.good (by rw [mid_len hk]; omega)
                simp only [Value.slice.injEq, Option.some.injEq, Addr.mk.injEq, and_true] at hv'
                obtain ⟨rfl, _, rfl⟩ := hv'
                obtain ⟨u, hu, _⟩ := hget k (by rw [mid_len hk]; omega)
                have h1 := hset k _ ci (hIsR W hM)
                rw [mid_put hk] at h1
                have hMs := hM.size
                refine ⟨⟨u, hu⟩, hfz k, h1.weak IsR.good (fun b hb _ => ⟨hb.1, by have := hb.2; simp; omega⟩), below_put (b16.trans (hM.below (by have := b16.size; omega) (fun b hb => by omega))) hgb1⟩
              have HFin := Lib.hid hFin
              have HIsR := Lib.hid hIsR
              have HCr := Lib.hid hCr
              have HO6 := Lib.hid ow6
              have hcln := hcl3.out
              have HInn := Lib.hid (HIn.out HNi.out)
              have HSt := Lib.hid (show L.Pairwise (fun a b => ltL a b = true) from HSr.out i L HSd.out)
              clear hFin hIsR hCr ow6 hg6 hv6 hr6 hM6 HO5 hr5' hgbx hgbn
              obtain ⟨wo, rfl⟩ : ∃ wo : World, wo = wr := ⟨_, rfl⟩
              go_wp2
              go_loopw [9] (fun kv w7 => ∃ (k : Nat) (g : List Int), k ≤ L.length ∧ kv = .int .i64 k ∧ OwnG IsR 1 22 w7 w1.heap.size (fun x => w1.heap.size ≤ x ∧ x ≤ w5.heap.size) (.slice (some ⟨gb, 0, none⟩) (L.length + 1) cb) (L.take k ++ g :: L.drop k) ∧ (∀ x ∈ L.drop k, ltL ci x = true) ∧ Mod (· = gb) w6 w7) (fun kv _ => (intOf kv).toNat)
              case atStart => exact ⟨L.length, ci, Nat.le_refl _, rfl, by rw [List.take_length, List.drop_length]; exact HO6.out, by simp, Mod.refl _ _⟩
              case round =>
                obtain ⟨k, g, hk, rfl, hO, hgt, hM⟩ := hrel
                have HGt := Lib.hid hgt
                have HOk := Lib.hid hO
                have hMs := hM.size
                have hcw := HCr.out wr hM
                clear hgt
                rcases Nat.eq_zero_or_pos k with hk0 | hk0
                · subst hk0
                  obtain ⟨⟨u0, hu0⟩, hf0, hO9, hb9⟩ := HFin.out wr 0 g hk hO hM
                  have HS := Lib.hid (HInn.out 0 (by simp) HGt.out)
                  have HO9 := Lib.hid hO9
                  clear hO hO9
                  go_wp2
                  go_roundw
                  case rel => exact ⟨i + 1, _, by omega, by go_num, HS.out, by rw [mid_len (Nat.zero_le _)]; exact hll2, HO9.out, hb9⟩
                  case measure => simp [intOf]; omega
                · obtain ⟨k', rfl⟩ : ∃ k', k = k' + 1 := ⟨k - 1, by omega⟩
                  have hk' : k' < L.length := by omega
                  obtain ⟨g', c', hv', _, _, _, hfz, hget, _⟩ := hO.row1 IsR.good (by rw [mid_len hk]; omega)
                  simp only [Value.slice.injEq, Option.some.injEq, Addr.mk.injEq, and_true] at hv'
                  obtain ⟨hg', hv1, hv2⟩ := hv'
                  subst hg'
                  clear hv1 hv2
                  obtain ⟨u1, hu1, A1, c1, he1, hc1, hr1⟩ := hget k' (by rw [mid_len hk]; omega)
                  obtain ⟨u2, hu2, _⟩ := hget (k' + 1) (by rw [mid_len hk]; omega)
                  have hmg := mid_get (L := L) (g := g) (k := k' + 1) (by omega) hk (by rw [mid_len hk]; omega) hk'
                  simp only [Nat.add_sub_cancel] at hmg
                  rw [hmg] at he1 hc1 hr1
                  injection he1 with he1 _
                  subst he1
                  have hln : L[k'].length = ci.length := by rw [HRw.out _ (List.getElem_mem hk')]
                  have HBl := Lib.hid (below_any (c := c8) (c2 := c1) hcw hr1.top hln.symm (by omega))
                  rw [hln] at hu1 HBl
                  have HLn := Lib.hid hln
                  have e1 : IntKind.i64.wrap (((k' + 1 : Nat) : Int) - 1) = (k' : Int) := by rw [IntWalk.i64_in _ (by omega)]; omega
                  have e2 : decide ((0 : Int) < ((k' + 1 : Nat) : Int)) = true := decide_eq_true (by omega)
                  have HLt := Lib.hid (show ltL ci L[k'] = ltL ci L[k'] from rfl)
                  clear HLt
                  cases hlt9 : ltL ci L[k'] with
                  | true =>
                    rw [hlt9] at HBl
                    have HGt2 := Lib.hid (show ∀ x ∈ L.drop k', ltL ci x = true from fun x hx => by
                      rw [List.drop_eq_getElem_cons hk'] at hx
                      rcases List.mem_cons.1 hx with e | hx
                      · rw [e]; exact hlt9
                      · exact HGt.out x hx)
                    clear hlt9 hmg hO
                    go_upto_region 14 with (first
                      | (go_at_call 32; (with_reducible refine HBl.out.mono ?_); rintro e w7 ⟨rfl, n7, rfl⟩))
                    have hM7 : Mod (· = gb) w6 (wr.drewN n7) := hM.drewN n7
                    have hO7 := HOk.out.keep IsR.good (M := fun _ => False) ((Mod.refl _ wr).drewN n7) (fun _ _ _ h => h) (fun _ _ h => h)
                    obtain ⟨g', c', hv', _, _, _, hfz7, hget7, hset7⟩ := hO7.row1 IsR.good (by rw [mid_len hk]; omega)
                    simp only [Value.slice.injEq, Option.some.injEq, Addr.mk.injEq, and_true] at hv'
                    obtain ⟨hg', hv1, hv2⟩ := hv'
                    subst hg'
                    clear hv1 hv2
                    have hr7 : IsR (wr.drewN n7) (fun b => (w1.heap.size ≤ b ∧ b ≤ w5.heap.size) ∧ some gb ≠ some b) [.slice A1 ci.length c1] L[k'] := ⟨A1, c1, by rw [HLn.out], hc1, RdC.keep hr1 ((Mod.refl (fun _ => False) wr).drewN n7) (fun _ _ _ h => h)⟩
                    have hst7 := hset7 (k' + 1) _ _ hr7
                    rw [mid_shift hk'] at hst7
                    have HSt7 := Lib.hid hst7
                    have hu17 : (wr.drewN n7).cell? ⟨gb, k', none⟩ = some (.slice A1 ci.length c1) := hu1
                    have hu27 : (wr.drewN n7).cell? ⟨gb, k' + 1, none⟩ = some u2 := hu2
                    have hf7 := hfz7 (k' + 1)
                    have HM7 := Lib.hid (mod_put (off := k' + 1) (u := .slice A1 ci.length c1) hM7 (fun _ => rfl))
                    have hkl : (k' : Int) < (L.length : Int) + 1 := by omega
                    have hkl2 : ((k' + 1 : Nat) : Int) < (L.length : Int) + 1 := by omega
                    clear hO7 hget7 hset7 hst7 hr7 hM7 hu1 hu2 hcw hr1
                    generalize wr.drewN n7 = w7 at *
                    go_wp2
                    go_roundw
                    case rel => exact ⟨k', L[k'], by omega, rfl, HSt7.out, HGt2.out, HM7.out⟩
                    case measure => simp [intOf]
                  | false =>
                    rw [hlt9] at HBl
                    have hlc : ltL L[k'] ci = true := by
                      cases h9 : ltL L[k'] ci with
                      | true => rfl
                      | false => exact absurd (ltL_tri hlt9 h9 ▸ List.getElem_mem hk') HNi.out
                    have HTk := Lib.hid (srt_take HSt.out hk' hlc)
                    clear hlt9 hmg hO hlc
                    go_upto_region 16 with (first
                      | (go_at_call 32; (with_reducible refine HBl.out.mono ?_); rintro e w7 ⟨rfl, n7, rfl⟩))
                    have hM7 : Mod (· = gb) w6 (wr.drewN n7) := hM.drewN n7
                    have hO7 := HOk.out.keep IsR.good (M := fun _ => False) ((Mod.refl _ wr).drewN n7) (fun _ _ _ h => h) (fun _ _ h => h)
                    obtain ⟨⟨u0, hu0⟩, hf0, hO9, hb9⟩ := HFin.out (wr.drewN n7) (k' + 1) g hk hO7 hM7
                    have HS := Lib.hid (HInn.out (k' + 1) HTk.out HGt.out)
                    have HO9 := Lib.hid hO9
                    have hkl2 : ((k' + 1 : Nat) : Int) < (L.length : Int) + 1 := by omega
                    clear hO7 hO9 hM7 hu1 hu2 hcw hr1
                    generalize wr.drewN n7 = w7 at *
                    go_wp2
                    go_roundw
                    case rel => exact ⟨i + 1, _, by omega, by go_num, HS.out, by rw [mid_len hk]; exact hll2, HO9.out, hb9⟩
                    case measure => simp [intOf]; omega
        · have him : i = m := by omega
          subst him
          have HY := Lib.hid (HYes.out L hll HSd.out)
          clear x0 x1
          have kzr := kz.below hbr hkz
          have y0 := kzr.cell 0
          have y1 := kzr.cell 1
          have y2 := kzr.cell 2
          have f0 := kzr.frozen 0
          have f1 := kzr.frozen 1
          have f2 := kzr.frozen 2
          clear hrl
          obtain ⟨x0, x1, _, _, _⟩ := kqr.four
          go_wp2
          refine bodyPost_ret (v := .tuple #[.agg #[.int .i64 qd, .int .i64 (nn : Int), .slice Al L.length cl], .bool true]) (by simp [results, Try.results10, go_sem, y0, y1, y2]) rfl ?_
          have hm9 : Mod (· = w.heap.size + 1) wr (((wr.setCell ⟨w.heap.size + 1, 0, none⟩ (.int .i64 qd)).setCell ⟨w.heap.size + 1, 1, none⟩ (.int .i64 (nn : Int))).setCell ⟨w.heap.size + 1, 2, none⟩ (.slice Al L.length cl)) := mod_put (mod_put (mod_put (Mod.refl _ _) (fun _ => rfl)) (fun _ => rfl)) (fun _ => rfl)
          have hfin := HOw.out.keep IsR.good hm9 (fun b hb _ e => by have := hb.1; omega) (fun b hb e => by have := (hol b hb).1; omega)
          obtain ⟨A2, c2, hv, _, hrd⟩ := hfin.reads IsR.good (S := fun b => w.heap.size ≤ b ∧ b < (((wr.setCell ⟨w.heap.size + 1, 0, none⟩ (.int .i64 qd)).setCell ⟨w.heap.size + 1, 1, none⟩ (.int .i64 (nn : Int))).setCell ⟨w.heap.size + 1, 2, none⟩ (.slice Al L.length cl)).heap.size) (fun b hb hl => ⟨by
            have hb1s := bb.size
            rcases hb with hb | hb
            · exact Nat.le_trans hb1s hb.1
            · exact Nat.le_trans hb1s (hfin.own_ge b hb).1, hl⟩)
          simp only [Value.slice.injEq] at hv
          obtain ⟨rfl, _, rfl⟩ := hv
          exact ⟨⟨qd, nn, L⟩, true, _, _, rfl, HY.out, hcl, hrd, b0r |>.setCell (by simp) _ |>.setCell (by simp) _ |>.setCell (by simp) _⟩
    · exact rof_head hr hB h63 (.inr hmo)
  · exact rof_head hr hB h63 (.inl (by simpa using hq))
theorem rof_any {q : Pc} {A : Option Addr} {c : Nat} {most : Int} {w : World} {B : Nat} (hr : RdLL w B .i64 A q.p) (hB : B ≤ w.heap.size) (h63 : Len63 q.p) :
    Calls Try.prog 10 #[picV q A c, .int .i64 most] w (OfPost w q most) := (rofS_any hr hB h63).mono fun _ _ h => h.weak
end Go.Proofs.Ytbbflddhbamjbaa
