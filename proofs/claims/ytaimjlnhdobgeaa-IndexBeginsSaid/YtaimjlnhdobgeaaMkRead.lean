/- index.Read: bytes whose sum is another; the bytes of marks. -/
import Derived.Test.YtaimjlnhdobgeaaMkL
import Derived.Test.YtaimjlnhdobgeaaMkBytes
import Derived.Test.YtaimjlnhdobgeaaRdNum
import Derived.Test.YtaimjlnhdobgeaaRdBig
import Derived.Test.YtaimjlnhdobgeaaRdTake
import Derived.Test.YtaimjlnhdobgeaaRdErr
import Derived.Test.YtaimjlnhdobgeaaPgLaws
import Derived.Deep.DeepCutAuto
set_option linter.unusedSimpArgs false
set_option linter.unusedVariables false
namespace Go.Proofs.Ytaimjlnhdobgeaa
open Go.RowKit

/-- Where the reader stands ahead of mark k. -/
structure MkAt (l : List Mk) (k : Nat) (s : Rs) : Prop where
  data : s.data = mkHead l
  err : s.err = 0
  le : s.at_ ≤ (mkHead l).length
  drop : (mkHead l).drop s.at_ = mkTail (endAt 0 (l.take k)) (endPg 0 (l.take k)) (l.drop k)
theorem MkAt.first {l : List Mk} (hl : l.length ≤ 1000000) : ∃ s, Rs.num ⟨mkHead l, 0, 0⟩ ((mkHead l).length : Int) = ((l.length : Int), s) ∧ MkAt l 0 s := by
  have h1 := mkTail_ge l 0 0
  have h2 := mkHead_len l
  have h3 : (mkHead l).length = (putOne l.length).length + (mkTail 0 0 l).length := by rw [mkHead, List.length_append]
  have hd : (⟨mkHead l, 0, 0⟩ : Rs).data.drop (⟨mkHead l, 0, 0⟩ : Rs).at_ = putOne l.length ++ mkTail 0 0 l := by simp [mkHead]
  refine ⟨_, num_put rfl hd (by omega) (by omega) (by omega), rfl, rfl, by simp only; omega, ?_⟩
  have := drop_put hd
  simpa [endAt, endPg] using this
theorem MkAt.step {l : List Mk} {k : Nat} {s : Rs} (h : MkAt l k s) (hk : k < l.length) (hall : mkAll l = true) :
    ∃ s1 s2 s3, s.num 3 = (l[k].st, s1) ∧ s1.num 4611686018427387904 = (zig (l[k].at_ - endAt 0 (l.take k)), s2) ∧ s2.num 4611686018427387904 = (zig (l[k].pg - endPg 0 (l.take k)), s3) ∧ MkAt l (k + 1) s3 := by
  obtain ⟨hd, he, hle, hdr⟩ := h
  have hok : markOk l[k] = true := List.all_eq_true.1 hall _ (List.getElem_mem hk)
  have hb := markOk_bd hok
  have hen := end_bd (l := l.take k) (List.all_eq_true.2 fun x hx => List.all_eq_true.1 hall x (List.mem_of_mem_take hx))
  have z1 := zig_bd (a := l[k].at_ - endAt 0 (l.take k)) (by omega)
  have z2 := zig_bd (a := l[k].pg - endPg 0 (l.take k)) (by omega)
  rw [List.drop_eq_getElem_cons hk, mkTail] at hdr
  have e1 : s.data.drop s.at_ = putOne l[k].st ++ (putOne (zig (l[k].at_ - endAt 0 (l.take k))) ++ (putOne (zig (l[k].pg - endPg 0 (l.take k))) ++ mkTail l[k].at_ l[k].pg (l.drop (k + 1)))) := by rw [hd, hdr]
  have e2 := drop_put e1
  have e3 := drop_put e2
  have e4 := drop_put e3
  refine ⟨_, _, _, num_put he e1 (by omega) (by omega) (by omega), num_put (s := ⟨s.data, s.at_ + (putOne l[k].st).length, 0⟩) rfl e2 (by omega) (by omega) (by omega), num_put (s := ⟨s.data, s.at_ + (putOne l[k].st).length + (putOne (zig (l[k].at_ - endAt 0 (l.take k)))).length, 0⟩) rfl e3 (by omega) (by omega) (by omega), hd, rfl, ?_, ?_⟩
  · have h5 := congrArg List.length e1
    simp only [List.length_drop, List.length_append] at h5
    rw [hd] at h5
    simp only
    have hp1 := putOne_length l[k].st
    omega
  · simp only
    rw [← hd, e4, List.take_succ_eq_append_getElem hk, endAt_snoc, endPg_snoc]
theorem MkAt.last {l : List Mk} {s : Rs} (h : MkAt l l.length s) : s.data.length - s.at_ = 0 := by
  have h5 := congrArg List.length h.drop
  rw [List.drop_length] at h5
  simp only [mkTail, List.length_drop, List.length_nil] at h5
  rw [h.data]; exact h5
end Go.Proofs.Ytaimjlnhdobgeaa

namespace Go.Proofs.Ytaimjlnhdobgeaa
open Go.RowKit

theorem num_is {w : World} {lo hi g : Nat} {s s' : Rs} {n most : Int} (h : Rdr w 95 lo hi g s) (e : s.num most = (n, s')) :
    Calls Try.prog 28 #[.pointer (some ⟨g, 0, none⟩), .int .u64 most] w fun e w' => e = .returned (.int .u64 n) ∧ Rdr w' 95 lo hi g s' ∧ w.grownBy w' (some g) := by
  have h1 := num_any h most
  rw [e] at h1
  exact h1
theorem Rdr.upto {w w' : World} {T lo hi g B : Nat} {s : Rs} (h : Rdr w T lo hi g s) (hb : Below B w w') (hB : g < B) (hh : hi ≤ B) : Rdr w' T lo hi g s := by
  obtain ⟨A, c, hk, hc, hr, hlo, hgg, hhi, r⟩ := h
  exact ⟨A, c, hk.below hb hB, hc, hr.below hb hh, hlo, hgg, Nat.le_trans hhi hb.size, r⟩
theorem err_is {w : World} {lo hi g : Nat} {s : Rs} (h : Rdr w 95 lo hi g s) (he : s.err = 0) :
    Calls Try.prog 29 #[.pointer (some ⟨g, 0, none⟩)] w fun e w' => e = .returned (.int .i64 0) ∧ w = w' := by
  have h1 := err_any h
  rw [he] at h1
  exact h1
theorem left_is {w : World} {lo hi g : Nat} {s : Rs} (h : Rdr w 95 lo hi g s) (he : (s.data.length : Int) - (s.at_ : Int) = 0) :
    Calls Try.prog 31 #[.pointer (some ⟨g, 0, none⟩)] w fun e w' => e = .returned (.int .i64 0) ∧ ∃ n, w' = w.drewN n := by
  have h1 := left_any h
  rw [he] at h1
  exact h1
theorem zag_is {a : Int} (h : -1125899906842624 ≤ a ∧ a ≤ 1125899906842624) (w : World) :
    Calls Try.prog 30 #[.int .u64 (zig a)] w fun e w' => e = .returned (.int .i64 a) ∧ w = w' := by
  have hb := zig_bd h
  have h1 := zag_any (zig a) hb.1 (by omega) w
  rw [zag_zig] at h1
  exact h1
/-- four bytes read as a number -/
theorem big4_is {w : World} {lo hi g : Nat} {l : List Int} (h : Rdr w 95 lo hi g ⟨l, 0, 0⟩) (hl : l.length = 4) :
    Calls Try.prog 27 #[.pointer (some ⟨g, 0, none⟩), .int .i64 4] w fun e w' => e = .returned (.int .u64 (big l)) ∧ w.grownBy w' (some g) := by
  have h1 := rbig_any h 4 (by omega) (by omega)
  have h2 : (Rs.take ⟨l, 0, 0⟩ (min (4 : Int).toNat 8)).1 = l := by
    have : min (4 : Int).toNat 8 = 4 := rfl
    rw [this, take_ok (by omega)]
    simp only [List.drop_zero]
    rw [List.take_of_length_le (by omega)]
  rw [h2] at h1
  exact h1.mono fun e w' ⟨h3, _, h4⟩ => ⟨h3, h4⟩

set_option maxHeartbeats 4000000 in
set_option maxRecDepth 100000 in
theorem mkread_sum {body s4 : List Int} {A : Option Addr} {c n : Nat} {w : World} (hr : RdI w w.heap.size .u8 A (body ++ s4)) (h4 : s4.length = 4) (hn : n = body.length + 4) (hb : byteB (body ++ s4)) (hc : n ≤ c) (hl : n ≤ 1000000000) (hs : big s4 ≠ crc body) :
    Calls Try.prog 9 #[.slice A n c] w fun e w' => e = .returned (.tuple #[.slice none 0 0, .int .i64 5]) ∧ Below w.heap.size w w' := by
  have hlen : (body ++ s4).length = body.length + 4 := by rw [List.length_append, h4]
  subst hn
  have hbb : byteB body := fun x hx => hb x (List.mem_append_left _ hx)
  have hb4 : byteB s4 := fun x hx => hb x (List.mem_append_right _ hx)
  obtain ⟨A1, hrun1, hr1, _⟩ := hr.slice_h Try.underlying27 info_u8 (hh := body.length) (c := c) (by omega) (by omega)
  obtain ⟨A2, hrun2, hr2, _⟩ := hr.slice_l Try.underlying27 info_u8 (lo := body.length) (c := c) (by omega) (by omega)
  rw [hlen] at hrun1 hrun2
  rw [show body.length + 4 - body.length = 4 by omega] at hrun2
  rw [List.take_left] at hr1
  rw [List.drop_left] at hr2
  have HN := Lib.hid (fun W (hW : Below w.heap.size w W) => new_n A2 (c - body.length) 4 s4 h4 hb4 (by omega) W w.heap.size (hr2.below hW (Nat.le_refl _)))
  have HC := Lib.hid (fun W (hW : Below w.heap.size w W) => thirtytwo_any (c := c) hbb (hr1.below hW (Nat.le_refl _)) (by omega))
  have hcb := crc_bd body
  have hcw : IntKind.u64.wrap (crc body) = crc body := by rw [IntKind.wrap_u64]; omega
  have hq : (big s4 != crc body) = true := by rw [bne_iff_ne]; exact hs
  have HQ := Lib.hid h4
  clear hr hr1 hr2 hlen h4 hb hbb hb4 hs
  have hlt : decide ((body.length : Int) + 4 < 4) = false := decide_eq_false (by omega)
  generalize crc body = cb at *
  go_enter Try.func9, Try.ntmps9
  go_wp2_with (first
    | (go_at_call 26; (with_reducible refine (HN.out _ (Below.refl _ _)).mono ?_); rintro e w1 ⟨g, rfl, hg, hR1, hb1⟩)
    | (go_at_call 27; (with_reducible refine (big4_is hR1 HQ.out).mono ?_); rintro e w2 ⟨rfl, hg2⟩; have bb2 := below_one hb1 hg2 hg)
    | (go_at_call 25; (with_reducible refine (HC.out _ bb2).mono ?_); rintro e w3 ⟨rfl, rfl⟩))
  go_ret2
  exact ⟨rfl, bb2⟩

set_option maxHeartbeats 8000000 in
set_option maxRecDepth 100000 in
theorem mkread_ok {l : List Mk} {A : Option Addr} {c n : Nat} {w : World} (hr : RdI w w.heap.size .u8 A (mkBytes l)) (hall : mkAll l = true) (hll : l.length ≤ 1000000) (hn : n = (mkBytes l).length) (hc : n ≤ c) :
    Calls Try.prog 9 #[.slice A n c] w fun e w' => ∃ v, e = .returned (.tuple #[v, .int .i64 0]) ∧ OwnG MkR 3 49 w' w.heap.size (fun b => w.heap.size ≤ b ∧ b < w'.heap.size) v l ∧ Below w.heap.size w w' := by
  have hbb := mkHead_bytes hall hll
  have hhl := mkHead_len l
  have hcb := crc_bd (mkHead l)
  have h4 := bg_len (crc (mkHead l)) 4
  have hb4 := bg_bytes (crc (mkHead l)) 4
  have hbig := big_bg (crc (mkHead l)) 4 hcb.1 (by omega)
  have hlen : (mkHead l ++ bg (crc (mkHead l)) 4).length = (mkHead l).length + 4 := by rw [List.length_append, h4]
  have hE : mkBytes l = mkHead l ++ bg (crc (mkHead l)) 4 := rfl
  rw [hE, hlen] at hn
  rw [hE] at hr
  subst hn
  have HAll := Lib.hid hall
  obtain ⟨s0, hs0, hat0⟩ := MkAt.first (l := l) hll
  have HS0 := Lib.hid hs0
  have HAt0 := Lib.hid hat0
  clear hE hs0 hat0 hall
  generalize bg (crc (mkHead l)) 4 = s4 at *
  obtain ⟨body, hbody⟩ : ∃ body, body = mkHead l := ⟨_, rfl⟩
  rw [← hbody] at hr hbb hhl hcb hbig hlen hc HS0 ⊢
  have HBody := Lib.hid hbody
  clear hbody
  obtain ⟨A1, hrun1, hr1, _⟩ := hr.slice_h Try.underlying27 info_u8 (hh := body.length) (c := c) (by omega) (by omega)
  obtain ⟨A2, hrun2, hr2, _⟩ := hr.slice_l Try.underlying27 info_u8 (lo := body.length) (c := c) (by omega) (by omega)
  rw [hlen] at hrun1 hrun2
  rw [show body.length + 4 - body.length = 4 by omega] at hrun2
  rw [List.take_left] at hr1
  rw [List.drop_left] at hr2
  have HN := Lib.hid (fun W (hW : Below w.heap.size w W) => new_n A2 (c - body.length) 4 s4 h4 hb4 (by omega) W w.heap.size (hr2.below hW (Nat.le_refl _)))
  have HN2 := Lib.hid (fun W (hW : Below w.heap.size w W) => new_n A1 c body.length body rfl hbb (by omega) W w.heap.size (hr1.below hW (Nat.le_refl _)))
  have HC := Lib.hid (fun W (hW : Below w.heap.size w W) => thirtytwo_any (c := c) hbb (hr1.below hW (Nat.le_refl _)) (by omega))
  have hcw : IntKind.u64.wrap (crc body) = crc body := by rw [IntKind.wrap_u64]; omega
  have hq : (big s4 != crc body) = false := by rw [bne_eq_false_iff_eq]; exact hbig
  have hlw : IntKind.u64.wrap (body.length : Int) = (body.length : Int) := by rw [IntKind.wrap_u64]; omega
  have HQ := Lib.hid h4
  have HPl := Lib.hid (fun a p W => mayplace_any a p W)
  clear hr hr1 hr2 hlen h4 hbb hb4 hbig
  have hlt : decide ((body.length : Int) + 4 < 4) = false := decide_eq_false (by omega)
  generalize crc body = cb at *
  go_enter Try.func9, Try.ntmps9
  go_upto_region 6 with (first
    | (go_at_call 26; (with_reducible refine (HN.out _ (Below.refl _ _)).mono ?_); rintro e w1 ⟨g, rfl, hg, hR1, hb1⟩)
    | (go_at_call 27; (with_reducible refine (big4_is hR1 HQ.out).mono ?_); rintro e w2 ⟨rfl, hg2⟩; have bb2 := below_one hb1 hg2 hg)
    | (go_at_call 25; (with_reducible refine (HC.out _ bb2).mono ?_); rintro e w3 ⟨rfl, rfl⟩))
  clear hrun1 hrun2 hq
  go_upto_region 8 with (first
    | (go_at_call 26; (with_reducible refine (HN2.out _ bb2).mono ?_); rintro e w4 ⟨g4, rfl, hg4, hR4, hb4⟩)
    | (go_at_call 28; (with_reducible refine (num_is hR4 HS0.out).mono ?_); rintro e w5 ⟨rfl, hR5, hg5⟩))
  have bb5 := below_then bb2 (below_one hb4 hg5 hg4)
  have hs2 := bb2.size
  have hg4l := hR5.lt
  clear hR1 hb1 hg2 hR4 hb4 hg5
  go_wp2_with (first
    | (go_at_call 29; (with_reducible refine (err_is hR5 HAt0.out.err).mono ?_); rintro e w6 ⟨rfl, rfl⟩))
  go_loopw [6, 8, 9, 10] (fun nn v a q wr => ∃ (k : Nat) (s : Rs), k ≤ l.length ∧ nn = .int .u64 ((l.length : Int) - (k : Int)) ∧ a = .int .i64 (endAt 0 (l.take k)) ∧ q = .int .i64 (endPg 0 (l.take k)) ∧ MkAt l k s ∧ Rdr wr 95 w2.heap.size g4 g4 s ∧ OwnG MkR 3 49 wr (g4 + 1) (fun b => g4 < b ∧ b < wr.heap.size) v (l.take k) ∧ Below w.heap.size w wr) (fun nn _ _ _ _ => (intOf nn).toNat)
  case atStart => exact ⟨0, s0, Nat.zero_le _, by simp, rfl, rfl, HAt0.out, hR5, OwnG.nil_ _ _ _ _ _ _, bb5⟩
  case round =>
    obtain ⟨k, s, hk, rfl, rfl, rfl, hat, hR, hown, hb⟩ := hrel
    have hgr := hR.lt
    by_cases hlt : k < l.length
    · obtain ⟨s1, s2, s3, e1, e2, e3, hat'⟩ := hat.step hlt HAll.out
      have hok : markOk l[k] = true := List.all_eq_true.1 HAll.out _ (List.getElem_mem hlt)
      have hbd := markOk_bd hok
      have hen := end_bd (l := l.take k) (List.all_eq_true.2 fun x hx => List.all_eq_true.1 HAll.out x (List.mem_of_mem_take hx))
      have HEa := Lib.hid (show endAt 0 (l.take (k + 1)) = l[k].at_ by rw [List.take_succ_eq_append_getElem hlt, endAt_snoc])
      have HEp := Lib.hid (show endPg 0 (l.take (k + 1)) = l[k].pg by rw [List.take_succ_eq_append_getElem hlt, endPg_snoc])
      have HTk := Lib.hid (show l.take (k + 1) = l.take k ++ [l[k]] from List.take_succ_eq_append_getElem hlt)
      have HPT := Lib.hid (show placeB l[k].at_ l[k].pg = true by simp only [placeB, decide_eq_true_eq]; omega)
      have HA' := Lib.hid hat'
      have H1 := Lib.hid e1
      have H2 := Lib.hid e2
      have H3 := Lib.hid e3
      have hln : (l.take k).length ≤ 1000000 := by rw [List.length_take]; omega
      clear hat hat' e1 e2 e3 hok
      generalize l.take k = acc at *
      generalize endAt 0 acc = ea at *
      generalize endPg 0 acc = ep at *
      generalize l[k] = m at *
      obtain ⟨m1, m2, m3⟩ := m
      simp only at hbd HEa HEp HPT H1 H2 H3
      have hz1 : -1125899906842624 ≤ m2 - ea ∧ m2 - ea ≤ 1125899906842624 := by omega
      have hz2 : -1125899906842624 ≤ m3 - ep ∧ m3 - ep ≤ 1125899906842624 := by omega
      have HZ1 := Lib.hid hz1
      have HZ2 := Lib.hid hz2
      have hd1 : ea + (m2 - ea) = m2 := by omega
      have hd2 : ep + (m3 - ep) = m3 := by omega
      have hp : decide (0 < (l.length : Int) - (k : Int)) = true := decide_eq_true (by omega)
      have hp2 : 1 ≤ (l.length : Int) - (k : Int) := by omega
      obtain ⟨A0, c0, rfl, hc0, _, hob0⟩ := hown.form MkR.good
      have hown' := hown
      have hszr := hb.size
      go_wp2_with (first
        | (go_at_call 28; (with_reducible refine (num_is hR H1.out).mono ?_); rintro e w11 ⟨rfl, hR1, hg1⟩)
        | (go_at_call 28; (with_reducible refine (num_is hR1 H2.out).mono ?_); rintro e w12 ⟨rfl, hR2, hg2⟩)
        | (go_at_call 28; (with_reducible refine (num_is hR2 H3.out).mono ?_); rintro e w13 ⟨rfl, hR3, hg3⟩; have hg03 := only_trans (only_trans hg1 hg2) hg3; have hown3 := hown'.keep MkR.good (Mod.of_only (M := (· = g4)) hg03 (fun _ => rfl)) (fun b hb _ => (show ¬ b = g4 by have := hb.1; omega)) (fun b hb => (show ¬ b = g4 by have := hob0 b hb; omega)); have hs03 := hg03.size)
        | (go_at_call 30; (with_reducible refine (zag_is HZ1.out _).mono ?_); rintro e w9 ⟨rfl, rfl⟩)
        | (go_at_call 30; (with_reducible refine (zag_is HZ2.out _).mono ?_); rintro e w9 ⟨rfl, rfl⟩)
        | (go_at_call 29; (with_reducible refine (err_is hR3 HA'.out.err).mono ?_); rintro e w9 ⟨rfl, rfl⟩)
        | (go_at_call 21; (with_reducible refine (HPl.out _ _ _).mono ?_); rintro e w9 ⟨rfl, rfl⟩; rw [HPT.out])
        | (at_builtin; (refine wpList_push_G (v := .slice A0 acc.length c0) rfl (.tmp 69) (.tmp 74) _ rfl MkR.good w13 (.agg #[.int .i64 0, .int .i64 0, .int .i64 0]) 24 Try.underlying23 info_mk rfl (by omega) rfl hown3 (fun _ => False) _ 1 [.int .i64 m1, .int .i64 m2, .int .i64 m3] ⟨m1, m2, m3⟩ rfl rfl ⟨rfl, ⟨⟨by simp only; omega, by simp only; omega⟩, ⟨by simp only; omega, by simp only; omega⟩, ⟨by simp only; omega, by simp only; omega⟩⟩⟩ (fun b => g4 < b ∧ b ≤ w13.heap.size) (fun b hb _ => ⟨hb.1, by have := hb.2; omega⟩) (fun b hb _ => hb.elim) (fun b hb h => h) (fun b hb => hb.2) ⟨by omega, Nat.le_refl _⟩ (by omega) (by omega) ?_); intro v6 w6 ow6 hg6 hv6))
      have hM6 : Mod (fun b => g4 < b) w13 w6 := ((Mod.refl _ _).alloc _).then_ (Mod.of_grown hg6 (fun x hx _ => (hob0 x hx).1))
      have hg13 := hR3.lt
      have hb6 : Below (g4 + 1) w13 w6 := hM6.below (by omega) (fun b hb => hb)
      have hR6 := hR3.upto hb6 (by omega) (by omega)
      have hbf := (below_only hb hg03 hszr (by omega)).trans (hb6.mono (by omega))
      go_roundw
      case rel => exact ⟨k + 1, s3, by omega, by go_num, by rw [HEa.out], by rw [HEp.out], HA'.out, hR6, by rw [HTk.out]; exact ow6.weak MkR.good (fun b hb hl9 => ⟨hb.1, hl9⟩), hbf⟩
      case measure => simp [intOf]; omega
    · have hp : decide (0 < (l.length : Int) - (k : Int)) = false := decide_eq_false (by omega)
      have hkl : k = l.length := by omega
      subst hkl
      rw [List.take_length] at hown
      have HLf := Lib.hid (show (s.data.length : Int) - (s.at_ : Int) = 0 by have := hat.last; have := hat.le; rw [← hat.data] at this; omega)
      go_wp2_with (first
        | (go_at_call 31; (with_reducible refine (left_is hR HLf.out).mono ?_); rintro e w9 ⟨rfl, n9, rfl⟩))
      go_ret2
      have hs2' := hb.size
      have hown9 : OwnG MkR 3 49 (wr.drewN n9) (g4 + 1) (fun b => g4 < b ∧ b < wr.heap.size) u8 l := hown
      exact ⟨_, rfl, (hown9.base_ (base' := w.heap.size) (by omega)).weak MkR.good (fun b hb hl => ⟨by have := hb.1; omega, hl⟩), below_drewN hb n9⟩
end Go.Proofs.Ytaimjlnhdobgeaa
