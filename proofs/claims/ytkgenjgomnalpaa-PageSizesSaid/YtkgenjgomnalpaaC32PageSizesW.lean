/- PageSizes: the walk. -/
import Derived.Test.YtkgenjgomnalpaaPgKnown
import Derived.Test.YtkgenjgomnalpaaTapePk
import Derived.Deep.DeepCutAuto
import Derived.Outline
set_option linter.unusedSimpArgs false
set_option linter.unusedVariables false
namespace Go.Proofs.Ytkgenjgomnalpaa.pageSizes
open Go.RowKit

def pk (l : List Int) : Pk := ⟨3, 0, 0, false, false, l⟩
theorem pk_E {l : List Int} (h : l.length ≤ 1200) : layE (pk l) = 0 := by
  rw [layE, if_pos (by simp [Pk.head, pk]), if_neg (by simp [pk]; omega)]
theorem pk_len (l : List Int) : (pk l).bytes.length = l.length + 18 := bytes_len _
theorem pk_bad {l : List Int} (h : l.length ≤ 1200) : layBad [pk l] = 0 := layBad_none fun p hp => by rw [List.mem_singleton] at hp; rw [hp]; exact pk_E h
theorem pk_all (l : List Int) : pagesAll 0 ([pk l].map Pk.bytes) = pagesOf (pk l).bytes 0 := by simp [pagesAll]
theorem pk_sE {l : List Int} (h : l.length ≤ 1200) : splitE [pk l] 0 = 0 := by
  have hb := pk_bad h
  have hn : (pagesOf (pk l).bytes 0).length ≤ 5 := by rw [pagesOf_len, nPages, pk_len]; omega
  rw [splitE, if_neg (by omega), if_neg (by rw [hb]; simp), pk_all, if_neg (by omega)]
theorem pk_sP {l : List Int} (h : l.length ≤ 1200) : splitP [pk l] 0 = pagesOf (pk l).bytes 0 := by rw [splitP, if_pos (pk_sE h), pk_all]
theorem pk_wf {l : List Int} (h : l.length ≤ 1200) (hb : byteB l) : (pk l).wf := ⟨by simp [pk, i64B], by simp [pk, i64B], by simp [pk, i64B], by simp [pk]; omega, hb⟩
theorem page_get {b : List Int} {s : Int} {k : Nat} (h : k < (pagesOf b s).length) : (pagesOf b s)[k] = pageAt b s k := by simp [pagesOf]
theorem page_ok {b : List Int} {k : Nat} (hk : 252 * k < b.length) (hb : b.length ≤ 2000) : pgOk (pageAt b 0 k) = true := by
  simp [pgOk, pageAt, mostB]
  omega

set_option maxHeartbeats 8000000 in
set_option maxRecDepth 100000 in
theorem walk (w : World) (A0 : Option Addr) (c0 : Nat) (t : List Int) (ht : ∀ x ∈ t, -9223372036854775808 ≤ x ∧ x ≤ 9223372036854775807) (hc : t.length ≤ c0) (h63 : c0 ≤ 9223372036854775807) (hrt : RdI w w.heap.size .i64 A0 t) :
    Calls Try.prog 7 #[.slice A0 t.length c0] w fun e w' => e = .returned (.bool true) ∧ Below w.heap.size w w' := by
  have HK := Lib.hid (fun W => known_any W)
  have HT := Lib.hid (newtape_any A0 t c0 ht hc (by omega) w hrt (Nat.le_refl _))
  have HBy := Lib.hid (fun W (hW : TapeB W w.heap.size w.heap.size) => tapebytes_any hW 1200 (by omega) (by omega))
  clear ht hrt
  go_enter Try.func7, Try.ntmps7
  go_upto_region 3 with (first
    | (go_at_call 8; (with_reducible refine HT.out.mono ?_); rintro e w1 ⟨rfl, hT1, hb1⟩)
    | (go_at_call 10; (with_reducible refine (HBy.out _ hT1).mono ?_); rintro e w2 ⟨v2, l, rfl, hl, hlb, ho2, hT2, hg2⟩; obtain ⟨A2, c2, rfl, hc2, hr2, _⟩ := ho2.form))
  have bb2 := below_one hb1 hg2 (Nat.le_refl _)
  have hl' : l.length ≤ 1200 := by omega
  have kb := Blk.new w2 25 #[.int .i64 3, .int .i64 0, .int .i64 0, .bool false, .bool false, .slice A2 l.length c2]
  have bb3 := below_alloc bb2 (.cells #[.int .i64 3, .int .i64 0, .int .i64 0, .bool false, .bool false, .slice A2 l.length c2] 25)
  have hr3 := hr2.alloc (Nat.le_refl _) (.cells #[.int .i64 3, .int .i64 0, .int .i64 0, .bool false, .bool false, .slice A2 l.length c2] 25)
  have hs3 : (w2.alloc (.cells #[.int .i64 3, .int .i64 0, .int .i64 0, .bool false, .bool false, .slice A2 l.length c2] 25)).heap.size = w2.heap.size + 1 := by simp
  generalize w2.alloc (.cells #[.int .i64 3, .int .i64 0, .int .i64 0, .bool false, .bool false, .slice A2 l.length c2] 25) = w3 at *
  have hpr : PkR w3 (fun b => b < w2.heap.size) [.int .i64 3, .int .i64 0, .int .i64 0, .bool false, .bool false, .slice A2 l.length c2] (pk l) := ⟨A2, c2, rfl, hc2, RdI.rds hr3, pk_wf hl' hlb⟩
  have HS := Lib.hid (show Calls Try.prog 24 #[.slice (some ⟨w3.heap.size, 0, none⟩) 1 1, .int .i64 0] (w3.alloc (.cells #[.int .i64 3, .int .i64 0, .int .i64 0, .bool false, .bool false, .slice A2 l.length c2] 25)) (SplitPost (w3.alloc (.cells #[.int .i64 3, .int .i64 0, .int .i64 0, .bool false, .bool false, .slice A2 l.length c2] 25)) (pagesOf (pk l).bytes 0) 0) by
    have h := split_any (c := 1) (RdG.one_ PkR.good w3 hpr 25) (by simp) 0 (by omega) (by omega)
    rw [pk_sE hl', pk_sP hl'] at h
    exact h)
  have HS3 := Lib.hid hs3
  have bb4 := below_alloc bb3 (.cells #[.int .i64 3, .int .i64 0, .int .i64 0, .bool false, .bool false, .slice A2 l.length c2] 25)
  have k0 := kb.cell 0
  have k1 := kb.cell 1
  have k2 := kb.cell 2
  have k3 := kb.cell 3
  have k4 := kb.cell 4
  have k5 := kb.cell 5
  clear hs3
  have HL := Lib.hid (pk_len l)
  have hN : (pagesOf (pk l).bytes 0).length = (l.length + 269) / 252 := by rw [pagesOf_len, nPages, HL.out]
  have HN := Lib.hid hN
  clear hN
  go_upto_region 4 with (first
    | (go_at_call 24; (with_reducible refine HS.out.mono ?_); rintro e w5 ⟨v5, rfl, ho5, hb5⟩; obtain ⟨A5, c5, rfl, hc5, hr5⟩ := ho5.reads PgR.good (S := fun b => b < w5.heap.size) (fun b _ hl => hl)))
  have bb5 := below_then bb4 hb5
  have kb5 := (kb.alloc (.cells #[.int .i64 3, .int .i64 0, .int .i64 0, .bool false, .bool false, .slice A2 l.length c2] 25)).below hb5 (by have := HS3.out; simp; omega)
  have x5 := kb5.cell 5
  rw [HN.out] at hc5 ⊢
  generalize hNe : (l.length + 269) / 252 = N at *
  have hN0 : 1 ≤ N := by omega
  have hNl : ((l.length : Int) + 18 + 252 - 1) / 252 = N := by omega
  have hN6 : N ≤ 6 := by omega
  have HNe := Lib.hid hNe
  clear hNe k0 k1 k2 k3 k4 k5
  have hbl : (pk l).bytes.length = l.length + 18 := HL.out
  have hbb : byteB (pk l).bytes := bytes_byte (pk_E hl') (pk_wf hl' hlb)
  have HB := Lib.hid (show ∀ k, k < N → pgOk (pageAt (pk l).bytes 0 k) = true from fun k hk => page_ok (by rw [hbl]; have := HNe.out; omega) (by rw [hbl]; omega))
  have HG := Lib.hid (fun k (hk : k < (pagesOf (pk l).bytes 0).length) => page_get hk)
  have HP := Lib.hid (show ∀ k, pageAt (pk l).bytes 0 k = ⟨0 + (k : Int), decide (k = 0), decide ((pk l).bytes.length ≤ 252 * k + 252), false, ((pk l).bytes.drop (252 * k)).take 252⟩ from fun _ => rfl)
  generalize hps : pagesOf (pk l).bytes 0 = ps at *
  generalize (pk l).bytes = b at *
  have HBL := Lib.hid hbl
  have hk5 := kb5.lt
  clear hps hbl HS
  go_wp2
  have HNl := Lib.hid hNl
  clear hNl
  go_loopw [7, 8] (fun n i wr => ∃ k : Nat, k ≤ N ∧ i = .int .i64 k ∧ n = .int .i64 ((min (252 * k) (l.length + 18) : Nat) : Int) ∧ Below w5.heap.size w5 wr) (fun _ i _ => N - (intOf i).toNat)
  case atStart => exact ⟨0, Nat.zero_le _, rfl, by simp, Below.refl _ _⟩
  case round =>
    obtain ⟨k, hk, rfl, rfl, hbel⟩ := hrel
    by_cases hlt : k < N
    · have hkp : k < ps.length := by rw [HN.out]; exact hlt
      obtain ⟨ad, p, Aj, cj, rfl, _, hp, y0, y1, y2, y3, y4, hcj, hrj, hwj⟩ := RdPg.at_ (hr5.below PgR.good hbel) hkp
      obtain ⟨fb, hfb⟩ : ∃ fb, fb = decide (k = 0) := ⟨_, rfl⟩
      obtain ⟨lb, hlb⟩ : ∃ lb, lb = decide (b.length ≤ 252 * k + 252) := ⟨_, rfl⟩
      obtain ⟨d, hd⟩ : ∃ d, d = (b.drop (252 * k)).take 252 := ⟨_, rfl⟩
      have hpe : ps[k] = ⟨(k : Int), fb, lb, false, d⟩ := by rw [HG.out k hkp, HP.out k, hfb, hlb, hd, Int.zero_add]
      have hok := HB.out k hlt
      rw [← HG.out k hkp, hpe] at hok
      rw [hpe] at y0 y1 y2 y3 y4 hcj hrj hwj
      simp only at y0 y1 y2 y3 y4 hcj hrj
      have hdl : d.length = min 252 (l.length + 18 - 252 * k) := by rw [hd, List.length_take, List.length_drop, HBL.out]
      have t1 : ((k : Int) == 0) = fb := by rw [hfb, Bool.eq_iff_iff]; first | (simp; done) | (simp; omega)
      have t2 : ((k : Int) == (N : Int) - 1) = lb := by rw [hlb, Bool.eq_iff_iff, HBL.out]; have := HNe.out; simp; omega
      have HW := Lib.hid (fun W (hW : Below w5.heap.size w5 W) => pgbytes_any ⟨(k : Int), fb, lb, false, d⟩ Aj cj hwj W)
      have HRj := Lib.hid hrj.top
      have hE : pgE ⟨(k : Int), fb, lb, false, d⟩ = 0 := by rw [pgE, if_pos hok]
      have hx := pgHead_len ⟨(k : Int), fb, lb, false, d⟩
      have hB : pgB ⟨(k : Int), fb, lb, false, d⟩ = pgBytes ⟨(k : Int), fb, lb, false, d⟩ := by rw [pgB, if_pos hE]
      have hxl : (pgBytes ⟨(k : Int), fb, lb, false, d⟩).length = d.length + 12 := by rw [pgBytes, List.length_append, hx, bg_len]
      rw [hE, hB] at HW
      generalize pgBytes ⟨(k : Int), fb, lb, false, d⟩ = x at *
      have t3 : ((x.length : Int) != (d.length : Int) + 12) = false := by rw [hxl]; simp
      have hpl := World.block_lt_of_cell? wr _ y0
      have HDL := Lib.hid hdl
      have hd252 : d.length ≤ 252 := by omega
      clear hfb hlb hd hpe hok hE hB hx hxl hdl hwj hrj
      obtain ⟨m, hm⟩ : ∃ m, m = min (252 * k) (l.length + 18) := ⟨_, rfl⟩
      rw [← hm]
      have hm2 : m ≤ 2000 := by omega
      have HM := Lib.hid hm
      clear hm
      go_wp2_with (first
        | (go_at_call 17; (with_reducible refine (HW.out _ hbel HRj.out).mono ?_); rintro e w6 ⟨v6, rfl, ho6, hb6⟩; obtain ⟨A6, c6, rfl, hc6, _, _⟩ := ho6.form; have z0 := (hb6.cell (p := p) hpl).trans y0; have z1 := (hb6.cell (p := ⟨p.block, p.off + 1, none⟩) hpl).trans y1; have z2 := (hb6.cell (p := ⟨p.block, p.off + 2, none⟩) hpl).trans y2; have z3 := (hb6.cell (p := ⟨p.block, p.off + 3, none⟩) hpl).trans y3; have z4 := (hb6.cell (p := ⟨p.block, p.off + 4, none⟩) hpl).trans y4))
      go_roundw
      case rel => exact ⟨k + 1, by omega, by go_num, by have := HDL.out; have := HM.out; first | (congr 1; omega) | go_num, below_then hbel hb6⟩
      case measure => simp [intOf]; omega
    · have hkN : k = N := by omega
      subst hkN
      have hmm : min (252 * k) (l.length + 18) = l.length + 18 := by have := HNe.out; omega
      rw [hmm]
      have x5' := (hbel.cell (p := ⟨w2.heap.size, 5, none⟩) hk5).trans x5
      go_wp2_with (go_at_call 16; (with_reducible refine (HK.out _).mono ?_); rintro e w10 ⟨rfl, hb10⟩)
      go_ret
      exact ⟨rfl, below_then (below_then bb5 hbel) hb10⟩
end Go.Proofs.Ytkgenjgomnalpaa.pageSizes
