/- PageTurned: the walk. -/
import Derived.Test.YtkgenjgomnalpaaPgKnown
import Derived.Test.YtkgenjgomnalpaaPgTurnL
import Derived.Test.YtkgenjgomnalpaaTapePk
import Derived.Deep.DeepCutAuto
set_option linter.unusedSimpArgs false
set_option linter.unusedVariables false
namespace Go.Proofs.Ytkgenjgomnalpaa.pageTurned
open Go.RowKit

theorem xor_byte8 (a b : Int) : 0 ≤ bits .xor .u8 a b ∧ bits .xor .u8 a b ≤ 255 := by
  have h2 : bits .xor .u8 a b = IntKind.u8.wrap ((BitVec.ofInt 8 a ^^^ BitVec.ofInt 8 b).toNat : Int) := rfl
  rw [h2, IntKind.wrap_u8]; omega
theorem xor_same8 {a b : Int} (ha : 0 ≤ a ∧ a ≤ 255) (hb : 0 ≤ b ∧ b ≤ 255) : bits .xor .u8 a b = a ↔ b = 0 := by
  have h2 : bits .xor .u8 a b = IntKind.u8.wrap ((BitVec.ofInt 8 a ^^^ BitVec.ofInt 8 b).toNat : Int) := rfl
  have h3 := (BitVec.ofInt 8 a ^^^ BitVec.ofInt 8 b).isLt
  have ea : ((BitVec.ofInt 8 a).toNat : Int) = a := by rw [BitVec.toNat_ofInt]; omega
  have eb : ((BitVec.ofInt 8 b).toNat : Int) = b := by rw [BitVec.toNat_ofInt]; omega
  rw [h2, IntKind.wrap_u8]
  generalize BitVec.ofInt 8 a = x at *
  generalize BitVec.ofInt 8 b = y at *
  constructor
  · intro h
    have h4 : (x ^^^ y).toNat = x.toNat := by omega
    have h5 : x ^^^ y = x := BitVec.eq_of_toNat_eq h4
    have h6 : y = 0#8 := by
      have : x ^^^ (x ^^^ y) = x ^^^ x := by rw [h5]
      rwa [← BitVec.xor_assoc, BitVec.xor_self, BitVec.zero_xor] at this
    rw [← eb, h6]; rfl
  · intro h
    have h6 : y = 0#8 := BitVec.eq_of_toNat_eq (by simp; omega)
    rw [h6, BitVec.xor_zero, ← ea]; have := x.isLt; omega

set_option maxHeartbeats 8000000 in
set_option maxRecDepth 100000 in
theorem walk (w : World) (A0 : Option Addr) (c0 : Nat) (t : List Int) (ht : ∀ x ∈ t, -9223372036854775808 ≤ x ∧ x ≤ 9223372036854775807) (hc : t.length ≤ c0) (h63 : c0 ≤ 9223372036854775807) (hrt : RdI w w.heap.size .i64 A0 t)
    (at_ : Int) (at0 : -9223372036854775808 ≤ at_) (at1 : at_ ≤ 9223372036854775807) (by_ : Int) (by0 : 0 ≤ by_) (by1 : by_ ≤ 255) :
    Calls Try.prog 4 #[.slice A0 t.length c0, .int .i64 at_, .int .u8 by_] w fun e w' => e = .returned (.bool true) ∧ Below w.heap.size w w' := by
  have HK := Lib.hid (fun W => known_any W)
  have HT := Lib.hid (newtape_any A0 t c0 ht hc (by omega) w hrt (Nat.le_refl _))
  have HN1 := Lib.hid (fun W (hW : TapeB W w.heap.size w.heap.size) => next_any hW 1048576 (by omega) (by omega))
  have HPg := Lib.hid (fun W (hW : TapeB W w.heap.size w.heap.size) n => tapepage_any hW n)
  clear ht hrt
  go_enter Try.func4, Try.ntmps4
  go_wp2_with (first
    | (go_at_call 8; go_must (refine HT.out.mono ?_); rintro e w1 ⟨rfl, hT1, hb1⟩)
    | (go_at_call 9; go_must (refine (HN1.out _ hT1).mono ?_); rintro e w2 ⟨r2, rfl, hr2, hT2, hg2⟩; have bb2 := below_one hb1 hg2 (Nat.le_refl _))
    | (go_at_call 18; go_must (refine (HPg.out _ hT2 _).mono ?_); rintro e w3 ⟨f, l, b, A3, c3, rfl, hl1, hl2, hbb, ho3, hT3, hg3⟩))
  have bb3 := below_one bb2 hg3 (Nat.le_refl _)
  have hwf : Pg.wf ⟨(r2 : Int), f, l, false, b⟩ := ⟨⟨(by first | omega | (simp only [List.length_append, List.length_cons, List.length_nil]; omega) | (simp; omega)), (by first | omega | (simp only [List.length_append, List.length_cons, List.length_nil]; omega) | (simp; omega))⟩, (by simp; omega), hbb⟩
  have hok : pgOk ⟨(r2 : Int), f, l, false, b⟩ = true := by simp [pgOk, mostB]; omega
  have HB := Lib.hid (pgbytes_any ⟨(r2 : Int), f, l, false, b⟩ A3 c3 hwf w3 ho3.rds.2.2.top)
  rw [show pgE ⟨(r2 : Int), f, l, false, b⟩ = 0 by rw [pgE, if_pos hok], show pgB ⟨(r2 : Int), f, l, false, b⟩ = pgBytes ⟨(r2 : Int), f, l, false, b⟩ by rw [pgB, if_pos (by rw [pgE, if_pos hok])]] at HB
  have hxl := pgBytes_len ⟨(r2 : Int), f, l, false, b⟩
  have hxb : byteB (pgBytes ⟨(r2 : Int), f, l, false, b⟩) := (pgHead_bytes hok hbb).append (bg_bytes _ _)
  have HTu := Lib.hid (fun pos h1 h2 y hy => rd_turned hok hbb (pos := pos) h1 h2 (y := y) hy)
  have HCu := Lib.hid (fun k h1 => rd_cut hok (k := k) h1)
  simp only at hxl HTu HCu
  generalize pgBytes ⟨(r2 : Int), f, l, false, b⟩ = x at *
  rw [← hxl] at HTu HCu
  have hn1 : 13 ≤ x.length := by omega
  have hn2 : x.length ≤ 264 := by omega
  clear hxl hwf hok hl1 hl2 hbb
  go_wp2_with (first
    | (go_at_call 17; go_must (refine HB.out.mono ?_); rintro e w4 ⟨v4, rfl, ho4, hb4⟩; obtain ⟨A4, c4, rfl, hc4, hr4, hA4⟩ := ho4.form; have hn13 : decide ((x.length : Int) < 13) = false := (by simp; omega))
    | (at_builtin; (refine wpList_append_int _ rfl (.tmp 34) (.tmp 35) _ rfl w4 w4.heap.size w4.heap.size 5 .u8 1 Try.underlying23 info_u8 _ [] rfl (OwnI.empty _ _ _ _ (Nat.le_refl _)) _ A4 _ c4 x rfl rfl (hr4.alloc (Nat.le_refl _) _) (by simp; omega) (by omega) (below_alloc (Below.refl _ _) _) (Nat.le_refl _) (by simp) ?_); intro v5 w5 ow5 bw5; rw [List.nil_append] at ow5))
  have hp1 := withinV_in (n := at_) (lo := 8) (hi := (x.length : Int) - 1) (by omega)
  have hp2 := withinV_in (n := at_) (lo := 0) (hi := (x.length : Int) - 1) (by omega)
  have HW1 := Lib.hid (fun W => within_any at_ 8 ((x.length : Int) - 1) at0 at1 (by omega) (by omega) (by omega) W)
  have HW2 := Lib.hid (fun W => within_any at_ 0 ((x.length : Int) - 1) at0 at1 (by omega) (by omega) (by omega) W)
  obtain ⟨p1, hp1e⟩ := Int.eq_ofNat_of_zero_le (show 0 ≤ withinV at_ 8 ((x.length : Int) - 1) by omega)
  obtain ⟨p2, hp2e⟩ := Int.eq_ofNat_of_zero_le hp2.1
  rw [hp1e] at hp1 HW1
  rw [hp2e] at hp2 HW2
  clear hp1e hp2e
  have hl1 : p1 < x.length := by omega
  have hl2 : p2 < x.length := by omega
  have hl8 : 8 ≤ p1 := by omega
  obtain ⟨g5, c5, rfl, hg5, hg5l, hc5, hcell5, hfz5, hset5⟩ := ow5.row (by omega)
  have z0 := hcell5 p1 hl1
  have f0 := hfz5 p1
  have HSet := Lib.hid hset5
  have hxp := hxb.getD p1
  have hyb := xor_byte8 (x.getD p1 0) by_
  have HXS := Lib.hid (xor_same8 hxp ⟨by0, by1⟩)
  have HE := Lib.hid (HTu.out p1 hl8 hl1 _ hyb)
  have HC := Lib.hid (HCu.out p2 hl2)
  clear hcell5 hfz5 hset5 ow5
  obtain ⟨a, ha⟩ : ∃ a, a = x.getD p1 0 := ⟨_, rfl⟩
  rw [← ha] at z0 hxp hyb HXS HE
  have HAD := Lib.hid ha
  clear ha
  generalize hy : bits .xor .u8 a by_ = y at *
  have ow6 := HSet.out p1 y
  have hzb : byteB (x.set p1 y) := fun z hz => by
    rcases List.mem_or_eq_of_mem_set hz with hz | hz
    · exact hxb z hz
    · rw [hz]; exact hyb
  have hzl : (x.set p1 y).length = x.length := List.length_set
  obtain ⟨Aq, cq, hvq, hcq, hrq, hqq⟩ := ow6.form
  rw [hzl] at hvq hcq
  simp only [Value.slice.injEq, true_and] at hvq
  obtain ⟨rfl, rfl⟩ := hvq
  have HR1 := Lib.hid (read_any (at_ := 0) (c := c5) hrq (Nat.le_refl _) hzb (by rw [hzl]; exact hcq) (by rw [hzl]; omega) (Nat.zero_le _))
  rw [List.drop_zero, hzl, show ((0 : Nat) : Int) = 0 from rfl] at HR1
  generalize rdE (x.set p1 y) = E1 at *
  generalize rdL (x.set p1 y) = L1 at *
  generalize rdP (x.set p1 y) = P1 at *
  have bw6 := below_put (u := .int .u8 y) (off := p1) bw5 hg5
  clear HSet ow6 hrq hcq hzb hzl hqq
  obtain ⟨Ah, hrunh, hrh, hAh⟩ := hr4.slice_h Try.underlying23 info_u8 (hh := p2) (by omega) hc4
  have hlt : (x.take p2).length = p2 := by rw [List.length_take]; omega
  have HR2 := Lib.hid (fun (W : World) (hW : Below w4.heap.size w4 W) => read_any (at_ := 0) (c := c4) (hrh.below hW (Nat.le_refl _)) hW.size (fun z hz => hxb z (List.mem_of_mem_take hz)) (by rw [hlt]; omega) (by rw [hlt]; omega) (Nat.zero_le _))
  simp only [List.drop_zero, hlt, HC.out, show ((0 : Nat) : Int) = 0 from rfl] at HR2
  generalize rdL (x.take p2) = L2 at *
  generalize rdP (x.take p2) = P2 at *
  clear hrh hlt hr4 hAh hA4
  obtain ⟨a1, a2, a3, a4, a5⟩ := P1
  obtain ⟨b1, b2, b3, b4, b5⟩ := P2
  go_upto_region 9 with (first
    | (go_at_call 19; (with_reducible refine (HW1.out _).mono ?_); rintro e w6 ⟨rfl, rfl⟩)
    | (go_at_call 20; (with_reducible refine HR1.out.mono ?_); rintro e w7 ⟨A7, c7, rfl, ho7, hb7⟩; have bw7 := below_then bw6 hb7; have bw7a := below_alloc bw7 (.cells #[.int .i64 a1, .bool a2, .bool a3, .bool a4, .slice A7 a5.length c7] 43))
    | (go_at_call 19; (with_reducible refine (HW2.out _).mono ?_); rintro e w8 ⟨rfl, rfl⟩)
    | (go_at_call 20; (with_reducible refine (HR2.out _ bw7a).mono ?_); rintro e w9 ⟨A9, c9, rfl, ho9, hb9⟩; have bw9 := below_alloc (below_then bw7a hb9) (.cells #[.int .i64 b1, .bool b2, .bool b3, .bool b4, .slice A9 b5.length c9] 43)))
  have hbz := below_then (below_then bb3 hb4) bw9
  clear HW1 HW2 HR1 HR2 z0 f0 hn13 hrunh
  by_cases hb0 : by_ = 0
  · have hE : E1 = 0 := by rw [HE.out, if_pos (HXS.out.2 hb0)]
    subst hE hb0
    clear HE HXS hy
    go_wp2_with (go_at_call 16; (with_reducible refine (HK.out _).mono ?_); rintro e w10 ⟨rfl, hb10⟩)
    go_ret
    exact ⟨rfl, below_then hbz hb10⟩
  · have hE : E1 = 5 := by rw [HE.out, if_neg (fun h => hb0 (HXS.out.1 h))]
    subst hE
    have hb0' : (by_ == 0) = false := by simpa using hb0
    clear HE HXS hy hb0
    go_wp2_with (go_at_call 16; (with_reducible refine (HK.out _).mono ?_); rintro e w10 ⟨rfl, hb10⟩)
    go_ret
    exact ⟨rfl, below_then hbz hb10⟩
end Go.Proofs.Ytkgenjgomnalpaa.pageTurned
