/- Clean. -/
import Derived.Test.YtdnkdjaokmibjaaPgRead
import Derived.Test.YtdnkdjaokmibjaaMdGd
import Derived.Test.YtdnkdjaokmibjaaRPgRead
import Derived.Test.YtdnkdjaokmibjaaPgSame
set_option linter.unusedSimpArgs false
set_option linter.unusedVariables false
namespace Go.Proofs.Ytdnkdjaokmibjaa
open Go.RowKit

/-- one step of a scan: place, pages, bytes passed -/
def stp (b : List Int) (s : Nat × List Pg × Nat) : Nat × List Pg × Nat :=
  if s.1 < b.length then (if rdE (b.drop s.1) = 0 then (s.1 + (rdL (b.drop s.1)).toNat, s.2.1 ++ [rdP (b.drop s.1)], s.2.2) else (s.1 + 1, s.2.1, s.2.2 + 1)) else s
def scanK (b : List Int) : Nat → Nat × List Pg × Nat
  | 0 => (0, [], 0)
  | k + 1 => stp b (scanK b k)
def ScanEnd (b : List Int) (l : List Pg) (n : Nat) : Prop := ∃ k a, scanK b k = (a, l, n) ∧ b.length ≤ a
theorem scanK_stay {b : List Int} {k : Nat} (h : b.length ≤ (scanK b k).1) : ∀ d, scanK b (k + d) = scanK b k
  | 0 => rfl
  | d + 1 => by
    show stp b (scanK b (k + d)) = _
    rw [scanK_stay h d, stp, if_neg (by omega)]
theorem ScanEnd.unique {b : List Int} {l l' : List Pg} {n n' : Nat} (h : ScanEnd b l n) (h' : ScanEnd b l' n') : l = l' ∧ n = n' := by
  obtain ⟨k, a, e, ha⟩ := h
  obtain ⟨k', a', e', ha'⟩ := h'
  have key : scanK b k = scanK b k' := by
    rcases Nat.le_total k k' with h9 | h9
    · obtain ⟨d, rfl⟩ := Nat.exists_eq_add_of_le h9
      exact (scanK_stay (by rw [e]; exact ha) d).symm
    · obtain ⟨d, rfl⟩ := Nat.exists_eq_add_of_le h9
      exact scanK_stay (by rw [e']; exact ha') d
  rw [e, e'] at key
  simp only [Prod.mk.injEq] at key
  exact key.2
theorem rd_ok_bd {x : List Int} (hb : byteB x) (h : rdE x = 0) : rdL x = ((rdP x).body.length : Int) + 12 ∧ (rdP x).body.length + 12 ≤ x.length ∧ (rdP x).body.length ≤ 255 ∧ (rdP x).wf := by
  have h' := h
  rw [rdE_eq] at h'
  split at h'
  · omega
  · split at h'
    · omega
    · split at h'
      · omega
      · split at h'
        · omega
        · split at h'
          · omega
          · rename_i h1 h2 h3 h4 h5
            have h6 : rdOk x = true := by simpa using h4
            have h7 := of_decide_eq_true h6
            have hx7 := hb.at_ 7
            have hx8 : x.getD 7 0 ≤ 255 := hx7.2
            obtain ⟨n, hn⟩ := Int.eq_ofNat_of_zero_le hx7.1
            have hn' : (x.getD 7 0).toNat = n := by rw [hn]; rfl
            have hbd : (rdP x).body = (x.drop 8).take n := by rw [rdP_eq, if_pos h, hn']
            have hlen : (rdP x).body.length = n := by rw [hbd]; simp; omega
            have hsq : (rdP x).seq = big ((x.drop 3).take 4) := by rw [rdP_eq, if_pos h]
            have hbg := big4_bd hb 3
            refine ⟨by rw [rdL_eq, if_pos h, hlen, hn], by rw [hlen]; omega, by rw [hlen]; omega, ?_, by rw [hlen]; omega, by rw [hbd]; exact hb.part 8 n⟩
            rw [hsq]
            exact ⟨by omega, by omega⟩

set_option maxHeartbeats 8000000 in
set_option maxRecDepth 100000 in
theorem mdscan_any {b : List Int} {A : Option Addr} {c : Nat} {w : World} {B : Nat} (hr : RdI w B .u8 A b) (hB : B ≤ w.heap.size) (hb : byteB b) (hc : b.length ≤ c) (hl : b.length ≤ 1000000) :
    Calls Try.prog 21 #[.slice A b.length c] w fun e w' => ∃ v l n, e = .returned (.tuple #[v, .int .i64 ((n : Nat) : Int)]) ∧ ScanEnd b l n ∧ l.length ≤ b.length ∧
      OwnG PgR 5 33 w' w.heap.size (fun b => w.heap.size ≤ b ∧ b < w'.heap.size) v l ∧ Below w.heap.size w w' := by
  have HRd := Lib.hid (fun (W : World) (at_ : Nat) (hW : Below w.heap.size w W) (hat : at_ ≤ b.length) => read_any (c := c) (hr.below hW hB) (Nat.le_trans hB hW.size) hb hc (by omega) hat)
  have HBd := Lib.hid (fun at_ (h : rdE (b.drop at_) = 0) => rd_ok_bd (fun y hy => hb y (List.mem_of_mem_drop hy)) h)
  clear hr
  go_enter Try.func21, Try.ntmps21
  go_wp2
  go_loopw [4, 5, 6] (fun v nv av wr => ∃ k at_ l n, scanK b k = (at_, l, n) ∧ at_ ≤ b.length ∧ l.length ≤ at_ ∧ n ≤ at_ ∧ nv = .int .i64 ((n : Nat) : Int) ∧ av = .int .i64 ((at_ : Nat) : Int) ∧ OwnG PgR 5 33 wr w.heap.size (fun b => w.heap.size ≤ b ∧ b < wr.heap.size) v l ∧ Below w.heap.size w wr) (fun _ _ av _ => b.length - (intOf av).toNat)
  case atStart => exact ⟨0, 0, [], 0, rfl, Nat.zero_le _, Nat.le_refl _, Nat.le_refl _, rfl, rfl, OwnG.nil_ _ _ _ _ _ _, Below.refl _ _⟩
  case round =>
    obtain ⟨k, at_, l, n, hs, hat, hll, hn, rfl, rfl, hown, hbr⟩ := hrel
    have hszr := hbr.size
    have HSk := Lib.hid hs
    clear hs
    by_cases hlt : at_ < b.length
    · have HC := HRd.out wr at_ hbr hat
      have HSt := Lib.hid (show scanK b (k + 1) = if rdE (b.drop at_) = 0 then (at_ + (rdL (b.drop at_)).toNat, l ++ [rdP (b.drop at_)], n) else (at_ + 1, l, n + 1) by
        show stp b (scanK b k) = _
        rw [HSk.out, stp, if_pos hlt])
      have hbd := HBd.out at_
      have hdl : (b.drop at_).length = b.length - at_ := by simp
      generalize b.drop at_ = x at *
      have HBx := Lib.hid hbd
      clear hbd
      generalize rdE x = E at *
      generalize rdL x = L at *
      generalize rdP x = q at *
      obtain ⟨q1, q2, q3, q4, q5⟩ := q
      simp only [Pg.val] at HC
      replace HC := Lib.hid HC
      obtain ⟨A0, c0, rfl, hc0, _, hob0⟩ := hown.form PgR.good
      have HOw := Lib.hid hown
      clear hown
      have hw1 : IntKind.i64.wrap ((at_ : Int) + 1) = (at_ : Int) + 1 := IntWalk.i64_in _ (by omega)
      have hw2 : IntKind.i64.wrap ((n : Int) + 1) = (n : Int) + 1 := IntWalk.i64_in _ (by omega)
      go_upto_region 6 with (first
        | (go_at_call 43; (with_reducible refine HC.out.mono ?_); rintro e w6 ⟨A6, c6, rfl, ho6, hb6⟩))
      have hs6 := hb6.size
      obtain ⟨_, hc6, hr6⟩ := ho6.rds
      have bx : Below w6.heap.size w6 (w6.alloc (.cells #[.int .i64 q1, .bool q2, .bool q3, .bool q4, .slice A6 q5.length c6] 33)) := below_alloc (Below.refl _ _) _
      have kx := Blk.new w6 33 #[.int .i64 q1, .bool q2, .bool q3, .bool q4, .slice A6 q5.length c6]
      have bwx := hb6.trans (bx.mono hs6)
      have hrx' : RdS w6 (fun b => wr.heap.size ≤ b ∧ b < w6.heap.size) .u8 A6 q5 := hr6.weak (fun b hb _ => ⟨by have := hb.1; omega, hb.2.1⟩)
      have hrx := hrx'.keep (Mod.of_fresh (M := fun _ => False) bx) (fun _ _ _ h => h)
      have ow6 := HOw.out.keep PgR.good (Mod.of_fresh (M := fun _ => False) bwx) (fun _ _ _ h => h) (fun _ _ h => h)
      generalize w6.alloc (.cells #[.int .i64 q1, .bool q2, .bool q3, .bool q4, .slice A6 q5.length c6] 33) = wx at *
      have hsx := bx.size
      have x0 := kx.cell 0
      have x1 := kx.cell 1
      have x2 := kx.cell 2
      have x3 := kx.cell 3
      have x4 := kx.cell 4
      have bbx := hbr.trans (bwx.mono hszr)
      clear ho6 hr6 hb6 bx kx bwx hrx'
      by_cases hE : E = 0
      · obtain ⟨b1, b2, b3, b4⟩ := HBx.out hE
        have HWf := Lib.hid b4
        (try simp only at b1 b2 b3)
        have hd : (E != 0) = false := by rw [hE]; rfl
        have HS1 := Lib.hid (HSt.out.trans (if_pos hE))
        have hLw : IntKind.i64.wrap ((at_ : Int) + L) = (at_ : Int) + L := IntWalk.i64_in _ (by omega)
        have hLt : ((at_ + L.toNat : Nat) : Int) = (at_ : Int) + L := by omega
        have HLt := Lib.hid hLt
        have HB1 := Lib.hid (And.intro b1 b2)
        clear hE b4 hLt b1 b2
        go_wp2_with (first
          | (at_builtin; (refine wpList_push_G (v := .slice A0 l.length c0) rfl (.tmp 27) (.tmp 29) _ rfl PgR.good wx (.agg #[.int .i64 0, .bool false, .bool false, .bool false, .slice none 0 0]) 40 Try.underlying23 info_pg rfl (by omega) rfl ow6 (fun b => wr.heap.size ≤ b ∧ b < w6.heap.size) _ 1 [.int .i64 q1, .bool q2, .bool q3, .bool q4, .slice A6 q5.length c6] ⟨q1, q2, q3, q4, q5⟩ rfl rfl (show PgR _ _ _ _ from ⟨A6, c6, rfl, hc6, hrx, HWf.out⟩) (fun b => w.heap.size ≤ b ∧ b ≤ wx.heap.size) (fun b hb _ => ⟨hb.1, by have := hb.2; omega⟩) (fun b hb _ => ⟨by have := hb.1; omega, by have := hb.2; omega⟩) (fun b hb h => by have := (hob0 b hb).2; have := h.1; omega) (fun b hb => hb.2) ⟨by omega, Nat.le_refl _⟩ (by omega) (by omega) ?_); intro v7 w7 ow7 hg7 hv7))
        have hb78 : Below w.heap.size wx w7 := Below.grown (below_alloc (Below.refl wx.heap.size wx) _ |>.mono (by omega)) hg7 (by simp; omega) (fun b hb => (hob0 b hb).1)
        have hs7 := hg7.size
        simp at hs7
        go_roundw
        case rel => exact ⟨k + 1, at_ + L.toNat, _, n, HS1.out, by have := HB1.out; omega, by have := HB1.out; simp; omega, by have := HB1.out; omega, rfl, by rw [HLt.out], ow7.weak PgR.good (fun b hb hl9 => ⟨hb.1, hl9⟩), bbx.trans hb78⟩
        case measure => have := HB1.out; simp [intOf]; omega
      · have hd : (E != 0) = true := by rw [bne_iff_ne]; exact hE
        have HS1 := Lib.hid (HSt.out.trans (if_neg hE))
        have ow7 := ow6.weak PgR.good (D' := fun b => w.heap.size ≤ b ∧ b < wx.heap.size) (fun b hb hl => ⟨hb.1, hl⟩)
        have HO7 := Lib.hid ow7
        clear hE ow6 ow7
        go_wp2
        go_roundw
        case rel => exact ⟨k + 1, at_ + 1, l, n + 1, HS1.out, by omega, by omega, by omega, by first | rfl | go_num, by first | rfl | go_num, HO7.out, bbx⟩
        case measure => simp [intOf]; omega
    · have HOw := Lib.hid hown
      clear hown
      go_wp2
      go_ret2
      exact ⟨_, l, n, rfl, ⟨k, at_, HSk.out, by omega⟩, by omega, HOw.out, hbr⟩
end Go.Proofs.Ytdnkdjaokmibjaa

namespace Go.Proofs.Ytdnkdjaokmibjaa
open Go.RowKit

set_option maxHeartbeats 8000000 in
set_option maxRecDepth 100000 in
theorem rmdscan_any {b : List Int} {A : Option Addr} {c : Nat} {w : World} {B : Nat} (hr : RdI w B .u8 A b) (hB : B ≤ w.heap.size) (hb : byteB b) (hc : b.length ≤ c) (hl : b.length ≤ 1000000) :
    Calls Try.prog 42 #[.slice A b.length c] w fun e w' => ∃ v l n, e = .returned (.tuple #[v, .int .i64 ((n : Nat) : Int)]) ∧ ScanEnd b l n ∧ l.length ≤ b.length ∧
      OwnG PgR 5 33 w' w.heap.size (fun b => w.heap.size ≤ b ∧ b < w'.heap.size) v l ∧ Below w.heap.size w w' := by
  have HRd := Lib.hid (fun (W : World) (at_ : Nat) (hW : Below w.heap.size w W) (hat : at_ ≤ b.length) => rread_any (c := c) (hr.below hW hB) (Nat.le_trans hB hW.size) hb hc (by omega) hat)
  have HBd := Lib.hid (fun at_ (h : rdE (b.drop at_) = 0) => rd_ok_bd (fun y hy => hb y (List.mem_of_mem_drop hy)) h)
  clear hr
  go_enter Try.func42, Try.ntmps42
  go_wp2
  go_loopw [4, 5, 6] (fun v nv av wr => ∃ k at_ l n, scanK b k = (at_, l, n) ∧ at_ ≤ b.length ∧ l.length ≤ at_ ∧ n ≤ at_ ∧ nv = .int .i64 ((n : Nat) : Int) ∧ av = .int .i64 ((at_ : Nat) : Int) ∧ OwnG PgR 5 33 wr w.heap.size (fun b => w.heap.size ≤ b ∧ b < wr.heap.size) v l ∧ Below w.heap.size w wr) (fun _ _ av _ => b.length - (intOf av).toNat)
  case atStart => exact ⟨0, 0, [], 0, rfl, Nat.zero_le _, Nat.le_refl _, Nat.le_refl _, rfl, rfl, OwnG.nil_ _ _ _ _ _ _, Below.refl _ _⟩
  case round =>
    obtain ⟨k, at_, l, n, hs, hat, hll, hn, rfl, rfl, hown, hbr⟩ := hrel
    have hszr := hbr.size
    have HSk := Lib.hid hs
    clear hs
    by_cases hlt : at_ < b.length
    · have HC := HRd.out wr at_ hbr hat
      have HSt := Lib.hid (show scanK b (k + 1) = if rdE (b.drop at_) = 0 then (at_ + (rdL (b.drop at_)).toNat, l ++ [rdP (b.drop at_)], n) else (at_ + 1, l, n + 1) by
        show stp b (scanK b k) = _
        rw [HSk.out, stp, if_pos hlt])
      have hbd := HBd.out at_
      have hdl : (b.drop at_).length = b.length - at_ := by simp
      generalize b.drop at_ = x at *
      have HBx := Lib.hid hbd
      clear hbd
      generalize rdE x = E at *
      generalize rdL x = L at *
      generalize rdP x = q at *
      obtain ⟨q1, q2, q3, q4, q5⟩ := q
      simp only [Pg.val] at HC
      replace HC := Lib.hid HC
      obtain ⟨A0, c0, rfl, hc0, _, hob0⟩ := hown.form PgR.good
      have HOw := Lib.hid hown
      clear hown
      have hw1 : IntKind.i64.wrap ((at_ : Int) + 1) = (at_ : Int) + 1 := IntWalk.i64_in _ (by omega)
      have hw2 : IntKind.i64.wrap ((n : Int) + 1) = (n : Int) + 1 := IntWalk.i64_in _ (by omega)
      go_upto_region 6 with (first
        | (go_at_call 60; (with_reducible refine HC.out.mono ?_); rintro e w6 ⟨A6, c6, rfl, ho6, hb6⟩))
      have hs6 := hb6.size
      obtain ⟨_, hc6, hr6⟩ := ho6.rds
      have bx : Below w6.heap.size w6 (w6.alloc (.cells #[.int .i64 q1, .bool q2, .bool q3, .bool q4, .slice A6 q5.length c6] 33)) := below_alloc (Below.refl _ _) _
      have kx := Blk.new w6 33 #[.int .i64 q1, .bool q2, .bool q3, .bool q4, .slice A6 q5.length c6]
      have bwx := hb6.trans (bx.mono hs6)
      have hrx' : RdS w6 (fun b => wr.heap.size ≤ b ∧ b < w6.heap.size) .u8 A6 q5 := hr6.weak (fun b hb _ => ⟨by have := hb.1; omega, hb.2.1⟩)
      have hrx := hrx'.keep (Mod.of_fresh (M := fun _ => False) bx) (fun _ _ _ h => h)
      have ow6 := HOw.out.keep PgR.good (Mod.of_fresh (M := fun _ => False) bwx) (fun _ _ _ h => h) (fun _ _ h => h)
      generalize w6.alloc (.cells #[.int .i64 q1, .bool q2, .bool q3, .bool q4, .slice A6 q5.length c6] 33) = wx at *
      have hsx := bx.size
      have x0 := kx.cell 0
      have x1 := kx.cell 1
      have x2 := kx.cell 2
      have x3 := kx.cell 3
      have x4 := kx.cell 4
      have bbx := hbr.trans (bwx.mono hszr)
      clear ho6 hr6 hb6 bx kx bwx hrx'
      by_cases hE : E = 0
      · obtain ⟨b1, b2, b3, b4⟩ := HBx.out hE
        have HWf := Lib.hid b4
        (try simp only at b1 b2 b3)
        have hd : (E != 0) = false := by rw [hE]; rfl
        have HS1 := Lib.hid (HSt.out.trans (if_pos hE))
        have hLw : IntKind.i64.wrap ((at_ : Int) + L) = (at_ : Int) + L := IntWalk.i64_in _ (by omega)
        have hLt : ((at_ + L.toNat : Nat) : Int) = (at_ : Int) + L := by omega
        have HLt := Lib.hid hLt
        have HB1 := Lib.hid (And.intro b1 b2)
        clear hE b4 hLt b1 b2
        go_wp2_with (first
          | (at_builtin; (refine wpList_push_G (v := .slice A0 l.length c0) rfl (.tmp 27) (.tmp 29) _ rfl PgR.good wx (.agg #[.int .i64 0, .bool false, .bool false, .bool false, .slice none 0 0]) 40 Try.underlying23 info_pg rfl (by omega) rfl ow6 (fun b => wr.heap.size ≤ b ∧ b < w6.heap.size) _ 1 [.int .i64 q1, .bool q2, .bool q3, .bool q4, .slice A6 q5.length c6] ⟨q1, q2, q3, q4, q5⟩ rfl rfl (show PgR _ _ _ _ from ⟨A6, c6, rfl, hc6, hrx, HWf.out⟩) (fun b => w.heap.size ≤ b ∧ b ≤ wx.heap.size) (fun b hb _ => ⟨hb.1, by have := hb.2; omega⟩) (fun b hb _ => ⟨by have := hb.1; omega, by have := hb.2; omega⟩) (fun b hb h => by have := (hob0 b hb).2; have := h.1; omega) (fun b hb => hb.2) ⟨by omega, Nat.le_refl _⟩ (by omega) (by omega) ?_); intro v7 w7 ow7 hg7 hv7))
        have hb78 : Below w.heap.size wx w7 := Below.grown (below_alloc (Below.refl wx.heap.size wx) _ |>.mono (by omega)) hg7 (by simp; omega) (fun b hb => (hob0 b hb).1)
        have hs7 := hg7.size
        simp at hs7
        go_roundw
        case rel => exact ⟨k + 1, at_ + L.toNat, _, n, HS1.out, by have := HB1.out; omega, by have := HB1.out; simp; omega, by have := HB1.out; omega, rfl, by rw [HLt.out], ow7.weak PgR.good (fun b hb hl9 => ⟨hb.1, hl9⟩), bbx.trans hb78⟩
        case measure => have := HB1.out; simp [intOf]; omega
      · have hd : (E != 0) = true := by rw [bne_iff_ne]; exact hE
        have HS1 := Lib.hid (HSt.out.trans (if_neg hE))
        have ow7 := ow6.weak PgR.good (D' := fun b => w.heap.size ≤ b ∧ b < wx.heap.size) (fun b hb hl => ⟨hb.1, hl⟩)
        have HO7 := Lib.hid ow7
        clear hE ow6 ow7
        go_wp2
        go_roundw
        case rel => exact ⟨k + 1, at_ + 1, l, n + 1, HS1.out, by omega, by omega, by omega, by first | rfl | go_num, by first | rfl | go_num, HO7.out, bbx⟩
        case measure => simp [intOf]; omega
    · have HOw := Lib.hid hown
      clear hown
      go_wp2
      go_ret2
      exact ⟨_, l, n, rfl, ⟨k, at_, HSk.out, by omega⟩, by omega, HOw.out, hbr⟩
end Go.Proofs.Ytdnkdjaokmibjaa

namespace Go.Proofs.Ytdnkdjaokmibjaa
open Go.RowKit
set_option maxHeartbeats 4000000 in
set_option maxRecDepth 100000 in
theorem clean_any {b : List Int} {A : Option Addr} {c : Nat} {w : World} {B : Nat} (hr : RdI w B .u8 A b) (hB : B ≤ w.heap.size) (hb : byteB b) (hc : b.length ≤ c) (hl : b.length ≤ 1000000)
    {l : List Pg} {A2 : Option Addr} (c2 : Nat) {S : Nat → Prop} (hr2 : RdPg w S A2 l) (hl2 : l.length ≤ 1000000) :
    Calls Try.prog 20 #[.slice A b.length c, .slice A2 l.length c2] w fun e w' => ∃ l' n, ScanEnd b l' n ∧ e = .returned (.bool (decide (l' = l))) ∧ Below w.heap.size w w' := by
  have HSc := Lib.hid (rmdscan_any hr hB hb hc hl)
  have HR := Lib.hid (fun W (h : Below w.heap.size w W) => hr2.below PgR.good h)
  clear hr hr2
  go_enter Try.func20, Try.ntmps20
  go_wp2_with (first
    | (go_at_call 42; (with_reducible refine HSc.out.mono ?_); rintro e w1 ⟨v1, l1, n1, rfl, hs1, hl1, o1, b1⟩; obtain ⟨A1, c1, rfl, _, r1⟩ := o1.reads PgR.good (S := fun b => b < w1.heap.size) (fun b _ hl => hl); have HSm := Lib.hid (samepgs_any (w := w1) c1 c2 r1 (HR.out _ b1) (by omega) (by omega)))
    | (go_at_call 13; (with_reducible refine HSm.out.mono ?_); rintro e w2 ⟨rfl, b2⟩))
  go_ret
  exact ⟨l1, n1, hs1, rfl, below_then b1 b2⟩
end Go.Proofs.Ytdnkdjaokmibjaa
