/- The reference's PicSum. -/
import Derived.Test.YtbmgnclfecejeaaPicSum
import Derived.Test.YtbmgnclfecejeaaPicRIs
import Derived.Test.YtbmgnclfecejeaaPicLast
set_option linter.unusedSimpArgs false
set_option linter.unusedVariables false
namespace Go.Proofs.Ytbmgnclfecejeaa
open Go.RowKit

set_option maxHeartbeats 8000000 in
theorem rsum_any {w : World} {B : Nat} {q : Pc} {A : Option Addr} {c : Nat} (hr : RdLL w B .i64 A q.p) (hB : B ≤ w.heap.size) (h63 : Len63 q.p) :
    Calls Try.prog 45 #[.agg #[.int .i64 q.w, .int .i64 q.h, .int .i64 q.d, .slice A q.p.length c]] w fun e w' => e = .returned (.int .u32 (sumV q)) ∧ Below w.heap.size w w' := by
  have HI := Lib.hid (fun W (hb : Below w.heap.size w W) => picis_any (c := c) (hr.below hb hB) (Nat.le_trans hB hb.size) h63)
  cases hq : isB q
  · rw [hq] at HI
    have HF := Lib.hid (show sumV q = 0 by simp [sumV, hq])
    clear hq
    go_enter Try.func45, Try.ntmps45
    go_wp2_with (first
      | (go_at_call 44; go_must (refine (HI.out _ (by repeat (first | exact Below.refl _ _ | assumption | refine Below.drew ?_ | refine below_drewN ?_ _ | refine below_alloc ?_ _))).mono ?_); rintro e w1 ⟨rfl, hb1⟩; have bb1 := below_then (below_alloc (Below.refl w.heap.size w) _) hb1))
    go_ret
    exact ⟨ret_int HF.out.symm, bb1⟩
  · rw [hq] at HI
    have HF := Lib.hid (show sumV q = crc (sumL q) by simp [sumV, hq])
    have HB := Lib.hid (sumL_byte hq)
    obtain ⟨⟨b1, b1'⟩, ⟨b2, b2'⟩, ⟨b3, b3'⟩, ⟨b4, b4'⟩, b5⟩ := isB_sum hq
    clear hq
    obtain ⟨qw, qh, qd, qp⟩ := q
    simp only at *
    have H5 := Lib.hid b5
    clear b5
    go_enter Try.func45, Try.ntmps45
    go_wp2_with (first
      | (go_at_call 44; go_must (refine (HI.out _ (by repeat (first | exact Below.refl _ _ | assumption | refine Below.drew ?_ | refine below_drewN ?_ _ | refine below_alloc ?_ _))).mono ?_); rintro e w1 ⟨rfl, hb1⟩; have k1 := (Blk.new w 28 #[.int .i64 qw, .int .i64 qh, .int .i64 qd, .slice A qp.length c]).below hb1 (by simp); obtain ⟨y0, y1, y2, y3, _⟩ := k1.four; have bb1 := below_then (below_alloc (Below.refl w.heap.size w) _) hb1))
    have ow := OwnI.lit w1 w1.heap.size 5 .u8 [qw, qh, qd, (qp.length : Int)] #[.int .u8 qw, .int .u8 qh, .int .u8 qd, .int .u8 (qp.length : Int)] rfl (Nat.le_refl _) (by simp [maxLen])
    have bw := below_alloc (Below.refl w1.heap.size w1) (.cells #[.int .u8 qw, .int .u8 qh, .int .u8 qd, .int .u8 (qp.length : Int)] 5)
    generalize w1.alloc (.cells #[.int .u8 qw, .int .u8 qh, .int .u8 qd, .int .u8 (qp.length : Int)] 5) = wa at *
    have hbs := bb1.size
    have hr1 := hr.below bb1 hB
    clear hr y0 y1 y2 y3
    go_loopw [3, 4] (fun v i wr => ∃ (j : Nat), j ≤ qp.length ∧ i = .int .i64 j ∧ Below w1.heap.size w1 wr ∧ OwnI wr w1.heap.size 5 .u8 v ([qw, qh, qd, (qp.length : Int)] ++ sumP (qp.take j))) (fun _ i _ => qp.length - (intOf i).toNat)
    case atStart => exact ⟨0, Nat.zero_le _, rfl, bw, ow⟩
    case round =>
      obtain ⟨j, hj, rfl, hbr, hor⟩ := hrel
      have y3 := (k1.below hbr k1.lt).cell 3
      by_cases hlt : j < qp.length
      · obtain ⟨ad, Aj, cj, rfl, hadB, hcell1, hcj, hrj⟩ := hr1 j hlt
        have HE : Hid (sumP (qp.take (j + 1)) = sumP (qp.take j) ++ pl2 (qp.getD j []) ∧ (qp.getD j []).length ≤ 4096 ∧ (∀ v ∈ qp.getD j [], 0 ≤ v ∧ v < 65536) ∧ (sumP (qp.take j)).length ≤ 32768) := by
          have e : qp.getD j [] = qp[j] := by simp [List.getD, List.getElem?_eq_getElem hlt]
          have h5 := H5.out _ (List.getElem_mem hlt)
          rw [Hid, e, List.take_succ_eq_append_getElem hlt, sumP_snoc]
          refine ⟨rfl, h5.1, h5.2.2, ?_⟩
          have := sumP_length (p := qp.take j) (fun l hl => (H5.out l (List.mem_of_mem_take hl)).1)
          rw [List.length_take] at this
          omega
        have hll := HE.out.2.1
        generalize qp.getD j [] = l at *
        generalize sumP (qp.take j) = sp at *
        go_wp2
        clear y3
        obtain ⟨wo, hwo⟩ : ∃ wo, wo = wr := ⟨_, rfl⟩
        subst hwo
        go_loopw [3, 5] (fun v i wr => ∃ (k : Nat), k ≤ l.length ∧ i = .int .i64 k ∧ Below w1.heap.size w1 wr ∧ OwnI wr w1.heap.size 5 .u8 v (([qw, qh, qd, (qp.length : Int)] ++ sp) ++ pl2 (l.take k))) (fun _ i _ => l.length - (intOf i).toNat)
        case atStart => exact ⟨0, Nat.zero_le _, rfl, hbr, by simpa [pl2] using hor⟩
        case round =>
          obtain ⟨k, hk, rfl, hb2, ho2⟩ := hrel
          have y3 := (k1.below hb2 k1.lt).cell 3
          have hcell := (hb2.cell (p := ad.add j) (by rw [add_block]; omega)).trans hcell1
          by_cases hkl : k < l.length
          · obtain ⟨ad2, rfl, had2, hcell2'⟩ := hrj.at_ hkl
            have hcell2 := (hb2.cell (p := ad2.add k) (by rw [add_block]; omega)).trans hcell2'
            have HS : Hid (pl2 (l.take (k + 1)) = pl2 (l.take k) ++ [l.getD k 0 / 256, l.getD k 0 % 256] ∧ (pl2 (l.take k)).length ≤ 8192) := by
              rw [Hid, take_next hkl, pl2_snoc]
              exact ⟨rfl, by rw [pl2_length, List.length_take]; omega⟩
            obtain ⟨v0, v1⟩ := HE.out.2.2.1 (l.getD k 0) (by simp [List.getD, List.getElem?_eq_getElem hkl])
            have hbyte := u8_mod (l.getD k 0)
            have hbyte2 : IntKind.u8.wrap (l.getD k 0 / 256) = l.getD k 0 / 256 := by rw [u8_mod]; omega
            generalize l.getD k 0 = v at *
            generalize pl2 (l.take k) = pk at *
            have hsz2 := hb2.size
            have hszw := k1.lt
            have hcell1' := Lib.hid hcell1
            have HC2 := Lib.hid hcell2'
            clear hcell1 hcell2'
            go_wp2
            refine wp_region_last (S := (fun w' => w'.cell? ⟨w.heap.size, 3, none⟩ = some (.slice (some ad) qp.length c) ∧ w'.cell? (ad.add j) = some (.slice (some ad2) l.length cj) ∧ w'.cell? (ad2.add k) = some (.int .i64 v))) 22 _ (by simp only [List.pop_toArray, List.dropLast_cons_cons, List.dropLast_singleton]; rfl) (by kernel_rfl) (by kernel_rfl) (by kernel_rfl) (by kernel_rfl) (by kernel_rfl) ?_ (fun hHeld => ?_)
            focus exact ⟨y3, hcell, hcell2⟩
            refine wpAnyH_take (i := 0) (v := ?_) rfl (by kernel_rfl) (by kernel_rfl) (by kernel_rfl) (fun _ _ _ h => h) (Or.inl ⟨by rfl, ?_⟩) (by assumption) ?_
            rotate_left
            focus
              intro w9 hSw
              (try dsimp only at hSw)
              go_simp
              (try with_reducible rfl)
            (try simp only [Act.put, List.getElem_toArray, List.getElem_cons_succ, List.getElem_cons_zero, List.setIfInBounds_toArray, List.set_cons_zero, List.set_cons_succ])
            refine wpAnyH_take (i := 1) (v := ?_) rfl (by kernel_rfl) (by kernel_rfl) (by kernel_rfl) (fun _ _ _ h => h) (Or.inl ⟨by rfl, ?_⟩) (by assumption) ?_
            rotate_left
            focus
              intro w9 hSw
              (try dsimp only at hSw)
              go_simp
              (try with_reducible rfl)
            (try simp only [Act.put, List.getElem_toArray, List.getElem_cons_succ, List.getElem_cons_zero, List.setIfInBounds_toArray, List.set_cons_zero, List.set_cons_succ])
            refine wpAnyH_take (i := 2) (v := ?_) rfl (by kernel_rfl) (by kernel_rfl) (by kernel_rfl) (fun _ _ _ h => h) (Or.inl ⟨by rfl, ?_⟩) (by assumption) ?_
            rotate_left
            focus
              intro w9 hSw
              (try dsimp only at hSw)
              go_simp
              (try with_reducible rfl)
            (try simp only [Act.put, List.getElem_toArray, List.getElem_cons_succ, List.getElem_cons_zero, List.setIfInBounds_toArray, List.set_cons_zero, List.set_cons_succ])
            refine wpAnyH_take (i := 3) (v := ?_) rfl (by kernel_rfl) (by kernel_rfl) (by kernel_rfl) (fun _ _ _ h => h) (Or.inl ⟨by rfl, ?_⟩) (by assumption) ?_
            rotate_left
            focus
              intro w9 hSw
              (try dsimp only at hSw)
              go_simp
              (try with_reducible rfl)
            (try simp only [Act.put, List.getElem_toArray, List.getElem_cons_succ, List.getElem_cons_zero, List.setIfInBounds_toArray, List.set_cons_zero, List.set_cons_succ])
            refine wpAnyH_take (i := 4) (v := ?_) rfl (by kernel_rfl) (by kernel_rfl) (by kernel_rfl) (fun _ _ _ h => h) (Or.inl ⟨by rfl, ?_⟩) (by assumption) ?_
            rotate_left
            focus
              intro w9 hSw
              (try dsimp only at hSw)
              go_simp
              (try with_reducible rfl)
            (try simp only [Act.put, List.getElem_toArray, List.getElem_cons_succ, List.getElem_cons_zero, List.setIfInBounds_toArray, List.set_cons_zero, List.set_cons_succ])
            refine wpAnyH_take (i := 5) (v := ?_) rfl (by kernel_rfl) (by kernel_rfl) (by kernel_rfl) (fun _ _ _ h => h) (Or.inl ⟨by rfl, ?_⟩) (by assumption) ?_
            rotate_left
            focus
              intro w9 hSw
              (try dsimp only at hSw)
              go_simp
              (try with_reducible rfl)
            (try simp only [Act.put, List.getElem_toArray, List.getElem_cons_succ, List.getElem_cons_zero, List.setIfInBounds_toArray, List.set_cons_zero, List.set_cons_succ])
            refine wpAnyH_take (i := 6) (v := ?_) rfl (by kernel_rfl) (by kernel_rfl) (by kernel_rfl) (fun _ _ _ h => h) (Or.inl ⟨by rfl, ?_⟩) (by assumption) ?_
            rotate_left
            focus
              intro w9 hSw
              (try dsimp only at hSw)
              go_simp
              (try with_reducible rfl)
            (try simp only [Act.put, List.getElem_toArray, List.getElem_cons_succ, List.getElem_cons_zero, List.setIfInBounds_toArray, List.set_cons_zero, List.set_cons_succ])
            refine wpAnyH_take (i := 7) (v := ?_) rfl (by kernel_rfl) (by kernel_rfl) (by kernel_rfl) (fun _ _ _ h => h) (Or.inl ⟨by rfl, ?_⟩) (by assumption) ?_
            rotate_left
            focus
              intro w9 hSw
              (try dsimp only at hSw)
              go_simp
              (try with_reducible rfl)
            (try simp only [Act.put, List.getElem_toArray, List.getElem_cons_succ, List.getElem_cons_zero, List.setIfInBounds_toArray, List.set_cons_zero, List.set_cons_succ])
            refine wpAnyH_take (i := 8) (v := ?_) rfl (by kernel_rfl) (by kernel_rfl) (by kernel_rfl) (fun _ _ _ h => h) (Or.inl ⟨by rfl, ?_⟩) (by assumption) ?_
            rotate_left
            focus
              intro w9 hSw
              (try dsimp only at hSw)
              go_simp
              (try with_reducible rfl)
            (try simp only [Act.put, List.getElem_toArray, List.getElem_cons_succ, List.getElem_cons_zero, List.setIfInBounds_toArray, List.set_cons_zero, List.set_cons_succ])
            refine wpAnyH_take (i := 9) (v := ?_) rfl (by kernel_rfl) (by kernel_rfl) (by kernel_rfl) (fun _ _ _ h => h) (Or.inl ⟨by rfl, ?_⟩) (by assumption) ?_
            rotate_left
            focus
              intro w9 hSw
              (try dsimp only at hSw)
              go_simp
              (try with_reducible rfl)
            (try simp only [Act.put, List.getElem_toArray, List.getElem_cons_succ, List.getElem_cons_zero, List.setIfInBounds_toArray, List.set_cons_zero, List.set_cons_succ])
            refine wpAnyH_take (i := 10) (v := ?_) rfl (by kernel_rfl) (by kernel_rfl) (by kernel_rfl) (fun _ _ _ h => h) (Or.inl ⟨by rfl, ?_⟩) (by assumption) ?_
            rotate_left
            focus
              intro w9 hSw
              (try dsimp only at hSw)
              go_simp
              (try with_reducible rfl)
            (try simp only [Act.put, List.getElem_toArray, List.getElem_cons_succ, List.getElem_cons_zero, List.setIfInBounds_toArray, List.set_cons_zero, List.set_cons_succ])
            refine wpAnyH_take (i := 11) (v := ?_) rfl (by kernel_rfl) (by kernel_rfl) (by kernel_rfl) (fun _ _ _ h => h) (Or.inl ⟨by rfl, ?_⟩) (by assumption) ?_
            rotate_left
            focus
              intro w9 hSw
              (try dsimp only at hSw)
              go_simp
              (try with_reducible rfl)
            (try simp only [Act.put, List.getElem_toArray, List.getElem_cons_succ, List.getElem_cons_zero, List.setIfInBounds_toArray, List.set_cons_zero, List.set_cons_succ])
            refine wpAnyH_take (i := 12) (v := ?_) rfl (by kernel_rfl) (by kernel_rfl) (by kernel_rfl) (fun _ _ _ h => h) (Or.inl ⟨by rfl, ?_⟩) (by assumption) ?_
            rotate_left
            focus
              intro w9 hSw
              (try dsimp only at hSw)
              go_simp
              (try with_reducible rfl)
            (try simp only [Act.put, List.getElem_toArray, List.getElem_cons_succ, List.getElem_cons_zero, List.setIfInBounds_toArray, List.set_cons_zero, List.set_cons_succ])
            refine wpAnyH_take (i := 13) (v := ?_) rfl (by kernel_rfl) (by kernel_rfl) (by kernel_rfl) (fun _ _ _ h => h) (Or.inl ⟨by rfl, ?_⟩) (by assumption) ?_
            rotate_left
            focus
              intro w9 hSw
              (try dsimp only at hSw)
              go_simp
              (try with_reducible rfl)
            (try simp only [Act.put, List.getElem_toArray, List.getElem_cons_succ, List.getElem_cons_zero, List.setIfInBounds_toArray, List.set_cons_zero, List.set_cons_succ])
            refine wpAnyH_take (i := 14) (v := ?_) rfl (by kernel_rfl) (by kernel_rfl) (by kernel_rfl) (fun _ _ _ h => h) (Or.inl ⟨by rfl, ?_⟩) (by assumption) ?_
            rotate_left
            focus
              intro w9 hSw
              (try dsimp only at hSw)
              go_simp
              (try with_reducible rfl)
            (try simp only [Act.put, List.getElem_toArray, List.getElem_cons_succ, List.getElem_cons_zero, List.setIfInBounds_toArray, List.set_cons_zero, List.set_cons_succ])
            refine wpAnyH_take (i := 15) (v := ?_) rfl (by kernel_rfl) (by kernel_rfl) (by kernel_rfl) (fun _ _ _ h => h) (Or.inl ⟨by rfl, ?_⟩) (by assumption) ?_
            rotate_left
            focus
              intro w9 hSw
              (try dsimp only at hSw)
              go_simp
              (try with_reducible rfl)
            (try simp only [Act.put, List.getElem_toArray, List.getElem_cons_succ, List.getElem_cons_zero, List.setIfInBounds_toArray, List.set_cons_zero, List.set_cons_succ])
            refine wpAnyH_take (i := 16) (v := ?_) rfl (by kernel_rfl) (by kernel_rfl) (by kernel_rfl) (fun _ _ _ h => h) (Or.inl ⟨by rfl, ?_⟩) (by assumption) ?_
            rotate_left
            focus
              intro w9 hSw
              (try dsimp only at hSw)
              go_simp
              (try with_reducible rfl)
            (try simp only [Act.put, List.getElem_toArray, List.getElem_cons_succ, List.getElem_cons_zero, List.setIfInBounds_toArray, List.set_cons_zero, List.set_cons_succ])
            refine wpAnyH_take (i := 17) (v := ?_) rfl (by kernel_rfl) (by kernel_rfl) (by kernel_rfl) (fun _ _ _ h => h) (Or.inl ⟨by rfl, ?_⟩) (by assumption) ?_
            rotate_left
            focus
              intro w9 hSw
              (try dsimp only at hSw)
              go_simp
              (try with_reducible rfl)
            (try simp only [Act.put, List.getElem_toArray, List.getElem_cons_succ, List.getElem_cons_zero, List.setIfInBounds_toArray, List.set_cons_zero, List.set_cons_succ])
            refine wpAnyH_take (i := 18) (v := ?_) rfl (by kernel_rfl) (by kernel_rfl) (by kernel_rfl) (fun _ _ _ h => h) (Or.inl ⟨by rfl, ?_⟩) (by assumption) ?_
            rotate_left
            focus
              intro w9 hSw
              (try dsimp only at hSw)
              go_simp
              (try with_reducible rfl)
            (try simp only [Act.put, List.getElem_toArray, List.getElem_cons_succ, List.getElem_cons_zero, List.setIfInBounds_toArray, List.set_cons_zero, List.set_cons_succ])
            refine wpAnyH_take (i := 19) (v := ?_) rfl (by kernel_rfl) (by kernel_rfl) (by kernel_rfl) (fun _ _ _ h => h) (Or.inl ⟨by rfl, ?_⟩) (by assumption) ?_
            rotate_left
            focus
              intro w9 hSw
              (try dsimp only at hSw)
              go_simp
              (try with_reducible rfl)
            (try simp only [Act.put, List.getElem_toArray, List.getElem_cons_succ, List.getElem_cons_zero, List.setIfInBounds_toArray, List.set_cons_zero, List.set_cons_succ])
            refine wpAnyH_ready (rs := [20]) (by kernel_rfl) (by simp) (AllReadyH.cons rfl (fun K hK => ?_) AllReadyH.nil)
            go_simp
            have hlit : RdI (wr.alloc (.cells #[.int .u8 (v / 256), .int .u8 (v % 256)] 5)).drew (wr.heap.size + 1) .u8 (some ⟨wr.heap.size, 0, none⟩) [v / 256, v % 256] := RdI.lit wr .u8 [v / 256, v % 256] 5 #[.int .u8 (v / 256), .int .u8 (v % 256)] rfl
            have hmem := (ho2.alloc (.cells #[.int .u8 (v / 256), .int .u8 (v % 256)] 5)).drew
            have hb3 := Below.drew (hb2.alloc hb2.size (.cells #[.int .u8 (v / 256), .int .u8 (v % 256)] 5))
            have hbz : Below wr.heap.size wr (wr.alloc (.cells #[.int .u8 (v / 256), .int .u8 (v % 256)] 5)).drew := Below.drew (below_alloc (Below.refl _ _) _)
            have z3 := (hbz.cell (p := ⟨w.heap.size, 3, none⟩) (by simp; omega)).trans y3
            have zj := (hbz.cell (p := ad.add j) (by rw [add_block]; omega)).trans hcell
            have zk := (hbz.cell (p := ad2.add k) (by rw [add_block]; omega)).trans hcell2
            refine hK.out _ _ ?_ (fun hHeld => ?_)
            focus
             (try dsimp only)
             first | (simp [*, World.cell?_alloc_some, World.cell?_setCell_far, add_block]; done) | go_keep
            clear hK K
            refine wpAnyH_ready (rs := [21]) (by kernel_rfl) (by simp) (AllReadyH.cons rfl (fun K hK => ?_) AllReadyH.nil)
            refine step_append_int _ (by rfl) (.tmp 40) (.tmp 60) _ (by rfl) w1 w1.heap.size w1.heap.size 5 .u8 1 Try.underlying57 info_u8 _ (([qw, qh, qd, (qp.length : Int)] ++ sp) ++ pk) (by rfl) hmem _ _ 2 2 [v / 256, v % 256] (by rfl) (by rfl) hlit (by have := HE.out.2.2.2; have := HS.out.2; simp; omega) (by omega) hb3 (Nat.le_refl _) hb3.size ?_
            intro v4 w4 hown4 hbw4 hg4 _
            have x3 := (k1.below hbw4 k1.lt).cell 3
            have xj := (hbw4.cell (p := ad.add j) (by rw [add_block]; omega)).trans hcell1'.out
            have xk : w4.cell? (ad2.add k) = some (.int .i64 v) := (hbw4.cell (p := ad2.add k) (by rw [add_block]; omega)).trans HC2.out
            refine hK.out _ _ ?_ (fun hHeld => ?_)
            focus
             (try dsimp only)
             first | (simp [*, World.cell?_alloc_some, World.cell?_setCell_far, add_block]; done) | go_keep
            clear hK K
            refine wpAnyH_done (by kernel_rfl) (lastQ_step rfl (fun K hK => ?_)) _
            go_simp
            refine hK _ _ ?_
            clear hK K
            go_wp2
            go_roundw
            case rel => exact ⟨k + 1, by omega, by go_num, hbw4, by rw [HS.out.1, ← List.append_assoc]; exact hown4⟩
            case measure => simp [intOf]; omega
          · obtain rfl : k = l.length := by omega
            rw [List.take_length] at ho2
            go_wp2
            go_roundw
            case rel => exact ⟨j + 1, by omega, by go_num, hb2, by rw [HE.out.1, ← List.append_assoc]; exact ho2⟩
            case measure => simp [intOf]; omega
      · obtain rfl : j = qp.length := by omega
        rw [List.take_length] at hor
        obtain ⟨A', c', rfl, hc', hr', _⟩ := hor.form
        have HC := Lib.hid (fun W (hb : Below wr.heap.size wr W) => rthirtytwo_any (c := c') HB.out (hr'.below hb (Nat.le_refl _)) (by have := sumP_length (p := qp) (fun l hl => (H5.out l hl).1); simp only [sumL, List.length_append, List.length_cons, List.length_nil]; omega))
        go_wp2_with (first
          | (go_at_call 53; go_must (refine (HC.out _ (Below.refl _ _)).mono ?_); rintro e w3 ⟨rfl, rfl⟩))
        go_ret
        exact ⟨ret_int HF.out.symm, below_then bb1 hbr⟩
end Go.Proofs.Ytbmgnclfecejeaa
