/- The walk of OctetBack. -/
import Derived.Test.YtpohinbhmlcfkaaOctKnown
import Derived.Test.YtpohinbhmlcfkaaOctLaws
import Derived.Deep.RegionHeld3
namespace Go.Proofs.Ytpohinbhmlcfkaa.octetBack
open Go.RowKit

def lumps (b : List (List Int)) : List Int := b.flatMap lump
theorem lumps_take {b : List (List Int)} {i : Nat} (h : i < b.length) : lumps (b.take (i + 1)) = lumps (b.take i) ++ lump (b.getD i []) := by
  have h1 : b.take (i + 1) = b.take i ++ [b.getD i []] := by
    rw [List.take_succ_eq_append_getElem h]
    simp [List.getD, List.getElem?_eq_getElem h]
  rw [h1]
  simp [lumps]
theorem lump_length (x : List Int) : (lump x).length ≤ 10 + x.length := by
  have := (putOne_length x.length).2
  simp only [lump, List.length_append]
  omega
theorem lumps_length (b : List (List Int)) (h : ∀ x ∈ b, x.length ≤ 200) : (lumps b).length ≤ 210 * b.length := by
  induction b with
  | nil => simp [lumps]
  | cons x b ih =>
    have h1 : lumps (x :: b) = lump x ++ lumps b := by simp [lumps]
    have h2 := ih (fun y hy => h y (by simp [hy]))
    have h3 := lump_length x
    have h4 := h x (by simp)
    rw [h1, List.length_append, List.length_cons]
    omega

theorem put_cons (x : Int) (l : List Int) : put (x :: l) = putOne x ++ put l := by simp [put]
theorem num_at (l : List Int) (r : List Int) (hl : ∀ x ∈ l, 0 ≤ x ∧ x ≤ 18446744073709551615) (j : Nat) (hj : j < l.length) :
    Rs.num ⟨put l ++ r, (put (l.take j)).length, 0⟩ 18446744073709551615 = (l.getD j 0, ⟨put l ++ r, (put (l.take (j + 1))).length, 0⟩) := by
  have e1 : put l ++ r = put (l.take j) ++ (putOne (l.getD j 0) ++ (put (l.drop (j + 1)) ++ r)) := by
    conv => lhs; rw [← List.take_append_drop j l]
    rw [put_append, drop_cons hj, put_cons]
    simp
  have hx := hl (l.getD j 0) (by rw [List.getD_eq_getElem?_getD, List.getElem?_eq_getElem hj]; exact List.getElem_mem hj)
  have hv := vint_put (l.getD j 0) (put (l.drop (j + 1)) ++ r) hx.1 hx.2
  have hd : (put l ++ r).drop (put (l.take j)).length = putOne (l.getD j 0) ++ (put (l.drop (j + 1)) ++ r) := by rw [e1, List.drop_left]
  have hlen : (put (l.take (j + 1))).length = (put (l.take j)).length + (putOne (l.getD j 0)).length := by rw [put_take hj, List.length_append]
  unfold Rs.num
  simp only [hd, hv, hlen]
  rw [if_neg (by simp), if_neg (by simp), if_neg (by omega)]
theorem lump_at (a : List Int) (b : List (List Int)) (j : Nat) (hj : j < b.length) (hlen : ∀ x ∈ b, x.length ≤ 200) :
    Rs.lump ⟨a ++ lumps b, (a ++ lumps (b.take j)).length, 0⟩ 200 = (b.getD j [], ⟨a ++ lumps b, (a ++ lumps (b.take (j + 1))).length, 0⟩) := by
  have hx := hlen (b.getD j []) (by rw [List.getD_eq_getElem?_getD, List.getElem?_eq_getElem hj]; exact List.getElem_mem hj)
  have e0 : b.drop j = b.getD j [] :: b.drop (j + 1) := by
    rw [List.drop_eq_getElem_cons hj, List.getD_eq_getElem?_getD, List.getElem?_eq_getElem hj]
    rfl
  have e1 : lumps b = lumps (b.take j) ++ (lump (b.getD j []) ++ lumps (b.drop (j + 1))) := by
    conv => lhs; rw [← List.take_append_drop j b]
    rw [e0]
    simp [lumps]
  have el := lumps_take hj
  generalize b.getD j [] = x at *
  generalize lumps (b.drop (j + 1)) = rest at *
  have hd : (a ++ lumps b).drop (a ++ lumps (b.take j)).length = putOne x.length ++ (x ++ rest) := by
    rw [e1, ← List.append_assoc, List.drop_left, lump, List.append_assoc]
  have hv := vint_put x.length (x ++ rest) (by omega) (by omega)
  have hnum : Rs.num ⟨a ++ lumps b, (a ++ lumps (b.take j)).length, 0⟩ 200 = ((x.length : Int), ⟨a ++ lumps b, (a ++ lumps (b.take j)).length + (putOne x.length).length, 0⟩) := by
    unfold Rs.num
    simp only [hd, hv]
    rw [if_neg (by simp), if_neg (by simp), if_neg (by omega)]
  have hd2 : (a ++ lumps b).drop ((a ++ lumps (b.take j)).length + (putOne x.length).length) = x ++ rest := by
    rw [← List.drop_drop, hd, List.drop_left]
  have hl2 : (a ++ lumps (b.take (j + 1))).length = (a ++ lumps (b.take j)).length + (putOne x.length).length + x.length := by
    rw [el, lump]; simp only [List.length_append]; omega
  have hl3 : ¬ (a ++ lumps b).length - ((a ++ lumps (b.take j)).length + (putOne x.length).length) < x.length := by
    have := congrArg List.length hd2
    rw [List.length_drop] at this
    have h2 : (x ++ rest).length = x.length + rest.length := by simp
    omega
  have ht : Rs.take ⟨a ++ lumps b, (a ++ lumps (b.take j)).length + (putOne x.length).length, 0⟩ x.length = (x, ⟨a ++ lumps b, (a ++ lumps (b.take j)).length + (putOne x.length).length + x.length, 0⟩) := by
    unfold Rs.take
    simp only
    rw [if_neg (by simp), if_neg hl3, hd2, List.take_left]
  have hL : ∀ S : Rs, Rs.lump S 200 = (if ((S.num 200).2.take (S.num 200).1.toNat).2.err ≠ 0 then ([], { ((S.num 200).2.take (S.num 200).1.toNat).2 with at_ := S.at_ }) else ((S.num 200).2.take (S.num 200).1.toNat)) := fun _ => rfl
  rw [hL, hnum]
  simp only [Int.toNat_natCast]
  rw [ht, if_neg (by simp), hl2]

set_option maxRecDepth 100000 in
set_option maxHeartbeats 2000000 in
theorem walk (w : World) (A : Option Addr) (c : Nat) (l : List Int) (hl : ∀ x ∈ l, 0 ≤ x ∧ x ≤ 18446744073709551615) (_hc : l.length ≤ c) (hr : RdI w w.heap.size .u64 A l)
    (Ab : Option Addr) (cb : Nat) (b : List (List Int)) (hb : ∀ x ∈ b, ∀ y ∈ x, 0 ≤ y ∧ y ≤ 255) (_hcb : b.length ≤ cb) (hrb : RdLL w w.heap.size .u8 Ab b) :
    Calls Try.prog 7 #[.slice A l.length c, .slice Ab b.length cb] w fun e w' => e = .returned (.bool true) ∧ Below w.heap.size w w' := by
  by_cases h40 : 40 < l.length
  · go_enter Try.func7, Try.ntmps7
    go_wp2_with (first
      | (go_at_call 10; refine (known_any _).mono ?_; rintro e w1 ⟨rfl, hbel⟩))
    go_ret
    exact ⟨rfl, hbel⟩
  · by_cases h10 : 10 < b.length
    · go_enter Try.func7, Try.ntmps7
      go_wp2_with (first
        | (go_at_call 10; refine (known_any _).mono ?_; rintro e w1 ⟨rfl, hbel⟩))
      go_ret
      exact ⟨rfl, hbel⟩
    · have CP := Lib.hid (fun (W : World) (h : RdI W W.heap.size .u64 A l) => put_any A c l hl (by omega) W h)
      have hpl := put_length l
      have HLl := Lib.hid hl
      have HB := Lib.hid hb
      clear hl hb
      go_enter Try.func7, Try.ntmps7
      go_wp2_with (first
        | (go_at_call 10; refine (known_any _).mono ?_; rintro e w1 ⟨rfl, hbel⟩; have hr1 := (hr.below hbel (Nat.le_refl _)).more hbel.size)
        | (go_at_call 11; (with_reducible refine (CP.out _ hr1).mono ?_); rintro e w2 ⟨v2, rfl, hown2, hbel2⟩))
      have hb2 := below_then hbel hbel2
      have hown2' := hown2.base_ hbel.size
      go_loopw [5, 6] (fun v i wr => ∃ j : Nat, j ≤ b.length ∧ i = .int .i64 j ∧ (∀ x ∈ b.take j, x.length ≤ 200) ∧ OwnI wr w.heap.size 5 .u8 v (put l ++ lumps (b.take j)) ∧ Below w.heap.size w wr) (fun _ i _ => b.length - (intOf i).toNat)
      case atStart => exact ⟨0, Nat.zero_le _, rfl, by simp, by simpa [lumps] using hown2', hb2⟩
      case round =>
        obtain ⟨j, hj, rfl, hall, hown, hbelr⟩ := hrel
        by_cases hlt : j < b.length
        · obtain ⟨ad, Aj, cj, rfl, hadB, hcell, hcj, hrj⟩ := (hrb.below hbelr (Nat.le_refl _)) j hlt
          by_cases h200 : 200 < (b.getD j []).length
          · clear hall
            generalize b.getD j [] = x at *
            go_wp2_with fail
            go_ret
            exact ⟨rfl, hbelr⟩
          · have HL := Lib.hid (lumps_take hlt)
            have hln := lumps_length (b.take j) hall
            rw [List.length_take, Nat.min_eq_left hj] at hln
            have hlx := lump_length (b.getD j [])
            have HA : Hid (∀ y ∈ b.take (j + 1), y.length ≤ 200) := by
              intro y hy
              rw [List.take_succ_eq_append_getElem hlt] at hy
              rcases List.mem_append.1 hy with h | h
              · exact hall y h
              · have e : b.getD j [] = b[j] := by simp [List.getD, List.getElem?_eq_getElem hlt]
                simp only [List.mem_singleton] at h
                rw [h, ← e]
                omega
            clear hall
            generalize b.getD j [] = x at *
            generalize lumps (b.take j) = done at *
            have CL := Lib.hid (fun W h => lump_any Aj cj x (by omega) W h)
            generalize lump x = lx at *
            have hs := hbelr.size
            go_wp2_with (first
              | (go_at_call 20; (with_reducible refine (CL.out _ (hrj.more hs)).mono ?_); rintro e w3 ⟨v3, rfl, hown3, hbel3⟩; obtain ⟨A3, c3, rfl, hc3, hr3, _⟩ := hown3.form)
              | (at_builtin; go_must (refine wpList_append_int _ rfl (.tmp 34) (.tmp 39) _ rfl w w.heap.size w.heap.size 5 .u8 1 Try.underlying24 info_u8 _ (put l ++ done) rfl (hown.below hbel3) _ A3 lx.length c3 lx rfl rfl hr3 (by simp; omega) (by omega) (below_then hbelr hbel3) (Nat.le_refl _) (below_then hbelr hbel3).size ?_); intro v4 w4 hown4 hbel4))
            go_roundw
            case rel => exact ⟨j + 1, by omega, by go_num, HA.out, by rw [HL.out, ← List.append_assoc]; exact hown4, hbel4⟩
            case measure => simp [intOf]; omega
        · have hjl : j = b.length := by omega
          subst hjl
          have HA := Lib.hid hall
          have hln := lumps_length (b.take b.length) hall
          clear hall hlt hj
          obtain ⟨A5, c5, rfl, hc5, hr5, _⟩ := hown.form
          rw [List.take_length] at hr5 hc5 hln HA
          have HN := Lib.hid (num_at l (lumps b) HLl.out)
          have HLu := Lib.hid (fun j hj => lump_at (put l) b j hj HA.out)
          have HFB : Hid (∀ x ∈ put l ++ lumps b, 0 ≤ x ∧ x ≤ 255) := by
            intro x hx
            rcases List.mem_append.1 hx with h | h
            · unfold put at h
              obtain ⟨y, hy, hxy⟩ := List.mem_flatMap.1 h
              exact putOne_bytes y (HLl.out y hy).1 (HLl.out y hy).2 x hxy
            · unfold lumps at h
              obtain ⟨y, hy, hxy⟩ := List.mem_flatMap.1 h
              rcases List.mem_append.1 hxy with h' | h'
              · have := HA.out y hy
                exact putOne_bytes y.length (by omega) (by omega) x h'
              · exact HB.out y hy x h'
          have hfl : (put l ++ lumps b).length ≤ 10000 := by rw [List.length_append]; omega
          have HE0 := Lib.hid (show (put (l.take 0)).length = 0 by simp [put])
          go_wp2_with (first
            | (go_at_call 12; go_must (refine (new_n A5 c5 _ (put l ++ lumps b) (by simp) HFB.out (by have h := hfl; simp at h ⊢; omega) _ _ hr5).mono ?_); rintro e w6 ⟨g, rfl, hgl, h6, hbel6⟩))
          have b6 := below_then hbelr hbel6
          have HB6 := Lib.hid b6.size
          have hr6 := hr.below b6 (Nat.le_refl _)
          have hrb6 := hrb.below b6 (Nat.le_refl _)
          have hwg : w.heap.size ≤ g := by have := hbelr.size; omega
          obtain ⟨lo, hlo⟩ : ∃ lo, lo = wr.heap.size := ⟨_, rfl⟩
          rw [← hlo] at h6
          clear hlo hgl
          go_loopw [8] (fun i wx => ∃ j : Nat, j ≤ l.length ∧ i = .int .i64 j ∧ Rdr wx 56 lo g g ⟨put l ++ lumps b, (put (l.take j)).length, 0⟩ ∧ Below w.heap.size w wx) (fun i _ => l.length - (intOf i).toNat)
          case atStart => exact ⟨0, Nat.zero_le _, rfl, by rw [HE0.out]; exact h6, b6⟩
          case round =>
            rename_i wx _
            obtain ⟨j, hj, rfl, hrd, hbx⟩ := hrel
            by_cases hlt : j < l.length
            · obtain ⟨ad, rfl, hadB, hcell⟩ := (hr.below hbx (Nat.le_refl _)).at_ hlt
              have HNj := Lib.hid (HN.out j hlt)
              have hjl : (j : Int) < (l.length : Int) := by omega
              generalize l.getD j 0 = x at *
              have HC : Hid (∀ W : World, Rdr W 56 lo g g ⟨put l ++ lumps b, (put (l.take j)).length, 0⟩ → Calls Try.prog 13 #[.pointer (some ⟨g, 0, none⟩), .int .u64 18446744073709551615] W fun e w' => e = .returned (.int .u64 x) ∧ Rdr w' 56 lo g g ⟨put l ++ lumps b, (put (l.take (j + 1))).length, 0⟩ ∧ W.grownBy w' (some g)) := fun W h => by
                have h1 := num_any h 18446744073709551615
                rw [HNj.out] at h1
                exact h1
              go_wp2_with fail
              go_region_with ((go_at_call 13; go_must (refine (HC.out _ (by exact hrd)).mono ?_); rintro e w8 ⟨rfl, h8, hg8⟩; have hc8 : w8.cell? (ad.add j) = some (.int .u64 x) := (World.cell?_of_block (only_block (only_undrew hg8) (by rw [add_block]; have := hbx.size; omega) (by rw [add_block]; omega))).trans hcell))
              all_goals
                go_wp2_with fail
                go_roundw
                case rel => exact ⟨j + 1, by omega, by go_num, h8, below_one hbx (only_undrew hg8) hwg⟩
                case measure => simp [intOf]; omega
            · have hjl : j = l.length := by omega
              subst hjl
              have hrd' : Rdr wr 56 lo g g ⟨put l ++ lumps b, (put l ++ lumps (b.take 0)).length, 0⟩ := by
                have h := hrd
                rw [List.take_length] at h
                simpa [lumps] using h
              clear hrd hj hlt
              go_wp2
              go_loopw [9] (fun i wx => ∃ j : Nat, j ≤ b.length ∧ i = .int .i64 j ∧ Rdr wx 56 lo g g ⟨put l ++ lumps b, (put l ++ lumps (b.take j)).length, 0⟩ ∧ Below w.heap.size w wx) (fun i _ => b.length - (intOf i).toNat)
              case atStart => exact ⟨0, Nat.zero_le _, rfl, hrd', hbx⟩
              case round =>
                rename_i wx3 _ _ _ _ _
                clear hrd'
                obtain ⟨j, hj, rfl, hrd, hbx3⟩ := hrel
                by_cases hlt : j < b.length
                · obtain ⟨ad, Aj, cj, rfl, hadB, hcell, hcj, hrj⟩ := (hrb.below hbx3 (Nat.le_refl _)) j hlt
                  have HNj := Lib.hid (HLu.out j hlt)
                  have hjl : (j : Int) < (b.length : Int) := by omega
                  have hxb : Hid (∀ y ∈ b.getD j [], 0 ≤ y ∧ y ≤ 255) := HB.out _ (by rw [List.getD_eq_getElem?_getD, List.getElem?_eq_getElem hlt]; exact List.getElem_mem hlt)
                  generalize b.getD j [] = x at *
                  have HC : Hid (∀ W : World, Rdr W 56 lo g g ⟨put l ++ lumps b, (put l ++ lumps (b.take j)).length, 0⟩ → Calls Try.prog 22 #[.pointer (some ⟨g, 0, none⟩), .int .i64 200] W fun e w' => ∃ v, e = .returned v ∧ OwnI w' W.heap.size 5 .u8 v x ∧ Rdr w' 56 lo g g ⟨put l ++ lumps b, (put l ++ lumps (b.take (j + 1))).length, 0⟩ ∧ W.grownBy w' (some g)) := fun W h => by
                    have h1 := rlump_any h 200 (by omega) (by omega)
                    rw [if_neg (by omega), HNj.out] at h1
                    exact h1
                  go_wp2_with fail
                  go_region_with (first
                    | (go_at_call 22; go_must (refine (HC.out _ (by exact hrd)).mono ?_); rintro e w8 ⟨v8, rfl, hown8, h8, hg8⟩; obtain ⟨A8, c8, rfl, hc8', hr8, _⟩ := hown8.form; have hc8 : w8.cell? (ad.add j) = some (.slice Aj x.length cj) := (World.cell?_of_block (only_block (only_undrew hg8) (by rw [add_block]; have := hbx3.size; omega) (by rw [add_block]; omega))).trans hcell; have hrj8 := hrj.below (below_only (Below.refl w.heap.size wr) (only_undrew hg8) hbx3.size hwg) (Nat.le_refl _))
                    | (go_at_call 21; go_must (refine (same_any hr8 hrj8 hxb.out hxb.out).mono ?_); rintro e w9 ⟨rfl, rfl⟩))
                  all_goals
                    go_wp2_with fail
                    go_roundw
                    case rel => exact ⟨j + 1, by omega, by go_num, h8, below_one hbx3 (only_undrew hg8) hwg⟩
                    case measure => simp [intOf]; omega
                · have hjb : j = b.length := by omega
                  subst hjb
                  rw [List.take_length] at hrd
                  go_wp2_with (first
                    | (go_at_call 14; (with_reducible refine (err_any hrd).mono ?_); rintro e w10 ⟨rfl, rfl⟩)
                    | (go_at_call 18; (with_reducible refine (left_any hrd).mono ?_); rintro e w10 ⟨rfl, nq, rfl⟩)
                    | (go_at_call 15; go_must (refine (at_any (hrd.drewN _)).mono ?_); rintro e w10 ⟨rfl, rfl⟩))
                  go_ret
                  exact ⟨ret_true (by simp), below_drewN hbx3 _⟩
end Go.Proofs.Ytpohinbhmlcfkaa.octetBack
