/- The walk of OctetReads. -/
import Derived.Test.YtpohinbhmlcfkaaOctRef4
import Derived.BigQuiet
namespace Go.Proofs.Ytpohinbhmlcfkaa.octetReads
open Go.RowKit

/-- A slice of acts: what, most, n. -/
def RdA (w : World) (B : Nat) (A : Option Addr) (acts : List (Int × Int × Int)) : Prop :=
  ∀ j, j < acts.length → ∃ ad gb ob, A = some ad ∧ gb < B ∧ ad.add (j * 3) = ⟨gb, ob, none⟩ ∧ w.cell? ⟨gb, ob, none⟩ = some (.int .i64 (acts.getD j (0, 0, 0)).1) ∧ w.cell? ⟨gb, ob + 1, none⟩ = some (.int .u64 (acts.getD j (0, 0, 0)).2.1) ∧
    w.cell? ⟨gb, ob + 2, none⟩ = some (.int .i64 (acts.getD j (0, 0, 0)).2.2)
theorem RdA.below {w w' : World} {B C : Nat} {A : Option Addr} {l : List (Int × Int × Int)} (h : RdA w B A l) (hb : Below C w w') (hC : B ≤ C) : RdA w' B A l := fun j hj => by
  obtain ⟨ad, gb, ob, e, h0, ha, h1, h2, h3⟩ := h j hj
  exact ⟨ad, gb, ob, e, h0, ha, (hb.cell (p := ⟨gb, ob, none⟩) (by simp only; omega)).trans h1, (hb.cell (p := ⟨gb, ob + 1, none⟩) (by simp only; omega)).trans h2, (hb.cell (p := ⟨gb, ob + 2, none⟩) (by simp only; omega)).trans h3⟩

theorem rdr_bytes {w : World} {T lo hi g : Nat} {s : Rs} (h : Rdr w T lo hi g s) : ∀ x ∈ s.data, 0 ≤ x ∧ x ≤ 255 := by
  obtain ⟨A, c, _, _, _, _, _, _, _, _, hby, _⟩ := h
  exact hby
theorem lump_mem (s : Rs) (m : Int) : ∀ x ∈ (s.lump m).1, x ∈ s.data := by
  have hL : s.lump m = (if ((s.num m).2.take (s.num m).1.toNat).2.err ≠ 0 then ([], { ((s.num m).2.take (s.num m).1.toNat).2 with at_ := s.at_ }) else ((s.num m).2.take (s.num m).1.toNat)) := rfl
  rw [hL]
  split
  · simp
  · intro x hx
    rw [← Rs.num_data s m]
    exact Rs.take_mem _ _ x hx

set_option maxRecDepth 100000 in
set_option maxHeartbeats 8000000 in
theorem walk (w : World) (A : Option Addr) (c : Nat) (l : List Int) (hl : ∀ x ∈ l, 0 ≤ x ∧ x ≤ 255) (hc : l.length ≤ c) (hr : RdI w w.heap.size .u8 A l)
    (Ab : Option Addr) (cb : Nat) (b : List (Int × Int × Int)) (hb : ∀ x ∈ b, (0 ≤ x.2.1 ∧ x.2.1 ≤ 18446744073709551615) ∧ -9223372036854775808 ≤ x.2.2 ∧ x.2.2 ≤ 9223372036854775807) (_hcb : b.length ≤ cb) (hrb : RdA w w.heap.size Ab b) :
    Calls Try.prog 8 #[.slice A l.length c, .slice Ab b.length cb] w fun e w' => e = .returned (.bool true) ∧ Below w.heap.size w w' := by
  by_cases h400 : 400 < l.length
  · go_enter Try.func8, Try.ntmps8
    go_wp2_with (first
      | (go_at_call 10; refine (known_any _).mono ?_; rintro e w1 ⟨rfl, hbel⟩))
    go_ret
    exact ⟨rfl, hbel⟩
  · by_cases h60 : 60 < b.length
    · go_enter Try.func8, Try.ntmps8
      go_wp2_with (first
        | (go_at_call 10; refine (known_any _).mono ?_; rintro e w1 ⟨rfl, hbel⟩))
      go_ret
      exact ⟨rfl, hbel⟩
    · have HB := Lib.hid hb
      have HLl := Lib.hid hl
      clear hb hl
      go_enter Try.func8, Try.ntmps8
      go_wp2_with (first
        | (go_at_call 10; refine (known_any _).mono ?_; rintro e w1 ⟨rfl, hbel⟩; have hr1 := hr.below hbel (Nat.le_refl _); have hs1 := hbel.size)
        | (go_at_call 12; (with_reducible refine (new_n A c l.length l rfl HLl.out (by omega) _ _ hr1).mono ?_); rintro e w2 ⟨g, rfl, hgl, h2, hbel2⟩; have hr2 := hr1.below hbel2 hs1)
        | (go_at_call 23; (with_reducible refine (newref_any A c l HLl.out (by omega) hc _ w.heap.size (Nat.le_trans hs1 hbel2.size) hr2).mono ?_); rintro e w3 ⟨q, rfl, hq0, h3, hbel3⟩; go_must (have hq : w2.heap.size ≤ q := Nat.le_of_eq hq0.symm); clear hq0))
      have b3 := below_then (below_then hbel hbel2) hbel3
      have h2' := h2.below hbel3
      have hgq : g < q := by have := h2.lt; omega
      have hwg : w.heap.size ≤ g := by omega
      obtain ⟨lo, hlo⟩ : ∃ lo, lo = w1.heap.size := ⟨_, rfl⟩
      rw [← hlo] at h2'
      have hlo2 : w.heap.size ≤ lo := by omega
      clear hlo hgl hq h2
      go_loopw [7] (fun i wr => ∃ (j : Nat) (s : Rs), j ≤ b.length ∧ i = .int .i64 j ∧ Rdr wr 56 lo g g s ∧ Rdr wr 52 0 w.heap.size q s ∧ Below w.heap.size w wr) (fun i _ => b.length - (intOf i).toNat)
      case atStart => exact ⟨0, ⟨l, 0, 0⟩, Nat.zero_le _, rfl, h2', h3, b3⟩
      case round =>
        obtain ⟨j, s, hj, rfl, hR, hO, hbx⟩ := hrel
        by_cases hlt : j < b.length
        · obtain ⟨ad, gb, ob, rfl, hgb, hadd, a0, a1, a2⟩ := (hrb.below hbx (Nat.le_refl _)) j hlt
          obtain ⟨⟨hm0, hm1⟩, hn0, hn1⟩ := HB.out (b.getD j (0, 0, 0)) (by rw [List.getD_eq_getElem?_getD, List.getElem?_eq_getElem hlt]; exact List.getElem_mem hlt)
          generalize b.getD j (0, 0, 0) = act at *
          obtain ⟨what, most, n⟩ := act
          simp only at *
          have hgr := hR.lt
          have hqr := hO.lt
          by_cases hw0 : what = 0
          · have t0 : (what == 0) = true := by simp [hw0]
            clear hw0
            go_wp2_with fail
            obtain ⟨wa, hwa⟩ : ∃ wa, wa = wr.alloc (.cells #[.int .i64 what, .int .u64 most, .int .i64 n] 49) := ⟨_, rfl⟩
            rw [← hwa]
            have bxa : Below wr.heap.size wr wa := by rw [hwa]; exact below_alloc (Below.refl _ _) _
            have k1 : wa.cell? ⟨wr.heap.size, 1, none⟩ = some (.int .u64 most) := by rw [hwa]; exact (Blk.new wr _ _).cell 1
            have k2 : wa.cell? ⟨wr.heap.size, 2, none⟩ = some (.int .i64 n) := by rw [hwa]; exact (Blk.new wr _ _).cell 2
            have hlta : wr.heap.size < wa.heap.size := by rw [hwa]; simp
            have hqa : q < wa.heap.size := by omega
            have hRa := hR.below bxa
            have hOa := hO.below bxa
            have bya := rdr_bytes hRa
            clear hwa hR hO
            go_region_held3 (fun w' => w'.cell? ⟨wr.heap.size, 1, none⟩ = some (.int .u64 most)) (first | go_keep)
              (first
                | (go_at_call 13; refine (num_any (by exact hRa) most).mono ?_; rintro e w1' ⟨rfl, hR1, hg1⟩; have hO1 := Rdr.keep (by exact hOa) hg1 (by omega) (.inr (by omega)); have k' : w1'.cell? ⟨wr.heap.size, 1, none⟩ = some (.int .u64 most) := (World.cell?_of_block (only_block hg1 (by exact hlta) (by simp only; omega))).trans (by exact k1); have hlta' : wr.heap.size < w1'.heap.size := Nat.lt_of_lt_of_le (by exact hlta) hg1.size)
                | (go_at_call 24; refine (numref_any (by exact hO1) most).mono ?_; rintro e w2' ⟨rfl, hO2, hg2⟩; obtain ⟨_, _, _, o1, o2, _⟩ := hO2.cells; have hR2 := Rdr.keep (by exact hR1) hg2 (by omega) (.inr (by omega)); have k'' : w2'.cell? ⟨wr.heap.size, 1, none⟩ = some (.int .u64 most) := (World.cell?_of_block (only_block hg2 (by exact hlta') (by simp only; omega))).trans (by exact k')))
            go_wp2_with fail
            go_quiet (first
              | (go_at_call 15; exact quiet_left (at_any (hR2.drewN _)))
              | (go_at_call 18; exact quiet_more (left_any (hR2.drewN _)))
              | (go_at_call 31; exact quiet_more (leftref_any (hO2.drewN _)))
              | (go_at_call 14; exact quiet_left (err_any (hR2.drewN _))))
            go_wp2
            go_roundw
            case rel => exact ⟨j + 1, _, by omega, by go_num, hR2.drewN _, hO2.drewN _, below_drewN (below_only (below_only (hbx.trans (bxa.mono hbx.size)) (only_undrew hg1) (by have := hbx.size; omega) hwg) hg2 (by have := hbx.size; omega) (by omega)) _⟩
            case measure => simp [intOf]; omega
          · have t0 : (what == 0) = false := by simpa using hw0
            by_cases hw1 : what = 1
            · have t1 : (what == 1) = true := by simp [hw1]
              clear hw0 hw1
              go_wp2_with fail
              obtain ⟨wa, hwa⟩ : ∃ wa, wa = wr.alloc (.cells #[.int .i64 what, .int .u64 most, .int .i64 n] 49) := ⟨_, rfl⟩
              rw [← hwa]
              have bxa : Below wr.heap.size wr wa := by rw [hwa]; exact below_alloc (Below.refl _ _) _
              have k1 : wa.cell? ⟨wr.heap.size, 1, none⟩ = some (.int .u64 most) := by rw [hwa]; exact (Blk.new wr _ _).cell 1
              have k2 : wa.cell? ⟨wr.heap.size, 2, none⟩ = some (.int .i64 n) := by rw [hwa]; exact (Blk.new wr _ _).cell 2
              have hlta : wr.heap.size < wa.heap.size := by rw [hwa]; simp
              have hqa : q < wa.heap.size := by omega
              have hRa := hR.below bxa
              have hOa := hO.below bxa
              have bya := rdr_bytes hRa
              clear hwa hR hO
              go_region_held3 (fun w' => w'.cell? ⟨wr.heap.size, 2, none⟩ = some (.int .i64 n)) (first | go_keep)
                (first
                  | (go_at_call 25; refine (rbig_any (by exact hRa) n hn0 hn1).mono ?_; rintro e w1' ⟨rfl, hR1, hg1⟩; have hO1 := Rdr.keep (by exact hOa) hg1 (by omega) (.inr (by omega)); have k' : w1'.cell? ⟨wr.heap.size, 2, none⟩ = some (.int .i64 n) := (World.cell?_of_block (only_block hg1 (by exact hlta) (by simp only; omega))).trans (by exact k2); have hlta' : wr.heap.size < w1'.heap.size := Nat.lt_of_lt_of_le (by exact hlta) hg1.size)
                  | (go_at_call 26; refine (bigref_any (by exact hO1) n hn0 hn1).mono ?_; rintro e w2' ⟨rfl, hO2, hg2⟩; obtain ⟨_, _, _, o1, o2, _⟩ := hO2.cells; have hR2 := Rdr.keep (by exact hR1) hg2 (by omega) (.inr (by omega)); have k'' : w2'.cell? ⟨wr.heap.size, 2, none⟩ = some (.int .i64 n) := (World.cell?_of_block (only_block hg2 (by exact hlta') (by simp only; omega))).trans (by exact k')))
              go_wp2_with fail
              go_quiet (first
                | (go_at_call 15; exact quiet_left (at_any (hR2.drewN _)))
                | (go_at_call 18; exact quiet_more (left_any (hR2.drewN _)))
                | (go_at_call 31; exact quiet_more (leftref_any (hO2.drewN _)))
                | (go_at_call 14; exact quiet_left (err_any (hR2.drewN _))))
              go_wp2
              go_roundw
              case rel => exact ⟨j + 1, _, by omega, by go_num, hR2.drewN _, hO2.drewN _, below_drewN (below_only (below_only (hbx.trans (bxa.mono hbx.size)) (only_undrew hg1) (by have := hbx.size; omega) hwg) hg2 (by have := hbx.size; omega) (by omega)) _⟩
              case measure => simp [intOf]; omega
            · have t1 : (what == 1) = false := by simpa using hw1
              by_cases hw2 : what = 2
              · have t2 : (what == 2) = true := by simp [hw2]
                clear hw0 hw1 hw2
                go_wp2_with fail
                obtain ⟨wa, hwa⟩ : ∃ wa, wa = wr.alloc (.cells #[.int .i64 what, .int .u64 most, .int .i64 n] 49) := ⟨_, rfl⟩
                rw [← hwa]
                have bxa : Below wr.heap.size wr wa := by rw [hwa]; exact below_alloc (Below.refl _ _) _
                have k1 : wa.cell? ⟨wr.heap.size, 1, none⟩ = some (.int .u64 most) := by rw [hwa]; exact (Blk.new wr _ _).cell 1
                have k2 : wa.cell? ⟨wr.heap.size, 2, none⟩ = some (.int .i64 n) := by rw [hwa]; exact (Blk.new wr _ _).cell 2
                have hlta : wr.heap.size < wa.heap.size := by rw [hwa]; simp
                have hqa : q < wa.heap.size := by omega
                have hRa := hR.below bxa
                have hOa := hO.below bxa
                have bya := rdr_bytes hRa
                clear hwa hR hO
                go_region_held3 (fun w' => w'.cell? ⟨wr.heap.size, 2, none⟩ = some (.int .i64 n)) (first | go_keep)
                  (first
                    | (go_at_call 27; refine (rsmall_any (by exact hRa) n hn0 hn1).mono ?_; rintro e w1' ⟨rfl, hR1, hg1⟩; have hO1 := Rdr.keep (by exact hOa) hg1 (by omega) (.inr (by omega)); have k' : w1'.cell? ⟨wr.heap.size, 2, none⟩ = some (.int .i64 n) := (World.cell?_of_block (only_block hg1 (by exact hlta) (by simp only; omega))).trans (by exact k2); have hlta' : wr.heap.size < w1'.heap.size := Nat.lt_of_lt_of_le (by exact hlta) hg1.size)
                    | (go_at_call 28; refine (smallref_any (by exact hO1) n hn0 hn1).mono ?_; rintro e w2' ⟨rfl, hO2, hg2⟩; obtain ⟨_, _, _, o1, o2, _⟩ := hO2.cells; have hR2 := Rdr.keep (by exact hR1) hg2 (by omega) (.inr (by omega)); have k'' : w2'.cell? ⟨wr.heap.size, 2, none⟩ = some (.int .i64 n) := (World.cell?_of_block (only_block hg2 (by exact hlta') (by simp only; omega))).trans (by exact k')))
                go_wp2_with fail
                go_quiet (first
                  | (go_at_call 15; exact quiet_left (at_any (hR2.drewN _)))
                  | (go_at_call 18; exact quiet_more (left_any (hR2.drewN _)))
                  | (go_at_call 31; exact quiet_more (leftref_any (hO2.drewN _)))
                  | (go_at_call 14; exact quiet_left (err_any (hR2.drewN _))))
                go_wp2
                go_roundw
                case rel => exact ⟨j + 1, _, by omega, by go_num, hR2.drewN _, hO2.drewN _, below_drewN (below_only (below_only (hbx.trans (bxa.mono hbx.size)) (only_undrew hg1) (by have := hbx.size; omega) hwg) hg2 (by have := hbx.size; omega) (by omega)) _⟩
                case measure => simp [intOf]; omega
              · have t2 : (what == 2) = false := by simpa using hw2
                by_cases hw3 : what = 3
                · have t3 : (what == 3) = true := by simp [hw3]
                  clear hw0 hw1 hw2 hw3
                  go_wp2_with fail
                  obtain ⟨wa, hwa⟩ : ∃ wa, wa = wr.alloc (.cells #[.int .i64 what, .int .u64 most, .int .i64 n] 49) := ⟨_, rfl⟩
                  rw [← hwa]
                  have bxa : Below wr.heap.size wr wa := by rw [hwa]; exact below_alloc (Below.refl _ _) _
                  have k1 : wa.cell? ⟨wr.heap.size, 1, none⟩ = some (.int .u64 most) := by rw [hwa]; exact (Blk.new wr _ _).cell 1
                  have k2 : wa.cell? ⟨wr.heap.size, 2, none⟩ = some (.int .i64 n) := by rw [hwa]; exact (Blk.new wr _ _).cell 2
                  have hlta : wr.heap.size < wa.heap.size := by rw [hwa]; simp
                  have hqa : q < wa.heap.size := by omega
                  have hRa := hR.below bxa
                  have hOa := hO.below bxa
                  have bya := rdr_bytes hRa
                  clear hwa hR hO
                  go_region_held3 (fun w' => w'.cell? ⟨wr.heap.size, 2, none⟩ = some (.int .i64 n)) (first | go_keep)
                    (first
                      | (go_at_call 19; refine (take_any (by exact hRa) n hn0 hn1).mono ?_; rintro e w1' ⟨v1, rfl, hown1, hR1, hg1⟩; obtain ⟨A1, c1, rfl, _, hr1, hA1⟩ := hown1.form; have hO1 := Rdr.keep (by exact hOa) hg1 (by omega) (.inr (by omega)); have k' : w1'.cell? ⟨wr.heap.size, 2, none⟩ = some (.int .i64 n) := (World.cell?_of_block (only_block hg1 (by exact hlta) (by simp only; omega))).trans (by exact k2); have hlta' : wr.heap.size < w1'.heap.size := Nat.lt_of_lt_of_le (by exact hlta) hg1.size)
                      | (go_at_call 29; refine (takeref_any (by exact hO1) n hn0 hn1).mono ?_; rintro e w2' ⟨v2, rfl, hown2, hO2, hg2⟩; obtain ⟨_, _, _, o1, o2, _⟩ := hO2.cells; obtain ⟨A2, c2, rfl, _, hr2, _⟩ := hown2.form; have hr1' := Rd.only hr1 hg2 (Nat.le_refl _) (fun ad _ h => (hA1 ad h).1) (.inl (by exact hqa)); have hR2 := Rdr.keep (by exact hR1) hg2 (by omega) (.inr (by omega)); have k'' : w2'.cell? ⟨wr.heap.size, 2, none⟩ = some (.int .i64 n) := (World.cell?_of_block (only_block hg2 (by exact hlta') (by simp only; omega))).trans (by exact k'))
                      | (go_at_call 21; go_must (refine (same_any (by exact hr1') (by exact hr2) (fun x hx => bya x (Rs.take_mem s _ x hx)) (fun x hx => bya x (Rs.take_mem s _ x hx))).mono ?_); rintro e w3' ⟨rfl, rfl⟩))
                  go_wp2_with fail
                  go_quiet (first
                    | (go_at_call 15; exact quiet_left (at_any (hR2.drewN _)))
                    | (go_at_call 18; exact quiet_more (left_any (hR2.drewN _)))
                    | (go_at_call 31; exact quiet_more (leftref_any (hO2.drewN _)))
                    | (go_at_call 14; exact quiet_left (err_any (hR2.drewN _))))
                  go_wp2
                  go_roundw
                  case rel => exact ⟨j + 1, _, by omega, by go_num, hR2.drewN _, hO2.drewN _, below_drewN (below_only (below_only (hbx.trans (bxa.mono hbx.size)) (only_undrew hg1) (by have := hbx.size; omega) hwg) hg2 (by have := hbx.size; omega) (by omega)) _⟩
                  case measure => simp [intOf]; omega
                · have t3 : (what == 3) = false := by simpa using hw3
                  clear hw0 hw1 hw2 hw3
                  go_wp2_with fail
                  obtain ⟨wa, hwa⟩ : ∃ wa, wa = wr.alloc (.cells #[.int .i64 what, .int .u64 most, .int .i64 n] 49) := ⟨_, rfl⟩
                  rw [← hwa]
                  have bxa : Below wr.heap.size wr wa := by rw [hwa]; exact below_alloc (Below.refl _ _) _
                  have k1 : wa.cell? ⟨wr.heap.size, 1, none⟩ = some (.int .u64 most) := by rw [hwa]; exact (Blk.new wr _ _).cell 1
                  have k2 : wa.cell? ⟨wr.heap.size, 2, none⟩ = some (.int .i64 n) := by rw [hwa]; exact (Blk.new wr _ _).cell 2
                  have hlta : wr.heap.size < wa.heap.size := by rw [hwa]; simp
                  have hqa : q < wa.heap.size := by omega
                  have hRa := hR.below bxa
                  have hOa := hO.below bxa
                  have bya := rdr_bytes hRa
                  clear hwa hR hO
                  obtain ⟨m, hm⟩ : ∃ m, m = (if n < 0 then 0 else n) := ⟨_, rfl⟩
                  have CL1 : Hid (∀ W : World, Rdr W 56 lo g g s → Calls Try.prog 22 #[.pointer (some ⟨g, 0, none⟩), .int .i64 n] W fun e w' => ∃ v, e = .returned v ∧
                      OwnI w' W.heap.size 5 .u8 v (s.lump m).1 ∧ Rdr w' 56 lo g g (s.lump m).2 ∧ W.grownBy w' (some g)) := fun W h => by rw [hm]; exact rlump_any h n hn0 hn1
                  have CL2 : Hid (∀ W : World, Rdr W 52 0 w.heap.size q s → Calls Try.prog 30 #[.pointer (some ⟨q, 0, none⟩), .int .i64 n] W fun e w' => ∃ v, e = .returned v ∧
                      OwnI w' W.heap.size 5 .u8 v (s.lump m).1 ∧ Rdr w' 52 0 w.heap.size q (s.lump m).2 ∧ W.grownBy w' (some q)) := fun W h => by rw [hm]; exact lumpref_any h n hn0 hn1
                  clear hm
                  go_region_held3 (fun w' => w'.cell? ⟨wr.heap.size, 2, none⟩ = some (.int .i64 n)) (first | go_keep)
                    (first
                      | (go_at_call 22; refine (CL1.out _ (by exact hRa)).mono ?_; rintro e w1' ⟨v1, rfl, hown1, hR1, hg1⟩; obtain ⟨A1, c1, rfl, _, hr1, hA1⟩ := hown1.form; have hO1 := Rdr.keep (by exact hOa) hg1 (by omega) (.inr (by omega)); have k' : w1'.cell? ⟨wr.heap.size, 2, none⟩ = some (.int .i64 n) := (World.cell?_of_block (only_block hg1 (by exact hlta) (by simp only; omega))).trans (by exact k2); have hlta' : wr.heap.size < w1'.heap.size := Nat.lt_of_lt_of_le (by exact hlta) hg1.size)
                      | (go_at_call 30; refine (CL2.out _ (by exact hO1)).mono ?_; rintro e w2' ⟨v2, rfl, hown2, hO2, hg2⟩; obtain ⟨_, _, _, o1, o2, _⟩ := hO2.cells; obtain ⟨A2, c2, rfl, _, hr2, _⟩ := hown2.form; have hr1' := Rd.only hr1 hg2 (Nat.le_refl _) (fun ad _ h => (hA1 ad h).1) (.inl (by exact hqa)); have hR2 := Rdr.keep (by exact hR1) hg2 (by omega) (.inr (by omega)); have k'' : w2'.cell? ⟨wr.heap.size, 2, none⟩ = some (.int .i64 n) := (World.cell?_of_block (only_block hg2 (by exact hlta') (by simp only; omega))).trans (by exact k'))
                      | (go_at_call 21; go_must (refine (same_any (by exact hr1') (by exact hr2) (fun x hx => bya x (lump_mem s _ x hx)) (fun x hx => bya x (lump_mem s _ x hx))).mono ?_); rintro e w3' ⟨rfl, rfl⟩))
                  go_wp2_with fail
                  go_quiet (first
                    | (go_at_call 15; exact quiet_left (at_any (hR2.drewN _)))
                    | (go_at_call 18; exact quiet_more (left_any (hR2.drewN _)))
                    | (go_at_call 31; exact quiet_more (leftref_any (hO2.drewN _)))
                    | (go_at_call 14; exact quiet_left (err_any (hR2.drewN _))))
                  go_wp2
                  go_roundw
                  case rel => exact ⟨j + 1, _, by omega, by go_num, hR2.drewN _, hO2.drewN _, below_drewN (below_only (below_only (hbx.trans (bxa.mono hbx.size)) (only_undrew hg1) (by have := hbx.size; omega) hwg) hg2 (by have := hbx.size; omega) (by omega)) _⟩
                  case measure => simp [intOf]; omega
        · go_wp2
          go_ret
          exact ⟨rfl, hbx⟩
end Go.Proofs.Ytpohinbhmlcfkaa.octetReads
