/- PageLays: the walk. -/
import Derived.Test.YtkgenjgomnalpaaPgKnown
import Derived.Test.YtkgenjgomnalpaaC32Lays
import Derived.Test.YtkgenjgomnalpaaTapePk
import Derived.Deep.DeepCutAuto
import Derived.Test.YtkgenjgomnalpaaSched
set_option linter.unusedSimpArgs false
set_option linter.unusedVariables false
namespace Go.Proofs.Ytkgenjgomnalpaa.pageLays
open Go.RowKit

theorem and_bd (a m : Int) : i64B (bits .and .i64 a m) := by
  have h2 : bits .and .i64 a m = IntKind.i64.wrap ((BitVec.ofInt 64 a &&& BitVec.ofInt 64 m).toNat : Int) := rfl
  rw [h2, IntKind.wrap_i64]; unfold i64B; omega

theorem xor_byte8 (a b : Int) : 0 ≤ bits .xor .u8 a b ∧ bits .xor .u8 a b ≤ 255 := by
  have h2 : bits .xor .u8 a b = IntKind.u8.wrap ((BitVec.ofInt 8 a ^^^ BitVec.ofInt 8 b).toNat : Int) := rfl
  rw [h2, IntKind.wrap_u8]; omega
theorem shl_bd {a b : Nat} (ha : (a : Int) < 1073741824) (hb : (b : Int) < 21) : 0 ≤ wrap64 ((a : Int) * 2 ^ b) ∧ wrap64 ((a : Int) * 2 ^ b) ≤ 1125899906842624 := by
  have h1 : 2 ^ b ≤ 2 ^ 20 := Nat.pow_le_pow_right (by omega) (by omega)
  have h2 : a * 2 ^ b ≤ 1073741823 * 2 ^ 20 := Nat.mul_le_mul (by omega) h1
  have h3 : (a : Int) * 2 ^ b = ((a * 2 ^ b : Nat) : Int) := by simp
  rw [h3, IntWalk.wrap64_in _ (by omega)]
  omega
theorem Blk.drew_ {w : World} {g : Nat} {t : TypeId} {cs : Array Value} (h : Blk w g t cs) : Blk w.drew g t cs := h
theorem Blk.three {w : World} {g : Nat} {t : TypeId} {a b c d e f x y z : Value} (h : Blk w g t #[a, b, c, d, e, f]) : Blk (((w.setCell ⟨g, 0, none⟩ x).setCell ⟨g, 1, none⟩ y).setCell ⟨g, 2, none⟩ z) g t #[x, y, z, d, e, f] := ((h.set_ 0 x).set_ 1 y).set_ 2 z

set_option maxHeartbeats 8000000 in
set_option maxRecDepth 100000 in
theorem walk (w : World) (A0 : Option Addr) (c0 : Nat) (t : List Int) (ht : ∀ x ∈ t, -9223372036854775808 ≤ x ∧ x ≤ 9223372036854775807) (hc : t.length ≤ c0) (h63 : c0 ≤ 9223372036854775807) (hrt : RdI w w.heap.size .i64 A0 t)
    (p : Pk) (Ap : Option Addr) (cp : Nat) (hst : i64B p.st) (hat : i64B p.at_) (hln : i64B p.ln) (hpb : byteB p.data) (hpc : p.data.length ≤ cp) (hp63 : p.data.length ≤ 9223372036854775807) (hpr : RdI w w.heap.size .u8 Ap p.data)
    (Ab : Option Addr) (cb : Nat) (b : List Int) (hbb : byteB b) (hbc : b.length ≤ cb) (hb63 : cb ≤ 9223372036854775807) (hbr : RdI w w.heap.size .u8 Ab b) :
    Calls Try.prog 3 #[.slice A0 t.length c0, p.val Ap cp, .slice Ab b.length cb] w fun e w' => e = .returned (.bool true) ∧ Below w.heap.size w w' := by
  have HK := Lib.hid (fun W => known_any W)
  obtain ⟨st, at_, ln, key, hid, data⟩ := p
  simp only [Pk.val] at *
  by_cases h70 : 70000 < data.length
  · have h70' : decide ((70000 : Int) < (data.length : Int)) = true := by simp; omega
    clear ht hrt hpr hbr
    go_enter Try.func3, Try.ntmps3
    go_wp2
    go_ret
    exact ⟨rfl, below_alloc (Below.refl _ _) _⟩
  · have h70' : decide ((70000 : Int) < (data.length : Int)) = false := by simp; omega
    by_cases h20 : 2000 < b.length
    · have h20' : decide ((2000 : Int) < (b.length : Int)) = true := by simp; omega
      clear ht hrt hpr hbr
      go_enter Try.func3, Try.ntmps3
      go_wp2
      go_ret
      exact ⟨rfl, below_alloc (Below.refl _ _) _⟩
    · have h20' : decide ((2000 : Int) < (b.length : Int)) = false := by simp; omega
      have hw : Pk.wf ⟨st, at_, ln, key, hid, data⟩ := ⟨hst, hat, hln, by simp; omega, hpb⟩
      have HPW := Lib.hid hw
      have HBB := Lib.hid hbb
      have HN := Lib.hid (fun (W : World) (g : Nat) (hW : TapeB W w.heap.size g) n n0 n1 => next_any hW n n0 n1)
      have HBy := Lib.hid (fun (W : World) (g : Nat) (hW : TapeB W w.heap.size g) => tapebytes_any hW 300 (by omega) (by omega))
      clear hst hat hln hpb hw hbb
      go_enter Try.func3, Try.ntmps3
      go_upto_region 3 with fail
      have kp := Blk.new w 25 #[.int .i64 st, .int .i64 at_, .int .i64 ln, .bool key, .bool hid, .slice Ap data.length cp]
      have b0 := below_alloc (Below.refl w.heap.size w) (.cells #[.int .i64 st, .int .i64 at_, .int .i64 ln, .bool key, .bool hid, .slice Ap data.length cp] 25)
      have hs0 : (w.alloc (.cells #[.int .i64 st, .int .i64 at_, .int .i64 ln, .bool key, .bool hid, .slice Ap data.length cp] 25)).heap.size = w.heap.size + 1 := by simp
      generalize w.alloc (.cells #[.int .i64 st, .int .i64 at_, .int .i64 ln, .bool key, .bool hid, .slice Ap data.length cp] 25) = w0 at *
      have HT := Lib.hid (newtape_any A0 t c0 ht hc (by omega) w0 (hrt.below b0 (Nat.le_refl _)) (by omega))
      have hpr0 := hpr.below b0 (Nat.le_refl _)
      have hbr0 := hbr.below b0 (Nat.le_refl _)
      have HS0 := Lib.hid hs0
      clear ht hrt hpr hbr hs0
      go_upto_region 5 with (first
        | (go_at_call 8; (with_reducible refine HT.out.mono ?_); rintro e w1 ⟨rfl, hT1, hb1⟩)
        | (go_at_call 9; (with_reducible refine (HN.out _ _ hT1 4 (by omega) (by omega)).mono ?_); rintro e w2 ⟨r2, rfl, hr2, hT2, hg2⟩)
        | (go_at_call 9; (with_reducible refine (HN.out _ _ hT2 1073741824 (by omega) (by omega)).mono ?_); rintro e w3 ⟨r3, rfl, hr3, hT3, hg3⟩)
        | (go_at_call 9; (with_reducible refine (HN.out _ _ hT3 21 (by omega) (by omega)).mono ?_); rintro e w4 ⟨r4, rfl, hr4, hT4, hg4⟩)
        | (go_at_call 9; (with_reducible refine (HN.out _ _ hT4 1048576 (by omega) (by omega)).mono ?_); rintro e w5 ⟨r5, rfl, hr5, hT5, hg5⟩)
        | (go_at_call 9; (with_reducible refine (HN.out _ _ hT5 2 (by omega) (by omega)).mono ?_); rintro e w6 ⟨r6, rfl, hr6, hT6, hg6⟩)
        | (go_at_call 9; (with_reducible refine (HN.out _ _ hT6 2 (by omega) (by omega)).mono ?_); rintro e w7 ⟨r7, rfl, hr7, hT7, hg7⟩)
        | (go_at_call 10; (with_reducible refine (HBy.out _ _ hT7).mono ?_); rintro e w8 ⟨v8, l, rfl, hl, hlb, ho8, hT8, hg8⟩; obtain ⟨A8, c8, rfl, hc8, hr8, hA8⟩ := ho8.form))
      have hTb := shl_bd hr3 hr4
      obtain ⟨f6, hf6⟩ : ∃ f, f = ((r6 : Int) == 0) := ⟨_, rfl⟩
      obtain ⟨f7, hf7⟩ : ∃ f, f = ((r7 : Int) == 0) := ⟨_, rfl⟩
      rw [← hf6, ← hf7]
      clear hf6 hf7
      generalize wrap64 ((r3 : Int) * 2 ^ r4) = T at *
      have hg17 := only_trans (only_trans (only_trans (only_trans (only_trans (only_trans (only_trans hg2 hg3) hg4) hg5) hg6) hg7) hg8) (only_refl _ _)
      obtain ⟨gt, hgt⟩ : ∃ gt, gt = w0.heap.size := ⟨_, rfl⟩
      rw [← hgt] at hT1 hT8 hg17 ⊢
      have hm08 : Mod (fun b => gt ≤ b) w0 w8 := (Mod.of_below hb1 (fun b h _ => by omega)).trans (Mod.of_only (M := fun b => gt ≤ b) hg17 (fun _ => by omega)) (fun b h _ => h)
      have b8 : Below w.heap.size w w8 := b0.trans (hm08.below (B := w.heap.size) (by have := HS0.out; omega) (fun b hb => by have := HS0.out; omega))
      have kp8 := kp.mod hm08 (by have := HS0.out; omega)
      have hpr8 := RdS.keep hpr0.rds hm08 (fun b hb _ => by have := HS0.out; omega)
      have hbr8 := RdS.keep hbr0.rds hm08 (fun b hb _ => by have := HS0.out; omega)
      have hgt8 : gt < w8.heap.size := hT8.lt
      have hwgt : w.heap.size < gt := by have := HS0.out; omega
      have hX : Pk.wf ⟨(r2 : Int), T, (r5 : Int), f6, f7, l⟩ := ⟨⟨(by first | omega | (simp only [List.length_append, List.length_cons, List.length_nil]; omega) | (simp; omega)), (by first | omega | (simp only [List.length_append, List.length_cons, List.length_nil]; omega) | (simp; omega))⟩, ⟨(by first | omega | (simp only [List.length_append, List.length_cons, List.length_nil]; omega) | (simp; omega)), (by first | omega | (simp only [List.length_append, List.length_cons, List.length_nil]; omega) | (simp; omega))⟩, ⟨(by first | omega | (simp only [List.length_append, List.length_cons, List.length_nil]; omega) | (simp; omega)), (by first | omega | (simp only [List.length_append, List.length_cons, List.length_nil]; omega) | (simp; omega))⟩, (by first | omega | (simp only [List.length_append, List.length_cons, List.length_nil]; omega) | (simp; omega)), hlb⟩
      have hXE : layE ⟨(r2 : Int), T, (r5 : Int), f6, f7, l⟩ = 0 := by
        rw [layE, if_pos (by simp [Pk.head]; omega), if_neg (by simp; omega)]
      have hr8s := RdS.weak (S' := fun b => gt < b ∧ b < w8.heap.size) ho8.rds.2.2 (fun b hb _ => ⟨by have := hb.1; have := hg2.size; have := hg3.size; have := hg4.size; have := hg5.size; have := hg6.size; have := hg7.size; have := hT1.lt; omega, hb.2.1⟩)
      have kx := Blk.new w8 25 #[.int .i64 (r2 : Int), .int .i64 T, .int .i64 (r5 : Int), .bool f6, .bool f7, .slice A8 l.length c8]
      have bx : Below w8.heap.size w8 (w8.alloc (.cells #[.int .i64 (r2 : Int), .int .i64 T, .int .i64 (r5 : Int), .bool f6, .bool f7, .slice A8 l.length c8] 25)) := below_alloc (Below.refl _ _) _
      generalize w8.alloc (.cells #[.int .i64 (r2 : Int), .int .i64 T, .int .i64 (r5 : Int), .bool f6, .bool f7, .slice A8 l.length c8] 25) = wx at *
      have x0 := kx.cell 0
      have x1 := kx.cell 1
      have x2 := kx.cell 2
      have x3 := kx.cell 3
      have x4 := kx.cell 4
      have x5 := kx.cell 5
      have hgx := kx.lt
      have HL := Lib.hid (lay_any ⟨(r2 : Int), T, (r5 : Int), f6, f7, l⟩ A8 c8 hX wx ((hr8s.top.below bx (Nat.le_refl _)).more bx.size))
      have hXB : layB ⟨(r2 : Int), T, (r5 : Int), f6, f7, l⟩ = Pk.bytes ⟨(r2 : Int), T, (r5 : Int), f6, f7, l⟩ := by rw [layB, if_pos hXE]
      have hbl := bytes_len ⟨(r2 : Int), T, (r5 : Int), f6, f7, l⟩
      have hbyt := bytes_byte hXE hX
      obtain ⟨hoE, hoP⟩ := open_back hXE
      rw [hXE, hXB] at HL
      generalize Pk.bytes ⟨(r2 : Int), T, (r5 : Int), f6, f7, l⟩ = x at *
      simp only at hbl
      have hxl1 : 18 ≤ x.length := by omega
      have hxl2 : x.length ≤ 318 := by omega
      have HBL := Lib.hid hbl
      clear hbl
      have HO := Lib.hid (fun (W : World) (A : Option Addr) (c : Nat) (hr : RdI W W.heap.size .u8 A x) (hc : x.length ≤ c) => open_any (c := c) hr (Nat.le_refl _) hbyt hc (by omega))
      rw [hoE, hoP] at HO
      have HGT := Lib.hid hgt
      clear hgt hXE hXB hoE hoP hb1 hg2 hg3 hg4 hg5 hg6 hg7 hg8 hg17 hm08 hT1 hT2 hT3 hT4 hT5 hT6 hT7 ho8 hr8 hA8
      go_upto_region 7 with (first
        | (go_at_call 11; (with_reducible refine HL.out.mono ?_); rintro e w9 ⟨v9, rfl, ho9, hb9⟩; obtain ⟨A9, c9, rfl, hc9, hr9, _⟩ := ho9.form)
        | (go_at_call 12; (with_reducible refine (HO.out _ _ _ hr9 hc9).mono ?_); rintro e w10 ⟨A10, c10, rfl, ho10, hb10⟩))
      have hb09 := below_then bx hb9
      have k11 := Blk.new w10 25 #[.int .i64 (r2 : Int), .int .i64 T, .int .i64 (r5 : Int), .bool f6, .bool f7, .slice A10 l.length c10]
      have b11 : Below w10.heap.size w10 (w10.alloc (.cells #[.int .i64 (r2 : Int), .int .i64 T, .int .i64 (r5 : Int), .bool f6, .bool f7, .slice A10 l.length c10] 25)) := below_alloc (Below.refl _ _) _
      generalize w10.alloc (.cells #[.int .i64 (r2 : Int), .int .i64 T, .int .i64 (r5 : Int), .bool f6, .bool f7, .slice A10 l.length c10] 25) = wo at *
      have b10 := below_then hb09 hb10
      have bo := below_then b10 b11
      have kpo := kp8.below bo (by omega)
      have y0 := kpo.cell 0
      have y1 := kpo.cell 1
      have y2 := kpo.cell 2
      have y3 := kpo.cell 3
      have y4 := kpo.cell 4
      have y5 := kpo.cell 5
      clear x0 x1 x2 x3 x4 x5
      go_upto_region 8 with fail
      clear y0 y1 y2 y3 y4 y5
      have ky := Blk.new wo 25 #[.int .i64 st, .int .i64 at_, .int .i64 ln, .bool key, .bool hid, .slice Ap data.length cp]
      have by_ : Below wo.heap.size wo (wo.alloc (.cells #[.int .i64 st, .int .i64 at_, .int .i64 ln, .bool key, .bool hid, .slice Ap data.length cp] 25)) := below_alloc (Below.refl _ _) _
      generalize wo.alloc (.cells #[.int .i64 st, .int .i64 at_, .int .i64 ln, .bool key, .bool hid, .slice Ap data.length cp] 25) = wy at *
      have hws : w8.heap.size < w9.heap.size := Nat.lt_of_lt_of_le hgx hb9.size
      have hso : w10.heap.size < wo.heap.size := k11.lt
      have hs910 := hb10.size
      have kpy := kpo.below by_ (by omega)
      have y0 := kpy.cell 0
      have y1 := kpy.cell 1
      have y2 := kpy.cell 2
      have z0 := ky.cell 0
      have z1 := ky.cell 1
      have z2 := ky.cell 2
      have u0 := ky.frozen 0
      have u1 := ky.frozen 1
      have u2 := ky.frozen 2
      have hne : wo.heap.size ≠ w.heap.size := by omega
      obtain ⟨s1, hs1⟩ : ∃ s1, s1 = bits .and .i64 st 3 := ⟨_, rfl⟩
      obtain ⟨s2, hs2⟩ : ∃ s2, s2 = bits .and .i64 at_ 1125899906842623 := ⟨_, rfl⟩
      obtain ⟨s3, hs3⟩ : ∃ s3, s3 = bits .and .i64 ln 1125899906842624 := ⟨_, rfl⟩
      have hA1 : i64B s1 := by rw [hs1]; exact and_bd _ _
      have hA2 : i64B s2 := by rw [hs2]; exact and_bd _ _
      have hA3 : i64B s3 := by rw [hs3]; exact and_bd _ _
      replace hs1 := hs1.symm
      replace hs2 := hs2.symm
      replace hs3 := hs3.symm
      refine wp_region_sched (S := (fun w' => w'.cell? ⟨w.heap.size, 0, none⟩ = some (.int .i64 st) ∧ w'.cell? ⟨w.heap.size, 1, none⟩ = some (.int .i64 at_) ∧ w'.cell? ⟨w.heap.size, 2, none⟩ = some (.int .i64 ln))) [(0, 2), (1, 2), (2, 2), (3, 2), (4, 2), (5, 2), (6, 2), (7, 2), (8, 2), (9, 1), (10, 0), (11, 1), (12, 0), (13, 1), (14, 0)] (by kernel_rfl) (by kernel_rfl) (by kernel_rfl) (fun _ _ d _ _ h => by cases d <;> exact h) ?_ (fun hHeld opsV hOps => ?_)
      focus exact ⟨y0, y1, y2⟩
      refine wpSched_take (v := ?_) hOps rfl (Or.inl ⟨by kernel_rfl, ?_⟩) ?_
      rotate_left
      focus
        intro w9 hSw'
        (try dsimp only at hSw')
        go_simp
        (try with_reducible rfl)
      (try simp only [Act.put, List.getElem_toArray, List.getElem_cons_succ, List.getElem_cons_zero, List.setIfInBounds_toArray, List.set_cons_zero, List.set_cons_succ])
      refine wpSched_take (v := ?_) hOps rfl (Or.inl ⟨by kernel_rfl, ?_⟩) ?_
      rotate_left
      focus
        intro w9 hSw'
        (try dsimp only at hSw')
        go_simp
        (try with_reducible rfl)
      (try simp only [Act.put, List.getElem_toArray, List.getElem_cons_succ, List.getElem_cons_zero, List.setIfInBounds_toArray, List.set_cons_zero, List.set_cons_succ])
      refine wpSched_take (v := ?_) hOps rfl (Or.inl ⟨by kernel_rfl, ?_⟩) ?_
      rotate_left
      focus
        intro w9 hSw'
        (try dsimp only at hSw')
        go_simp
        (try with_reducible rfl)
      (try simp only [Act.put, List.getElem_toArray, List.getElem_cons_succ, List.getElem_cons_zero, List.setIfInBounds_toArray, List.set_cons_zero, List.set_cons_succ])
      refine wpSched_take (v := ?_) hOps rfl (Or.inl ⟨by kernel_rfl, ?_⟩) ?_
      rotate_left
      focus
        intro w9 hSw'
        (try dsimp only at hSw')
        go_simp
        (try with_reducible rfl)
      (try simp only [Act.put, List.getElem_toArray, List.getElem_cons_succ, List.getElem_cons_zero, List.setIfInBounds_toArray, List.set_cons_zero, List.set_cons_succ])
      refine wpSched_take (v := ?_) hOps rfl (Or.inl ⟨by kernel_rfl, ?_⟩) ?_
      rotate_left
      focus
        intro w9 hSw'
        (try dsimp only at hSw')
        go_simp
        (try with_reducible rfl)
      (try simp only [Act.put, List.getElem_toArray, List.getElem_cons_succ, List.getElem_cons_zero, List.setIfInBounds_toArray, List.set_cons_zero, List.set_cons_succ])
      refine wpSched_take (v := ?_) hOps rfl (Or.inl ⟨by kernel_rfl, ?_⟩) ?_
      rotate_left
      focus
        intro w9 hSw'
        (try dsimp only at hSw')
        go_simp
        (try with_reducible rfl)
      (try simp only [Act.put, List.getElem_toArray, List.getElem_cons_succ, List.getElem_cons_zero, List.setIfInBounds_toArray, List.set_cons_zero, List.set_cons_succ])
      refine wpSched_take (v := ?_) hOps rfl (Or.inl ⟨by kernel_rfl, ?_⟩) ?_
      rotate_left
      focus
        intro w9 hSw'
        (try dsimp only at hSw')
        go_simp
        (try with_reducible rfl)
      (try simp only [Act.put, List.getElem_toArray, List.getElem_cons_succ, List.getElem_cons_zero, List.setIfInBounds_toArray, List.set_cons_zero, List.set_cons_succ])
      refine wpSched_take (v := ?_) hOps rfl (Or.inl ⟨by kernel_rfl, ?_⟩) ?_
      rotate_left
      focus
        intro w9 hSw'
        (try dsimp only at hSw')
        go_simp
        (try with_reducible rfl)
      (try simp only [Act.put, List.getElem_toArray, List.getElem_cons_succ, List.getElem_cons_zero, List.setIfInBounds_toArray, List.set_cons_zero, List.set_cons_succ])
      refine wpSched_take (v := ?_) hOps rfl (Or.inl ⟨by kernel_rfl, ?_⟩) ?_
      rotate_left
      focus
        intro w9 hSw'
        (try dsimp only at hSw')
        go_simp
        (try with_reducible rfl)
      (try simp only [Act.put, List.getElem_toArray, List.getElem_cons_succ, List.getElem_cons_zero, List.setIfInBounds_toArray, List.set_cons_zero, List.set_cons_succ])
      refine wpSched_take (v := ?_) hOps rfl (Or.inl ⟨by kernel_rfl, ?_⟩) ?_
      rotate_left
      focus
        intro w9 hSw'
        (try dsimp only at hSw')
        go_simp
        (try with_reducible rfl)
      (try simp only [Act.put, List.getElem_toArray, List.getElem_cons_succ, List.getElem_cons_zero, List.setIfInBounds_toArray, List.set_cons_zero, List.set_cons_succ])
      refine wpSched_step hOps rfl (fun K hK => ?_)
      go_simp
      refine hK.out _ _ ?_ (fun hHeld => ?_)
      focus
       (try dsimp only)
       first | (simp [*, World.cell?_alloc_some, World.cell?_setCell_far, add_block]; done) | go_keep
      clear hK K
      obtain ⟨wA, hwA⟩ : ∃ wA, wA = (wy.setCell ⟨wo.heap.size, 0, none⟩ (.int .i64 s1)).drew := ⟨_, rfl⟩
      have kyA : Blk wA wo.heap.size 25 #[.int .i64 s1, .int .i64 at_, .int .i64 ln, .bool key, .bool hid, .slice Ap data.length cp] := by rw [hwA]; exact Blk.drew_ (Blk.set_ ky 0 _)
      have bA : Below wo.heap.size wo wA := by rw [hwA]; exact (below_put by_ (Nat.le_refl _)).drew
      rw [← hwA] at hHeld ⊢
      have z1 := kyA.cell 1
      have u1 := kyA.frozen 1
      clear hwA z0 z2 u0 u2
      refine wpSched_take (v := ?_) hOps rfl (Or.inl ⟨by kernel_rfl, ?_⟩) ?_
      rotate_left
      focus
        intro w9 hSw'
        (try dsimp only at hSw')
        go_simp
        (try with_reducible rfl)
      (try simp only [Act.put, List.getElem_toArray, List.getElem_cons_succ, List.getElem_cons_zero, List.setIfInBounds_toArray, List.set_cons_zero, List.set_cons_succ])
      refine wpSched_step hOps rfl (fun K hK => ?_)
      go_simp
      refine hK.out _ _ ?_ (fun hHeld => ?_)
      focus
       (try dsimp only)
       first | (simp [*, World.cell?_alloc_some, World.cell?_setCell_far, add_block]; done) | go_keep
      clear hK K
      obtain ⟨wB, hwB⟩ : ∃ wB, wB = (wA.setCell ⟨wo.heap.size, 1, none⟩ (.int .i64 s2)) := ⟨_, rfl⟩
      have kyB : Blk wB wo.heap.size 25 #[.int .i64 s1, .int .i64 s2, .int .i64 ln, .bool key, .bool hid, .slice Ap data.length cp] := by rw [hwB]; exact Blk.set_ kyA 1 _
      have bB : Below wo.heap.size wo wB := by rw [hwB]; exact (below_put bA (Nat.le_refl _))
      rw [← hwB] at hHeld ⊢
      have z2 := kyB.cell 2
      have u2 := kyB.frozen 2
      clear hwB z1 u1
      refine wpSched_take (v := ?_) hOps rfl (Or.inl ⟨by kernel_rfl, ?_⟩) ?_
      rotate_left
      focus
        intro w9 hSw'
        (try dsimp only at hSw')
        go_simp
        (try with_reducible rfl)
      (try simp only [Act.put, List.getElem_toArray, List.getElem_cons_succ, List.getElem_cons_zero, List.setIfInBounds_toArray, List.set_cons_zero, List.set_cons_succ])
      refine wpSched_step hOps rfl (fun K hK => ?_)
      go_simp
      refine hK.out _ _ ?_ (fun hHeld => ?_)
      focus
       (try dsimp only)
       first | (simp [*, World.cell?_alloc_some, World.cell?_setCell_far, add_block]; done) | go_keep
      clear hK K
      obtain ⟨wz, hwz⟩ : ∃ wz, wz = (wB.setCell ⟨wo.heap.size, 2, none⟩ (.int .i64 s3)) := ⟨_, rfl⟩
      have ky2 : Blk wz wo.heap.size 25 #[.int .i64 s1, .int .i64 s2, .int .i64 s3, .bool key, .bool hid, .slice Ap data.length cp] := by rw [hwz]; exact Blk.set_ kyB 2 _
      have byz : Below wo.heap.size wo wz := by rw [hwz]; exact (below_put bB (Nat.le_refl _))
      rw [← hwz] at hHeld ⊢
      refine wpSched_nil ?_
      (try simp only [Act.put, List.getElem_toArray, List.getElem_cons_succ, List.getElem_cons_zero, List.setIfInBounds_toArray, List.set_cons_zero, List.set_cons_succ])
      clear hwz ky kpy by_ bA bB kyA kyB hHeld hs1 hs2 hs3 y0 y1 y2 z2 u2 hne
      have bz := below_then bo byz
      have hsoz : wo.heap.size < wz.heap.size := ky2.lt
      have ha9 := (ho9.rds.2.2.top.below hb10 (Nat.le_refl _)).below b11 (by have := hb10.size; omega)
      have ha9z := ha9.below byz (by have := hb10.size; omega)
      go_upto_region 12 with (first
        | (at_builtin; (refine wpList_append_int _ rfl (.tmp 68) (.tmp 69) _ rfl wz wz.heap.size wz.heap.size 5 .u8 1 Try.underlying23 info_u8 _ [] rfl (OwnI.empty _ _ _ _ (Nat.le_refl _)) _ A9 _ c9 x rfl rfl (ha9z.alloc (by have := hb10.size; omega) _) (by simp; omega) (by omega) (below_alloc (Below.refl _ _) _) (Nat.le_refl _) (by simp) ?_); intro vz wv owv bwv; rw [List.nil_append] at owv; obtain ⟨gz, cz, rfl, hgz, hgzl, hcz, hcellz, hfzz, hsetz⟩ := owv.row (by omega); have hx18 : decide ((x.length : Int) < 18) = false := (by simp; omega)))
      have hTv := (hT8.below bz hgt8).below bwv (by omega)
      have hgne : gz ≠ gt := by omega
      have HZ := Lib.hid (fun (r : Nat) (hr : r < x.length) (W : World) (hW : Mod (· = gt) wv W) => hW.cell (hcellz r hr) hgne)
      have HF := Lib.hid (fun (r : Nat) (W : World) (hW : Mod (· = gt) wv W) => (hW.frozen (a := ⟨gz, r, none⟩) hgzl hgne).trans (hfzz r))
      clear hcellz hfzz hsetz
      refine wp_region_last (S := (fun w' => Mod (· = gt) wv w')) 11 _ (by simp only [List.pop_toArray, List.dropLast_cons_cons, List.dropLast_singleton]; rfl) (by kernel_rfl) (by kernel_rfl) (by kernel_rfl) (by kernel_rfl) (by kernel_rfl) ?_ (fun hHeld => ?_)
      focus exact (Mod.refl _ _).drew
      refine wpAnyH_take (i := 0) (v := ?_) rfl (by kernel_rfl) (by kernel_rfl) (by kernel_rfl) (fun _ _ _ h => h) (Or.inl ⟨by kernel_rfl, ?_⟩) (by assumption) ?_
      rotate_left
      focus
        intro w9 hSw
        (try dsimp only at hSw)
        go_simp
        (try with_reducible rfl)
      (try simp only [Act.put, List.getElem_toArray, List.getElem_cons_succ, List.getElem_cons_zero, List.setIfInBounds_toArray, List.set_cons_zero, List.set_cons_succ])
      refine wpAnyH_take (i := 1) (v := ?_) rfl (by kernel_rfl) (by kernel_rfl) (by kernel_rfl) (fun _ _ _ h => h) (Or.inl ⟨by kernel_rfl, ?_⟩) (by assumption) ?_
      rotate_left
      focus
        intro w9 hSw
        (try dsimp only at hSw)
        go_simp
        (try with_reducible rfl)
      (try simp only [Act.put, List.getElem_toArray, List.getElem_cons_succ, List.getElem_cons_zero, List.setIfInBounds_toArray, List.set_cons_zero, List.set_cons_succ])
      refine wpAnyH_take (i := 5) (v := ?_) rfl (by kernel_rfl) (by kernel_rfl) (by kernel_rfl) (fun _ _ _ h => h) (Or.inl ⟨by kernel_rfl, ?_⟩) (by assumption) ?_
      rotate_left
      focus
        intro w9 hSw
        (try dsimp only at hSw)
        go_simp
        (try with_reducible rfl)
      (try simp only [Act.put, List.getElem_toArray, List.getElem_cons_succ, List.getElem_cons_zero, List.setIfInBounds_toArray, List.set_cons_zero, List.set_cons_succ])
      refine wpAnyH_ready (rs := [2]) (by kernel_rfl) (by simp) (AllReadyH.cons rfl (fun K hK => ?_) AllReadyH.nil)
      go_simp
      go_at_call 9
      refine (HN.out _ _ hTv.drew 18 (by omega) (by omega)).mono ?_
      rintro e w11 ⟨r, rfl, hr, hT11, hg11⟩
      have hm11 : Mod (· = gt) wv w11 := (Mod.refl _ _).drew.trans (Mod.of_only (M := (· = gt)) hg11 (fun _ => rfl)) (fun _ h _ => h)
      refine hK.out _ _ ?_ (fun hHeld => ?_)
      focus exact hm11
      clear hK K
      (try simp only [Act.put, List.getElem_toArray, List.getElem_cons_succ, List.getElem_cons_zero, List.setIfInBounds_toArray, List.set_cons_zero, List.set_cons_succ])
      have hrx : r < x.length := by omega
      have hrxi : (r : Int) < (x.length : Int) := by omega
      refine wpAnyH_take (i := 3) (v := ?_) rfl (by kernel_rfl) (by kernel_rfl) (by kernel_rfl) (fun _ _ _ h => h) (Or.inl ⟨by kernel_rfl, ?_⟩) (by assumption) ?_
      rotate_left
      focus
        intro w9 hSw
        (try dsimp only at hSw)
        go_simp
        (try with_reducible rfl)
      (try simp only [Act.put, List.getElem_toArray, List.getElem_cons_succ, List.getElem_cons_zero, List.setIfInBounds_toArray, List.set_cons_zero, List.set_cons_succ])
      refine wpAnyH_take (i := 4) (v := ?_) rfl (by kernel_rfl) (by kernel_rfl) (by kernel_rfl) (fun _ _ _ h => h) (Or.inl ⟨by kernel_rfl, ?_⟩) (by assumption) ?_
      rotate_left
      focus
        intro w9 hSw'
        (try dsimp only at hSw')
        have zr := HZ.out r hrx w9 hSw'
        clear hSw'
        go_simp
        (try with_reducible rfl)
      (try simp only [Act.put, List.getElem_toArray, List.getElem_cons_succ, List.getElem_cons_zero, List.setIfInBounds_toArray, List.set_cons_zero, List.set_cons_succ])
      refine wpAnyH_ready (rs := [6]) (by kernel_rfl) (by simp) (AllReadyH.cons rfl (fun K hK => ?_) AllReadyH.nil)
      go_simp
      go_at_call 9
      refine (HN.out _ _ hT11 8 (by omega) (by omega)).mono ?_
      rintro e w12 ⟨q, rfl, hq, hT12, hg12⟩
      have hm12 : Mod (· = gt) wv w12 := hm11.then_ (Mod.of_only (M := (· = gt)) hg12 (fun _ => rfl))
      refine hK.out _ _ ?_ (fun hHeld => ?_)
      focus exact hm12
      clear hK K
      (try simp only [Act.put, List.getElem_toArray, List.getElem_cons_succ, List.getElem_cons_zero, List.setIfInBounds_toArray, List.set_cons_zero, List.set_cons_succ])
      refine wpAnyH_take (i := 7) (v := ?_) rfl (by kernel_rfl) (by kernel_rfl) (by kernel_rfl) (fun _ _ _ h => h) (Or.inl ⟨by kernel_rfl, ?_⟩) (by assumption) ?_
      rotate_left
      focus
        intro w9 hSw
        (try dsimp only at hSw)
        go_simp
        (try with_reducible rfl)
      (try simp only [Act.put, List.getElem_toArray, List.getElem_cons_succ, List.getElem_cons_zero, List.setIfInBounds_toArray, List.set_cons_zero, List.set_cons_succ])
      refine wpAnyH_take (i := 8) (v := ?_) rfl (by kernel_rfl) (by kernel_rfl) (by kernel_rfl) (fun _ _ _ h => h) (Or.inl ⟨by kernel_rfl, ?_⟩) (by assumption) ?_
      rotate_left
      focus
        intro w9 hSw
        (try dsimp only at hSw)
        go_simp
        (try with_reducible rfl)
      (try simp only [Act.put, List.getElem_toArray, List.getElem_cons_succ, List.getElem_cons_zero, List.setIfInBounds_toArray, List.set_cons_zero, List.set_cons_succ])
      refine wpAnyH_take (i := 9) (v := ?_) rfl (by kernel_rfl) (by kernel_rfl) (by kernel_rfl) (fun _ _ _ h => h) (Or.inl ⟨by kernel_rfl, ?_⟩) (by assumption) ?_
      rotate_left
      focus
        intro w9 hSw
        (try dsimp only at hSw)
        go_simp
        (try with_reducible rfl)
      (try simp only [Act.put, List.getElem_toArray, List.getElem_cons_succ, List.getElem_cons_zero, List.setIfInBounds_toArray, List.set_cons_zero, List.set_cons_succ])
      refine wpAnyH_take (i := 10) (v := ?_) rfl (by kernel_rfl) (by kernel_rfl) (by kernel_rfl) (fun _ _ _ h => h) (Or.inl ⟨by kernel_rfl, ?_⟩) (by assumption) ?_
      rotate_left
      focus
        intro w9 hSw
        (try dsimp only at hSw)
        go_simp
        (try with_reducible rfl)
      (try simp only [Act.put, List.getElem_toArray, List.getElem_cons_succ, List.getElem_cons_zero, List.setIfInBounds_toArray, List.set_cons_zero, List.set_cons_succ])
      have ow12 := owv.mod hm12 (fun b hb => by have : gz = b := (by simpa [Value.ownBlock] using hb); omega)
      have c12 := HZ.out r hrx _ hm12
      have f12 := HF.out r _ hm12
      refine wpAnyH_done (by kernel_rfl) (lastQ_step rfl (fun K hK => ?_)) _
      go_simp
      refine hK _ _ ?_
      clear hK K
      generalize hy : bits BinOp.xor IntKind.u8 x[r] (IntKind.u8.wrap (2 ^ min (IntKind.u64.wrap (q : Int)).toNat 8)) = y
      have hyb : 0 ≤ y ∧ y ≤ 255 := by rw [← hy]; exact xor_byte8 _ _
      clear hy c12 f12
      obtain ⟨g9, c9', hv9, _, _, _, _, _, hset⟩ := ow12.row (by omega)
      simp only [Value.slice.injEq, Option.some.injEq, Addr.mk.injEq, and_true, true_and] at hv9
      obtain ⟨rfl, rfl⟩ := hv9
      have oz := hset r y
      have hT0 := hT12.far (a := ⟨gz, r, none⟩) (by simp; omega) (by simp; omega) (.int .u8 y)
      have hmk : ∀ u, Below u.heap.size u wv → u.heap.size ≤ gz → Mod (· = gt) u (w12.setCell ⟨gz, r, none⟩ (.int .u8 y)) := fun u hu hg => mod_put ((Mod.of_fresh hu).then_ (hm12.mono (fun b hb _ => hb))) (fun h => by omega)
      generalize w12.setCell ⟨gz, r, none⟩ (.int .u8 y) = v0 at *
      have hs1 := hb9.size
      have hs2 := b11.size
      have hs3 := byz.size
      have hs4 := bwv.size
      have m8 := hmk w8 (below_then bz bwv) (by omega)
      have mx := hmk wx (below_then (below_then (below_then (below_then hb9 hb10) b11) byz) bwv) (by omega)
      have m9 := hmk w9 (below_then (below_then (below_then hb10 b11) byz) bwv) (by omega)
      have m10 := hmk w10 (below_then (below_then b11 byz) bwv) (by omega)
      have mo := hmk wo (below_then byz bwv) (by omega)
      have mz := hmk wz bwv (by omega)
      have rX := RdS.weak (S' := (· ≠ gt)) (RdS.keep hr8s m8 (fun b hb _ => by omega)) (fun b hb _ => by omega)
      have rP := RdS.weak (S' := (· ≠ gt)) (RdS.keep hpr8 m8 (fun b hb _ => by omega)) (fun b hb _ => by omega)
      have rB := RdS.weak (S' := (· ≠ gt)) (RdS.keep hbr8 m8 (fun b hb _ => by omega)) (fun b hb _ => by omega)
      have rA := RdS.weak (S' := (· ≠ gt)) (RdS.keep ho9.rds.2.2 m9 (fun b hb _ => by have := hb.1; omega)) (fun b hb _ => by have := hb.1; omega)
      have rO := RdS.weak (S' := (· ≠ gt)) (RdS.keep ho10.rds.2.2 m10 (fun b hb _ => by have := hb.1; omega)) (fun b hb _ => by have := hb.1; omega)
      have rZ := RdS.weak (S' := (· ≠ gt)) oz.rds.2.2 (fun b hb _ => by have := hb.1; omega)
      have kX := kx.mod mx (show ¬ w8.heap.size = gt by omega)
      have kO := k11.mod mo (show ¬ w10.heap.size = gt by omega)
      have kP := kpo.mod mo (show ¬ w.heap.size = gt by omega)
      have kY := ky2.mod mz (show ¬ wo.heap.size = gt by omega)
      have hzl : (x.set r y).length = x.length := List.length_set
      have hzb : byteB (x.set r y) := fun z hz => by
        rcases List.mem_or_eq_of_mem_set hz with hz | hz
        · exact hbyt z hz
        · rw [hz]; exact hyb
      have hend : Below w.heap.size w v0 := (b8.trans ((hmk w8 (below_then bz bwv) (by omega)).below (B := w.heap.size) (by omega) (fun b hb => by omega)))
      have HSm := Lib.hid (samepk_any ⟨(r2 : Int), T, (r5 : Int), f6, f7, l⟩ ⟨(r2 : Int), T, (r5 : Int), f6, f7, l⟩ A10 A8 c10 c8 v0 rO.top rX.top hlb hlb)
      rw [decide_eq_true rfl] at HSm
      have HP := Lib.hid (fun W (h : Mod (· = gt) v0 W) => lays_any ⟨st, at_, ln, key, hid, data⟩ Ap cp HPW.out W (rP.keep h (fun b hb _ => hb)).top)
      have HY := Lib.hid (fun W (h : Mod (· = gt) v0 W) => lays_any ⟨s1, s2, s3, key, hid, data⟩ Ap cp ⟨hA1, hA2, hA3, HPW.out.len, HPW.out.bytes⟩ W (rP.keep h (fun b hb _ => hb)).top)
      have HB := Lib.hid (fun W (h : Mod (· = gt) v0 W) => opens_n (c := cb) b.length rfl (rB.keep h (fun b hb _ => hb)).top (Nat.le_refl _) HBB.out hbc (by omega))
      have HZ2 := Lib.hid (fun W (h : Mod (· = gt) v0 W) => opens_n (c := cz) x.length hzl (rZ.keep h (fun b hb _ => hb)).top (Nat.le_refl _) hzb hcz (by omega))
      have HA := Lib.hid (fun W (h : Mod (· = gt) v0 W) => (rA.keep h (fun b hb _ => hb)).top)
      have HCut := Lib.hid (fun (W : World) (A : Option Addr) (n : Nat) (hn : n ≤ x.length) (hr : RdI W W.heap.size .u8 A (x.take n)) => opens_n (c := c9) n (by rw [List.length_take]; omega) hr (Nat.le_refl _) (fun z hz => hbyt z (List.mem_of_mem_take hz)) (by omega) (by omega))
      have e0 := kO.cell 0
      have e1 := kO.cell 1
      have e2 := kO.cell 2
      have e3 := kO.cell 3
      have e4 := kO.cell 4
      have e5 := kO.cell 5
      have f0 := kX.cell 0
      have f1 := kX.cell 1
      have f2 := kX.cell 2
      have f3 := kX.cell 3
      have f4 := kX.cell 4
      have f5 := kX.cell 5
      (try simp only [Pk.val] at HSm); (try simp only [Pk.val] at HP); (try simp only [Pk.val] at HY)
      clear hmk m8 mx m9 m10 mo mz rX rP rB rA rO rZ HZ HF hr hq oz hset hzb hzl hyb hA1 hA2 hA3 hx18 hrxi HL HO ow12 owv ho9 ho10 hr9 hr8s hpr8 hbr8 ha9 ha9z k11 kx kpo ky2 kp8 
      go_wp2_with (first
        | (go_at_call 13; (with_reducible refine HSm.out.mono ?_); rintro e w13 ⟨rfl, hb13⟩; have hm13 : Mod (· = gt) v0 w13 := Mod.of_fresh hb13; have k13 := kP.mod hm13 (show ¬ w.heap.size = gt by omega); have p0 := k13.cell 0; have p1 := k13.cell 1; have p2 := k13.cell 2; have p3 := k13.cell 3; have p4 := k13.cell 4; have p5 := k13.cell 5)
        | (go_at_call 14; (with_reducible refine (HP.out _ hm13).mono ?_); rintro e w14 ⟨rfl, hb14⟩; have hbb14 := below_then hb13 hb14; have hm14 : Mod (· = gt) v0 w14 := Mod.of_fresh hbb14; have k14 := kY.mod hm14 (show ¬ wo.heap.size = gt by omega); have q0 := k14.cell 0; have q1 := k14.cell 1; have q2 := k14.cell 2; have q3 := k14.cell 3; have q4 := k14.cell 4; have q5 := k14.cell 5)
        | (go_at_call 14; (with_reducible refine (HY.out _ hm14).mono ?_); rintro e w15 ⟨rfl, hb15⟩; have hbb15 := below_then hbb14 hb15; have hm15 : Mod (· = gt) v0 w15 := Mod.of_fresh hbb15)
        | (go_at_call 15; (with_reducible refine (HB.out _ hm15).mono ?_); rintro e w16 ⟨rfl, hb16⟩; have hbb16 := below_then hbb15 hb16; have hT16 := hT0.below hbb16 hT0.lt; have HNx := HN.out _ _ hT16 ((x.length : Int) + 1) (by omega) (by omega))
        | (go_at_call 9; (with_reducible refine HNx.mono ?_); rintro e w17 ⟨n17, rfl, hn17, hT17, hg17⟩; have hm17 : Mod (· = gt) v0 w17 := (Mod.of_fresh hbb16).then_ (Mod.of_only hg17 (fun _ => rfl)); have hnx : n17 ≤ x.length := (by omega); obtain ⟨Ah, hrunh, hrh, _⟩ := (HA.out _ hm17).slice_h Try.underlying23 info_u8 (hh := n17) hnx hc9)
        | (go_at_call 15; (with_reducible refine (HCut.out _ _ n17 hnx hrh).mono ?_); rintro e w18 ⟨rfl, hb18⟩; have hm18 : Mod (· = gt) v0 w18 := hm17.then_ (Mod.of_fresh hb18))
        | (go_at_call 15; (with_reducible refine (HZ2.out _ hm18).mono ?_); rintro e w19 ⟨rfl, hb19⟩; have hm19 : Mod (· = gt) v0 w19 := hm18.then_ (Mod.of_fresh hb19))
        | (go_at_call 16; (with_reducible refine (HK.out _).mono ?_); rintro e w20 ⟨rfl, hb20⟩; have hm20 : Mod (· = gt) v0 w20 := hm19.then_ (Mod.of_fresh hb20)))
      go_ret
      exact ⟨rfl, hend.trans (hm20.below (B := w.heap.size) hend.size (fun b hb => by omega))⟩
end Go.Proofs.Ytkgenjgomnalpaa.pageLays
