/- restored: the page that a guard and the others give. -/
import Derived.Test.YtdnkdjaokmibjaaMdRL
import Derived.Test.YtdnkdjaokmibjaaMdGd
import Derived.BigQuiet
import Derived.Deep.QuietTactic
import Derived.Deep.DeepCutAuto
import Derived.Deep.RegionHeld3
set_option linter.unusedSimpArgs false
set_option linter.unusedVariables false
namespace Go.Proofs.Ytdnkdjaokmibjaa
open Go.RowKit

theorem back_bits {f : Int} (h0 : 0 ≤ f) (h3 : f ≤ 3) : (bits .and .u8 f 1 != 0) = decide (f % 2 = 1) ∧ (bits .and .u8 f 2 != 0) = decide (f / 2 % 2 = 1) := by
  have : f = 0 ∨ f = 1 ∨ f = 2 ∨ f = 3 := by omega
  rcases this with rfl | rfl | rfl | rfl <;> decide
theorem backOk_bits {g : Pg} {o : List Pg} {s : Int} (h : ¬ flagX (g.body.getD 1 0) o ≤ 3) : backOk g o s = false := by
  unfold backOk
  rw [decide_eq_false h]; simp
theorem backOk_size {g : Pg} {o : List Pg} {s : Int} (h : ¬ (1 ≤ sizeX (g.body.getD 2 0) o ∧ sizeX (g.body.getD 2 0) o ≤ 252 ∧ sizeX (g.body.getD 2 0) o ≤ (sumX (g.body.drop 3) o).length)) : backOk g o s = false := by
  unfold backOk
  rw [decide_eq_false h]; simp
theorem backOk_tail {g : Pg} {o : List Pg} {s : Int} {k : Nat} (hk : k < ((sumX (g.body.drop 3) o).drop (sizeX (g.body.getD 2 0) o).toNat).length) (h : ((sumX (g.body.drop 3) o).drop (sizeX (g.body.getD 2 0) o).toNat).getD k 0 ≠ 0) : backOk g o s = false := by
  have : ((sumX (g.body.drop 3) o).drop (sizeX (g.body.getD 2 0) o).toNat).all (fun c => decide (c = 0)) = false := by
    rw [List.all_eq_false]
    refine ⟨_, List.getElem_mem hk, ?_⟩
    rw [List.getD_eq_getElem?_getD, List.getElem?_eq_getElem hk] at h
    simpa using h
  unfold backOk
  rw [this]; simp
theorem backOk_yes {g : Pg} {o : List Pg} {s : Int} (h1 : flagX (g.body.getD 1 0) o ≤ 3) (h2 : 1 ≤ sizeX (g.body.getD 2 0) o ∧ sizeX (g.body.getD 2 0) o ≤ 252 ∧ sizeX (g.body.getD 2 0) o ≤ (sumX (g.body.drop 3) o).length)
    (h3 : ∀ k, k < ((sumX (g.body.drop 3) o).drop (sizeX (g.body.getD 2 0) o).toNat).length → ((sumX (g.body.drop 3) o).drop (sizeX (g.body.getD 2 0) o).toNat).getD k 0 = 0) : backOk g o s = pgOk (backP g o s) := by
  have : ((sumX (g.body.drop 3) o).drop (sizeX (g.body.getD 2 0) o).toNat).all (fun c => decide (c = 0)) = true := by
    rw [List.all_eq_true]
    intro x hx
    obtain ⟨k, hk, rfl⟩ := List.getElem_of_mem hx
    have := h3 k hk
    rw [List.getD_eq_getElem?_getD, List.getElem?_eq_getElem hk] at this
    simpa using this
  unfold backOk
  rw [this, decide_eq_true h1, decide_eq_true h2]; simp
theorem flagX_in (l : List Pg) {a : Int} (h : isByte a) : isByte (flagX a l) := by rw [flagX_eq l h]; exact xo_bd _ _
theorem sizeX_in (l : List Pg) {a : Int} (h : isByte a) : isByte (sizeX a l) := by rw [sizeX_eq l h]; exact xo_bd _ _

set_option maxHeartbeats 8000000 in
set_option maxRecDepth 100000 in
theorem restored_any {o : List Pg} {A : Option Addr} {c : Nat} {S : Nat → Prop} {w : World} (hr : RdPg w S A o) (hl : o.length ≤ 1000) (hb : ∀ p ∈ o, p.body.length ≤ 1000) (g : Pg) (Ag : Option Addr) (cg : Nat) (hg : RdI w w.heap.size .u8 Ag g.body) (hgw : byteB g.body) (hg3 : 3 < g.body.length) (hg4 : g.body.length ≤ 1000) (hgc : g.body.length ≤ cg) (s : Int) (hs : 0 ≤ s ∧ s ≤ 4294967295) :
    Calls Try.prog 35 #[g.val Ag cg, .slice A o.length c, .int .i64 s] w fun e w' => ∃ q A' c', e = .returned (.tuple #[Pg.val q A' c', .bool (backOk g o s)]) ∧ (backOk g o s = true → q = backP g o s ∧ OwnI w' w.heap.size 5 .u8 (.slice A' q.body.length c') q.body) ∧ Below w.heap.size w w' := by
  have hr := hr.weak PgR.good (S' := fun b => b < w.heap.size) (fun b _ h => h)
  have HR := Lib.hid (fun W (h : Below w.heap.size w W) => hr.below PgR.good h)
  have HB := Lib.hid hb
  obtain ⟨ag, rfl, hag, y1⟩ := hg.at_ (j := 1) (by omega)
  obtain ⟨ag', hag', _, y2⟩ := hg.at_ (j := 2) (by omega)
  injection hag' with hag'
  subst hag'
  have HF0 := Lib.hid (hgw.at_ 1)
  have HZ0 := Lib.hid (hgw.at_ 2)
  have HS0 := Lib.hid (show byteB (g.body.drop 3) from fun x hx => hgw x (List.mem_of_mem_drop hx))
  obtain ⟨As, hsl, hrs, _⟩ := hg.slice_l (P := Try.prog) Try.underlying31 info_u8 (lo := 3) (c := cg) (by omega) hgc
  rw [show ((3 : Nat) : Int) = 3 from rfl] at hsl
  have HNo1 := Lib.hid (fun h => backOk_bits (g := g) (o := o) (s := s) h)
  have HNo2 := Lib.hid (fun h => backOk_size (g := g) (o := o) (s := s) h)
  have HNo3 := Lib.hid (fun k hk h => backOk_tail (g := g) (o := o) (s := s) (k := k) hk h)
  have HYes := Lib.hid (fun h1 h2 h3 => backOk_yes (g := g) (o := o) (s := s) h1 h2 h3)
  have HPb := Lib.hid (show backP g o s = ⟨s, decide (flagX (g.body.getD 1 0) o % 2 = 1), decide (flagX (g.body.getD 1 0) o / 2 % 2 = 1), false, (sumX (g.body.drop 3) o).take (sizeX (g.body.getD 2 0) o).toNat⟩ from rfl)
  generalize backOk g o s = OK at *
  generalize backP g o s = BP at *
  have hsl3 : (g.body.drop 3).length ≤ 1000 := by simp; omega
  have hsl4 : (g.body.drop 3).length = g.body.length - 3 := by simp
  obtain ⟨gs, g2, g3, g4, gb⟩ := g
  simp only at *
  generalize gb.getD 1 0 = f0 at *
  generalize gb.getD 2 0 = z0 at *
  rw [← hsl4] at hsl
  generalize gb.drop 3 = s0 at *
  clear hsl4
  have hg31 : 1 < gb.length := by omega
  have hg32 : 2 < gb.length := by omega
  clear hr hb hg hgw
  go_enter Try.func35, Try.ntmps35
  go_upto_region 1 with fail
  have kx := Blk.new w 33 #[.int .i64 gs, .bool g2, .bool g3, .bool g4, .slice (some ag) gb.length cg]
  have bx : Below w.heap.size w (w.alloc (.cells #[.int .i64 gs, .bool g2, .bool g3, .bool g4, .slice (some ag) gb.length cg] 33)) := below_alloc (Below.refl _ _) _
  have kr := Blk.new (w.alloc (.cells #[.int .i64 gs, .bool g2, .bool g3, .bool g4, .slice (some ag) gb.length cg] 33)) 33 #[.int .i64 0, .bool false, .bool false, .bool false, .slice none 0 0]
  rw [show (w.alloc (.cells #[.int .i64 gs, .bool g2, .bool g3, .bool g4, .slice (some ag) gb.length cg] 33)).heap.size = w.heap.size + 1 by simp] at kr
  have kx := kx.alloc (.cells #[.int .i64 0, .bool false, .bool false, .bool false, .slice none 0 0] 33)
  have bx := below_alloc bx (.cells #[.int .i64 0, .bool false, .bool false, .bool false, .slice none 0 0] 33)
  generalize (w.alloc (.cells #[.int .i64 gs, .bool g2, .bool g3, .bool g4, .slice (some ag) gb.length cg] 33)).alloc (.cells #[.int .i64 0, .bool false, .bool false, .bool false, .slice none 0 0] 33) = w0 at *
  have hkr := kr.lt
  have x4 := kx.cell 4
  have z1 : w0.cell? ⟨ag.block, ag.off + 1, none⟩ = some (.int .u8 f0) := (bx.cell (World.block_lt_of_cell? w _ y1)).trans y1
  have z2 : w0.cell? ⟨ag.block, ag.off + 2, none⟩ = some (.int .u8 z0) := (bx.cell (World.block_lt_of_cell? w _ y2)).trans y2
  clear y1 y2
  go_quiet (fail)
  have kr := kr.drewN nq
  have kx := kx.drewN nq
  have bx := below_drewN bx nq
  have hrs1 := hrs.below bx (Nat.le_refl _)
  have hkr1 : w.heap.size + 1 < (w0.drewN nq).heap.size := hkr
  clear x4 z1 z2 hkr
  generalize w0.drewN nq = w1 at *
  have x4 := kx.cell 4
  go_wp2_with (first
    | (at_builtin; (refine wpList_append_int2 _ rfl (.const (.slice none 0 0)) (.tmp 27) _ rfl w1 w1.heap.size w1.heap.size 5 .u8 1 Try.underlying31 info_u8 _ [] rfl (OwnI.nil_ _ _ _ _) w.heap.size As _ (cg - 3) s0 rfl rfl hrs1 (by simp; omega) (by omega) (Below.refl _ _) (Nat.le_refl _) (Nat.le_refl _) ?_); intro v2 w2 ow2 bw2 _ _; rw [List.nil_append] at ow2))
  clear hsl x4 hrs hrs1
  have HOw2 := Lib.hid ow2
  clear ow2
  go_loopw [8, 9, 10, 31] (fun fv sv v iv wr => ∃ i : Nat, i ≤ o.length ∧ iv = .int .i64 i ∧ fv = .int .u8 (flagX f0 (o.take i)) ∧ sv = .int .u8 (sizeX z0 (o.take i)) ∧ OwnI wr w1.heap.size 5 .u8 v (sumX s0 (o.take i)) ∧ Below w1.heap.size w1 wr) (fun _ _ _ iv _ => o.length - (intOf iv).toNat)
  case atStart => exact ⟨0, Nat.zero_le _, rfl, rfl, rfl, HOw2.out, bw2⟩
  case round =>
    obtain ⟨i, hi, rfl, rfl, rfl, hown, hbr⟩ := hrel
    have hOwn := Lib.hid hown
    have hszr := hbr.size
    have hbw := bx.trans (hbr.mono (by omega))
    by_cases hlt2 : i < o.length
    · obtain ⟨ad, p, Aj, cj, rfl, _, hp, e0, e1, e2, e3, e4, hcj, hrj, hwj⟩ := RdPg.at_ (HR.out _ hbw) hlt2
      have HT := Lib.hid (show o.take (i + 1) = o.take i ++ [o[i]] from List.take_succ_eq_append_getElem hlt2)
      have hbl := HB.out o[i] (List.getElem_mem hlt2)
      have hsl : (sumX s0 (o.take i)).length ≤ 1000 := by
        rw [sumX_len]
        have := longest_bd (l := o.take i) (n := 1000) fun p hp => HB.out p (List.mem_of_mem_take hp)
        omega
      have HBy := Lib.hid (sumX_bytes (l := o.take i) HS0.out)
      have HF := Lib.hid (fun W => mdflags_any o[i] Aj cj W)
      have HF1 := Lib.hid (show flagX f0 (o.take (i + 1)) = xo (flagX f0 (o.take i)) (flg o[i]) by rw [HT.out, flagX_snoc])
      have HF2 := Lib.hid (show sizeX z0 (o.take (i + 1)) = xo (sizeX z0 (o.take i)) (lenB o[i]) by rw [HT.out, sizeX_snoc])
      have HF3 := Lib.hid (show sumX s0 (o.take (i + 1)) = blend (sumX s0 (o.take i)) o[i].body by rw [HT.out, sumX_snoc])
      have hlb : IntKind.u8.wrap (o[i].body.length : Int) = lenB o[i] := by rw [IntKind.wrap_u8]; rfl
      have hRj := hrj.rdI (B := w1.heap.size) (fun b h _ => by have h' : b < w.heap.size := h; omega)
      have HBl := Lib.hid (fun W v (ho : OwnI W w1.heap.size 5 .u8 v (sumX s0 (o.take i))) (hW : Below w1.heap.size wr W) => blend_any (c := cj) ho (by have := hW.size; omega) (hRj.below hW (Nat.le_refl _)) (by omega) (by omega) HBy.out)
      generalize flagX f0 (o.take i) = fx at *
      generalize sizeX z0 (o.take i) = sx at *
      generalize sumX s0 (o.take i) = su at *
      generalize o[i] = q at *
      obtain ⟨q1, q2, q3, q4, q5⟩ := q
      simp only [Pg.val] at HF HBl e0 e1 e2 e3 e4 hlb
      generalize flg ⟨q1, q2, q3, q4, q5⟩ = fq at *
      generalize lenB ⟨q1, q2, q3, q4, q5⟩ = lq at *
      have hxf : bits .xor .u8 fx fq = xo fx fq := rfl
      have hxs : bits .xor .u8 sx lq = xo sx lq := rfl
      clear hrj hwj hown
      go_upto_region 6 with fail
      have bx2 : Below wr.heap.size wr (wr.alloc (.cells #[.int .i64 q1, .bool q2, .bool q3, .bool q4, .slice Aj q5.length cj] 33)) := below_alloc (Below.refl _ _) _
      have kx2 := Blk.new wr 33 #[.int .i64 q1, .bool q2, .bool q3, .bool q4, .slice Aj q5.length cj]
      generalize wr.alloc (.cells #[.int .i64 q1, .bool q2, .bool q3, .bool q4, .slice Aj q5.length cj] 33) = wx at *
      have hkl := kx2.lt
      have x0 := kx2.cell 0
      have x1 := kx2.cell 1
      have x2 := kx2.cell 2
      have x3 := kx2.cell 3
      have x4 := kx2.cell 4
      have hox := hOwn.out.below bx2
      clear e0 e1 e2 e3 e4
      go_wp2_with (first
        | (go_at_call 54; (with_reducible refine (HF.out _).mono ?_); rintro e w2 ⟨rfl, hb2⟩; have y4 := (kx2.below hb2 hkl).cell 4; have ho2 := hox.below hb2)
        | (go_at_call 55; (with_reducible refine (HBl.out _ _ ho2 ((bx2.trans (hb2.mono bx2.size)).mono hszr)).mono ?_); rintro e w3 ⟨v3, rfl, ho3, hb3⟩))
      go_roundw
      case rel => exact ⟨i + 1, by omega, by go_num, by rw [HF1.out], by rw [HF2.out], by rw [HF3.out]; exact ho3, hbr.trans (((bx2.trans (hb2.mono bx2.size)).mono hszr).trans hb3)⟩
      case measure => simp [intOf]; omega
    · have hil : i = o.length := by omega
      subst hil
      simp only [List.take_length] at *
      have HFb := Lib.hid (flagX_in o HF0.out)
      have HZb := Lib.hid (sizeX_in o HZ0.out)
      have hsl : (sumX s0 o).length ≤ 1000 := by
        rw [sumX_len]
        have := longest_bd (l := o) (n := 1000) HB.out
        omega
      have HSb := Lib.hid (sumX_bytes (l := o) HS0.out)
      clear hown
      generalize flagX f0 o = fx at *
      generalize sizeX z0 o = sx at *
      generalize sumX s0 o = su at *
      obtain ⟨n, rfl, hn⟩ := isByte.nat HZb.out
      rw [Int.toNat_natCast] at HNo3 HYes HPb
      obtain ⟨hf0, hf255⟩ := HFb.out
      obtain ⟨A5, c5, rfl, hc5, hr5, hA5⟩ := hOwn.out.form
      have kr2 := kr.below hbr hkr1
      have y0 := kr2.cell 0
      have y1 := kr2.cell 1
      have y2 := kr2.cell 2
      have y3 := kr2.cell 3
      have y4 := kr2.cell 4
      have u0 := kr2.frozen 0
      have u1 := kr2.frozen 1
      have u2 := kr2.frozen 2
      have u3 := kr2.frozen 3
      have u4 := kr2.frozen 4
      have bz : Below w.heap.size w wr := hbw
      go_upto_region 11 with fail
      by_cases hgood : fx ≤ 3 ∧ 1 ≤ n ∧ n ≤ 252 ∧ n ≤ su.length
      · obtain ⟨h1, h2, h3, h4⟩ := hgood
        have t1 : decide ((3 : Int) < fx) = false := decide_eq_false (by omega)
        have t2 : decide ((n : Int) < 1) = false := decide_eq_false (by omega)
        have t3 : decide ((252 : Int) < (n : Int)) = false := decide_eq_false (by omega)
        have t4 : decide ((su.length : Int) < (n : Int)) = false := decide_eq_false (by omega)
        obtain ⟨Aq, hsq, hrq, _⟩ := hr5.slice_l (P := Try.prog) Try.underlying31 info_u8 (lo := n) (c := c5) h4 hc5
        obtain ⟨Ap, hsp, hrp, _⟩ := hr5.slice_h (P := Try.prog) Try.underlying31 info_u8 (hh := n) (c := c5) h4 hc5
        have HYes2 := Lib.hid (fun h => HYes.out h1 (by omega) h)
        obtain ⟨b1, b2⟩ := back_bits hf0 h1
        have HDl := Lib.hid (show (su.drop n).length = su.length - n by simp)
        have HTl := Lib.hid (show (su.take n).length = n by simp; omega)
        have HTb := Lib.hid (show byteB (su.take n) from fun x hx => HSb.out x (List.mem_of_mem_take hx))
        generalize su.drop n = dn at *
        generalize su.take n = tn at *
        go_wp2
        clear hsq
        have HZr := Lib.hid (fun k hk h => HNo3.out k hk h)
        have hdl1 : dn.length ≤ 1000 := by rw [HDl.out]; omega
        have HDn := Lib.hid (fun W (h : Below wr.heap.size wr W) => hrq.below h (Nat.le_refl _))
        have HTn := Lib.hid (fun W (h : Below wr.heap.size wr W) => hrp.below h (Nat.le_refl _))
        obtain ⟨w5, rfl⟩ : ∃ w5 : World, w5 = wr := ⟨_, rfl⟩
        rw [← HDl.out]
        go_loopw [15, 73] (fun _ kv wk => ∃ k : Nat, k ≤ dn.length ∧ kv = .int .i64 k ∧ (∀ j, j < k → dn.getD j 0 = 0) ∧ wk = w5) (fun _ kv _ => dn.length - (intOf kv).toNat)
        case atStart => exact ⟨0, Nat.zero_le _, rfl, fun j hj => absurd hj (by omega), rfl⟩
        case round =>
          obtain ⟨k, hk, rfl, hzero, rfl⟩ := hrel
          have HZe := Lib.hid hzero
          clear hzero
          by_cases hlt : k < dn.length
          · obtain ⟨aq, rfl, haq, q0⟩ := hrq.at_ hlt
            have HZn := Lib.hid (fun h => HZr.out k hlt h)
            have HZs := Lib.hid (show dn.getD k 0 = 0 → ∀ j, j < k + 1 → dn.getD j 0 = 0 from fun h j hj => by
              by_cases hjk : j = k
              · subst hjk; exact h
              · exact HZe.out j (by omega))
            generalize dn.getD k 0 = x at *
            by_cases hx : x = 0
            · subst hx
              have HZs2 := Lib.hid (HZs.out rfl)
              clear HZn HZs
              go_wp2
              go_roundw
              case rel => exact ⟨k + 1, by omega, by go_num, HZs2.out, trivial⟩
              case measure => simp [intOf]; omega
            · have hOK : OK = false := HZn.out hx
              subst hOK
              have hx' : (x != 0) = true := by rw [bne_iff_ne]; exact hx
              clear HZn HZs hx
              go_wp2
              refine bodyPost_ret (v := .tuple #[.agg #[.int .i64 0, .bool false, .bool false, .bool false, .slice none 0 0], .bool false]) (by simp [results, Try.results35, go_sem, y0, y1, y2, y3, y4]) rfl ⟨⟨zg, none, 0, rfl⟩, by repeat (first | with_reducible exact bz | refine below_put ?_ (by omega))⟩
          · have hkl : k = dn.length := by omega
            subst hkl
            have HOk := Lib.hid (HYes2.out (fun j hj => HZe.out j hj))
            clear HZr HZe HYes2 HNo1 HNo2 HNo3 HYes
            have htl : tn.length ≤ n := by rw [HTl.out]; exact Nat.le_refl _
            have htl2 : n ≤ tn.length := by rw [HTl.out]; exact Nat.le_refl _
            have hsp2 : ∀ w' : World, (Instr.slice 31 (.slice A5 su.length c5) none (some (.int .i64 (n : Int))) none).run Try.prog w' = .ok (.slice Ap tn.length c5) w' := fun w' => by rw [HTl.out]; exact hsp w'
            clear hsp
            go_wp2_with (first
              | (at_builtin; (refine wpList_append_int2 _ rfl (.const (.slice none 0 0)) (.tmp 90) _ rfl wr wr.heap.size wr.heap.size 5 .u8 1 Try.underlying31 info_u8 _ [] rfl (OwnI.nil_ _ _ _ _) wr.heap.size Ap _ c5 tn rfl rfl hrp (by simp; omega) (by omega) (Below.refl _ _) (Nat.le_refl _) (Nat.le_refl _) ?_); intro v6 w6 ow6 bw6 _ _; rw [List.nil_append] at ow6; obtain ⟨A6, c6, rfl, hc6, hr6, hA6⟩ := ow6.form))
            have bw7 : Below w.heap.size w w6 := bz.trans (bw6.mono bz.size)
            have kr6 := kr2.below bw6 kr2.lt
            have k16 := Blk.new w6 33 #[.int .i64 s, .bool (decide (fx % 2 = 1)), .bool (decide (fx / 2 % 2 = 1)), .bool false, .slice A6 tn.length c6]
            have b16 : Below w6.heap.size w6 (w6.alloc (.cells #[.int .i64 s, .bool (decide (fx % 2 = 1)), .bool (decide (fx / 2 % 2 = 1)), .bool false, .slice A6 tn.length c6] 33)) := below_alloc (Below.refl _ _) _
            have hwf6 : Pg.wf ⟨s, decide (fx % 2 = 1), decide (fx / 2 % 2 = 1), false, tn⟩ := ⟨⟨by show (-9223372036854775808 : Int) ≤ s; omega, by show s ≤ 9223372036854775807; omega⟩, by show tn.length ≤ _; omega, HTb.out⟩
            have HAc := fun W (h : Below w6.heap.size w6 W) => accepted_any ⟨s, decide (fx % 2 = 1), decide (fx / 2 % 2 = 1), false, tn⟩ A6 c6 hwf6 W ((RdI.below hr6 h (Nat.le_refl _)).more h.size)
            rw [← HPb.out] at HAc
            have HPb2 := Lib.hid (show BP.seq = s ∧ BP.first = decide (fx % 2 = 1) ∧ BP.last = decide (fx / 2 % 2 = 1) ∧ BP.guard = false ∧ BP.body = tn by rw [HPb.out]; exact ⟨rfl, rfl, rfl, rfl, rfl⟩)
            generalize decide (fx % 2 = 1) = p1 at *
            generalize decide (fx / 2 % 2 = 1) = p2 at *
            have HAc2 : Hid (∀ W, Below w6.heap.size w6 W → Calls Try.prog 30 #[.agg #[.int .i64 s, .bool p1, .bool p2, .bool false, .slice A6 tn.length c6]] W fun e w' => e = .returned (.bool (pgOk BP)) ∧ Below W.heap.size W w') := Lib.hid (fun W h => by
              have := HAc W h
              simp only [Pg.val, HPb.out] at this
              rw [HPb.out]
              exact this)
            rw [← HOk.out] at HAc2
            clear HAc
            generalize w6.alloc (.cells #[.int .i64 s, .bool p1, .bool p2, .bool false, .slice A6 tn.length c6] 33) = w7 at *
            have hk7 := k16.lt
            have hne : w6.heap.size ≠ w.heap.size + 1 := by have := kr6.lt; omega
            refine wp_region_held_drew (S := (fun w' => w'.cell? ⟨w6.heap.size, 0, none⟩ = some (.int .i64 s) ∧ w'.cell? ⟨w6.heap.size, 1, none⟩ = some (.bool p1) ∧ w'.cell? ⟨w6.heap.size, 2, none⟩ = some (.bool p2) ∧ w'.cell? ⟨w6.heap.size, 3, none⟩ = some (.bool false) ∧ w'.cell? ⟨w6.heap.size, 4, none⟩ = some (.slice A6 tn.length c6))) (by kernel_rfl) ?_ (fun hHeld => ?_)
            focus exact ⟨k16.cell 0, k16.cell 1, k16.cell 2, k16.cell 3, k16.cell 4⟩
            refine wpAnyH_take (i := 0) (v := ?_) rfl (by kernel_rfl) (by kernel_rfl) (by kernel_rfl) (fun _ _ _ h => h) (Or.inl ⟨by kernel_rfl, ?_⟩) (by assumption) ?_
            rotate_left
            focus
              intro w9 hSw
              (try dsimp only at hSw)
              go_simp
              (try with_reducible rfl)
            (try simp only [Act.put, List.getElem_toArray, List.getElem_cons_succ, List.getElem_cons_zero, List.setIfInBounds_toArray, List.set_cons_zero, List.set_cons_succ])
            refine wpAnyH_take (i := 1) (v := ?_) rfl (by kernel_rfl) (by kernel_rfl) (by kernel_rfl) (fun _ _ _ h => h) (Or.inl ⟨by kernel_rfl, ?_⟩) (by assumption) ?_
            rotate_left
            focus
              intro w9 hSw
              (try dsimp only at hSw)
              go_simp
              (try with_reducible rfl)
            (try simp only [Act.put, List.getElem_toArray, List.getElem_cons_succ, List.getElem_cons_zero, List.setIfInBounds_toArray, List.set_cons_zero, List.set_cons_succ])
            refine wpAnyH_ready (rs := [2]) (by kernel_rfl) (by simp) (AllReadyH.cons rfl (fun K hK => ?_) AllReadyH.nil)
            go_simp
            go_at_call 30
            with_reducible refine (HAc2.out _ b16.drew).mono ?_
            rintro e w8 ⟨rfl, hb8'⟩
            have hb8 := below_undr hb8'
            have k8 := k16.below hb8 hk7
            have b68 : Below w6.heap.size w6 w8 := b16.trans (hb8.mono b16.size)
            have kr8 := kr6.below b68 kr6.lt
            clear hb8'
            refine hK.out _ _ ?_ (fun hHeld => ?_)
            focus exact ⟨k8.cell 0, k8.cell 1, k8.cell 2, k8.cell 3, k8.cell 4⟩
            clear hK K
            (try simp only [Act.put, List.getElem_toArray, List.getElem_cons_succ, List.getElem_cons_zero, List.setIfInBounds_toArray, List.set_cons_zero, List.set_cons_succ])
            clear y0 y1 y2 y3 y4 u0 u1 u2 u3 u4
            have y0 := kr8.cell 0
            have y1 := kr8.cell 1
            have y2 := kr8.cell 2
            have y3 := kr8.cell 3
            have y4 := kr8.cell 4
            have u0 := kr8.frozen 0
            have u1 := kr8.frozen 1
            have u2 := kr8.frozen 2
            have u3 := kr8.frozen 3
            have u4 := kr8.frozen 4
            refine wpAnyH_ready (rs := [3]) (by kernel_rfl) (by simp) (AllReadyH.cons rfl (fun K hK => ?_) AllReadyH.nil)
            go_simp
            refine hK.out _ _ ?_ (fun hHeld => ?_)
            focus exact ⟨(Blk.far (Blk.far (Blk.far (Blk.far (Blk.far k8 hne _) hne _) hne _) hne _) hne _).cell 0, (Blk.far (Blk.far (Blk.far (Blk.far (Blk.far k8 hne _) hne _) hne _) hne _) hne _).cell 1, (Blk.far (Blk.far (Blk.far (Blk.far (Blk.far k8 hne _) hne _) hne _) hne _) hne _).cell 2, (Blk.far (Blk.far (Blk.far (Blk.far (Blk.far k8 hne _) hne _) hne _) hne _) hne _).cell 3, (Blk.far (Blk.far (Blk.far (Blk.far (Blk.far k8 hne _) hne _) hne _) hne _) hne _).cell 4⟩
            clear hK K
            (try simp only [Act.put, List.getElem_toArray, List.getElem_cons_succ, List.getElem_cons_zero, List.setIfInBounds_toArray, List.set_cons_zero, List.set_cons_succ])
            refine wpAnyH_take (i := 4) (v := ?_) rfl (by kernel_rfl) (by kernel_rfl) (by kernel_rfl) (fun _ _ _ h => h) (Or.inl ⟨by kernel_rfl, ?_⟩) (by assumption) ?_
            rotate_left
            focus
              intro w9 hSw
              (try dsimp only at hSw)
              go_simp
              (try with_reducible rfl)
            (try simp only [Act.put, List.getElem_toArray, List.getElem_cons_succ, List.getElem_cons_zero, List.setIfInBounds_toArray, List.set_cons_zero, List.set_cons_succ])
            refine wpAnyH_done (by kernel_rfl) ?_ _
            (try simp only [Act.put, List.getElem_toArray, List.getElem_cons_succ, List.getElem_cons_zero, List.setIfInBounds_toArray, List.set_cons_zero, List.set_cons_succ])
            go_wp2
            have hkr9 : w.heap.size + 1 < wr.heap.size := kr2.lt
            have ow8 := ow6.below b68
            have bz8 : Below w.heap.size w w8 := bw7.trans (b68.mono bw7.size)
            refine bodyPost_ret (v := .tuple #[.agg #[.int .i64 s, .bool p1, .bool p2, .bool false, .slice A6 tn.length c6], .bool OK]) (by simp [results, Try.results35, go_sem, y0, y1, y2, y3, y4]) rfl ⟨⟨s, p1, p2, false, tn⟩, A6, c6, rfl, fun _ => ⟨HPb.out.symm, OwnI.base_ (base := wr.heap.size) (by repeat (first | with_reducible exact ow8 | refine own_put ?_ hkr9)) (by omega)⟩, by repeat (first | with_reducible exact bz8 | refine below_put ?_ (by omega))⟩
      · have hcase : 3 < fx ∨ (fx ≤ 3 ∧ n < 1) ∨ (fx ≤ 3 ∧ 1 ≤ n ∧ 252 < n) ∨ (fx ≤ 3 ∧ 1 ≤ n ∧ n ≤ 252 ∧ su.length < n) := by omega
        have hOK : OK = false := by
          by_cases h3 : fx ≤ 3
          · exact HNo2.out (by omega)
          · exact HNo1.out (by omega)
        subst hOK
        clear hgood
        rcases hcase with h | ⟨h1, h⟩ | ⟨h1, h2, h⟩ | ⟨h1, h2, h3, h⟩
        · have t1 : decide ((3 : Int) < fx) = true := decide_eq_true h
          go_wp2
          refine bodyPost_ret (v := .tuple #[.agg #[.int .i64 0, .bool false, .bool false, .bool false, .slice none 0 0], .bool false]) (by simp [results, Try.results35, go_sem, y0, y1, y2, y3, y4]) rfl ⟨⟨zg, none, 0, rfl⟩, by repeat (first | with_reducible exact bz | refine below_put ?_ (by omega))⟩
        · have t1 : decide ((3 : Int) < fx) = false := decide_eq_false (by omega)
          have t2 : decide ((n : Int) < 1) = true := decide_eq_true (by omega)
          go_wp2
          refine bodyPost_ret (v := .tuple #[.agg #[.int .i64 0, .bool false, .bool false, .bool false, .slice none 0 0], .bool false]) (by simp [results, Try.results35, go_sem, y0, y1, y2, y3, y4]) rfl ⟨⟨zg, none, 0, rfl⟩, by repeat (first | with_reducible exact bz | refine below_put ?_ (by omega))⟩
        · have t1 : decide ((3 : Int) < fx) = false := decide_eq_false (by omega)
          have t2 : decide ((n : Int) < 1) = false := decide_eq_false (by omega)
          have t3 : decide ((252 : Int) < (n : Int)) = true := decide_eq_true (by omega)
          go_wp2
          refine bodyPost_ret (v := .tuple #[.agg #[.int .i64 0, .bool false, .bool false, .bool false, .slice none 0 0], .bool false]) (by simp [results, Try.results35, go_sem, y0, y1, y2, y3, y4]) rfl ⟨⟨zg, none, 0, rfl⟩, by repeat (first | with_reducible exact bz | refine below_put ?_ (by omega))⟩
        · have t1 : decide ((3 : Int) < fx) = false := decide_eq_false (by omega)
          have t2 : decide ((n : Int) < 1) = false := decide_eq_false (by omega)
          have t3 : decide ((252 : Int) < (n : Int)) = false := decide_eq_false (by omega)
          have t4 : decide ((su.length : Int) < (n : Int)) = true := decide_eq_true (by omega)
          go_wp2
          refine bodyPost_ret (v := .tuple #[.agg #[.int .i64 0, .bool false, .bool false, .bool false, .slice none 0 0], .bool false]) (by simp [results, Try.results35, go_sem, y0, y1, y2, y3, y4]) rfl ⟨⟨zg, none, 0, rfl⟩, by repeat (first | with_reducible exact bz | refine below_put ?_ (by omega))⟩
end Go.Proofs.Ytdnkdjaokmibjaa
