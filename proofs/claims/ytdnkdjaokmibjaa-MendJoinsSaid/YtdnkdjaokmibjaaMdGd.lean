/- guard: the guard of a group. -/
import Derived.Test.YtdnkdjaokmibjaaMdRL
import Derived.Test.YtdnkdjaokmibjaaPgBytes
import Derived.Deep.DeepCutAuto
import Derived.Test.YtdnkdjaokmibjaaOctInfo
set_option linter.unusedSimpArgs false
set_option linter.unusedVariables false
namespace Go.Proofs.Ytdnkdjaokmibjaa
open Go.RowKit

set_option maxHeartbeats 1000000 in
theorem mdflags_any (p : Pg) (A : Option Addr) (c : Nat) (w : World) : Calls Try.prog 54 #[p.val A c] w fun e w' => e = .returned (.int .u8 (flg p)) ∧ Below w.heap.size w w' := by
  obtain ⟨s, f, l, g, b⟩ := p
  cases f <;> cases l
  all_goals
    go_enter Try.func54, Try.ntmps54
    go_wp2
    go_ret
    exact ⟨rfl, (by repeat (first | exact Below.refl _ _ | assumption | refine Below.drew ?_ | refine below_drewN ?_ _ | refine below_alloc ?_ _))⟩

set_option maxHeartbeats 1000000 in
theorem accepted_any (p : Pg) (A : Option Addr) (c : Nat) (hw : p.wf) (w : World) (hr : RdI w w.heap.size .u8 A p.body) : Calls Try.prog 30 #[p.val A c] w fun e w' => e = .returned (.bool (pgOk p)) ∧ Below w.heap.size w w' := by
  have HB := fun W (hb : Below w.heap.size w W) => pgbytes_any p A c hw W (hr.below hb (Nat.le_refl _) |>.more hb.size)
  have HE := Lib.hid (show pgE p = if pgOk p = true then 0 else 1 from rfl)
  simp only [Pg.val] at HB
  replace HB := Lib.hid HB
  generalize pgB p = B at *
  generalize pgE p = E at *
  generalize pgOk p = O at *
  obtain ⟨s, f, l, g, b⟩ := p
  cases O
  · have hE := HE.out
    rw [if_neg (by simp)] at hE
    subst hE
    go_enter Try.func30, Try.ntmps30
    go_wp2_with (first
      | (go_at_call 24; (with_reducible refine (HB.out _ (below_alloc (Below.refl _ _) _)).mono ?_); rintro e w1 ⟨v1, rfl, _, hb1⟩))
    go_ret
    exact ⟨rfl, below_then (below_alloc (Below.refl _ _) _) hb1⟩
  · have hE := HE.out
    rw [if_pos rfl] at hE
    subst hE
    go_enter Try.func30, Try.ntmps30
    go_wp2_with (first
      | (go_at_call 24; (with_reducible refine (HB.out _ (below_alloc (Below.refl _ _) _)).mono ?_); rintro e w1 ⟨v1, rfl, _, hb1⟩))
    go_ret
    exact ⟨rfl, below_then (below_alloc (Below.refl _ _) _) hb1⟩

/-- a guard that can be used -/
def isG (p : Pg) : Bool := decide (p.guard = true ∧ 3 < p.body.length ∧ 1 ≤ p.body.getD 0 0 ∧ p.body.getD 0 0 ≤ 8)
set_option maxHeartbeats 2000000 in
theorem isguard_any (p : Pg) (A : Option Addr) (c : Nat) (hw : p.wf) (w : World) (hr : RdI w w.heap.size .u8 A p.body) : Calls Try.prog 33 #[p.val A c] w fun e w' => e = .returned (.bool (isG p)) ∧ Below w.heap.size w w' := by
  have HI := Lib.hid (show isG p = decide (p.guard = true ∧ 3 < p.body.length ∧ 1 ≤ p.body.getD 0 0 ∧ p.body.getD 0 0 ≤ 8) from rfl)
  have hlen := hw.len
  generalize isG p = I at *
  obtain ⟨s, f, l, g, b⟩ := p
  simp only at HI hr hlen
  have b0 : Below w.heap.size w (w.alloc (.cells #[.int .i64 s, .bool f, .bool l, .bool g, .slice A b.length c] 33)) := below_alloc (Below.refl _ _) _
  cases g
  · have hI : I = false := HI.out.trans (by simp)
    subst hI
    go_enter Try.func33, Try.ntmps33
    go_wp2
    go_ret
    exact ⟨rfl, b0⟩
  · by_cases h3 : 3 < b.length
    · obtain ⟨ad, rfl, _, x0⟩ := hr.at_ (j := 0) (by omega)
      have hx := (b0.cell (World.block_lt_of_cell? w _ x0)).trans x0
      have hx0 : (w.alloc (.cells #[.int .i64 s, .bool f, .bool l, .bool true, .slice (some ad) b.length c] 33)).cell? ad = some (.int .u8 (b.getD 0 0)) := hx
      generalize b.getD 0 0 = y at *
      have h3' : decide ((3 : Int) < (b.length : Int)) = true := by simp; omega
      have hI : I = decide (1 ≤ y ∧ y ≤ 8) := HI.out.trans (by simp [h3])
      subst hI
      clear HI
      by_cases hy : 1 ≤ y
      · by_cases hy8 : y ≤ 8
        · rw [decide_eq_true (show 1 ≤ y ∧ y ≤ 8 from ⟨hy, hy8⟩)]
          have hy' : decide (1 ≤ y) = true := decide_eq_true hy
          have hy8' : decide (y ≤ 8) = true := decide_eq_true hy8
          clear hy hy8
          go_enter Try.func33, Try.ntmps33
          go_wp2
          go_ret
          exact ⟨rfl, b0⟩
        · rw [decide_eq_false (show ¬ (1 ≤ y ∧ y ≤ 8) from fun h => hy8 h.2)]
          have hy' : decide (1 ≤ y) = true := decide_eq_true hy
          have hy8' : decide (y ≤ 8) = false := decide_eq_false hy8
          clear hy hy8
          go_enter Try.func33, Try.ntmps33
          go_wp2
          go_ret
          exact ⟨rfl, b0⟩
      · rw [decide_eq_false (show ¬ (1 ≤ y ∧ y ≤ 8) from fun h => hy h.1)]
        have hy' : decide (1 ≤ y) = false := decide_eq_false hy
        clear hy
        go_enter Try.func33, Try.ntmps33
        go_wp2
        go_ret
        exact ⟨rfl, b0⟩
    · have hI : I = false := HI.out.trans (by simp [h3])
      subst hI
      have h3' : decide ((3 : Int) < (b.length : Int)) = false := by simp; omega
      clear HI
      go_enter Try.func33, Try.ntmps33
      go_wp2
      go_ret
      exact ⟨rfl, b0⟩

set_option maxHeartbeats 2000000 in
theorem copied_any (p : Pg) (A : Option Addr) (c : Nat) (hw : p.wf) (hl : p.body.length ≤ 1000000) (w : World) (hr : RdI w w.heap.size .u8 A p.body) :
    Calls Try.prog 31 #[p.val A c] w fun e w' => ∃ A' c', e = .returned (p.val A' c') ∧ OwnI w' w.heap.size 5 .u8 (.slice A' p.body.length c') p.body ∧ Below w.heap.size w w' := by
  obtain ⟨s, f, l, g, b⟩ := p
  simp only [Pg.val] at *
  have HR := Lib.hid hr
  clear hr
  go_enter Try.func31, Try.ntmps31
  go_upto_region 1 with fail
  have kb := Blk.new w 33 #[.int .i64 s, .bool f, .bool l, .bool g, .slice A b.length c]
  have b0 : Below w.heap.size w (w.alloc (.cells #[.int .i64 s, .bool f, .bool l, .bool g, .slice A b.length c] 33)) := below_alloc (Below.refl _ _) _
  have kz := kb.alloc (.cells #[.int .i64 0, .bool false, .bool false, .bool false, .slice none 0 0] 33)
  have kr := Blk.new (w.alloc (.cells #[.int .i64 s, .bool f, .bool l, .bool g, .slice A b.length c] 33)) 33 #[.int .i64 0, .bool false, .bool false, .bool false, .slice none 0 0]
  rw [show (w.alloc (.cells #[.int .i64 s, .bool f, .bool l, .bool g, .slice A b.length c] 33)).heap.size = w.heap.size + 1 by simp] at kr
  have b1 := below_alloc b0 (.cells #[.int .i64 0, .bool false, .bool false, .bool false, .slice none 0 0] 33)
  generalize (w.alloc (.cells #[.int .i64 s, .bool f, .bool l, .bool g, .slice A b.length c] 33)).alloc (.cells #[.int .i64 0, .bool false, .bool false, .bool false, .slice none 0 0] 33) = w1 at *
  have hR1 := HR.out.below b1 (Nat.le_refl _)
  clear kb b0
  have x4 := kz.cell 4
  have hlt := kr.lt
  go_wp2_with (first
    | (at_builtin; (refine wpList_append_int2 _ rfl (.const (.slice none 0 0)) (.tmp 4) _ rfl w1 w1.heap.size w1.heap.size 5 .u8 1 Try.underlying31 info_u8 _ [] rfl (OwnI.nil_ _ _ _ _) w.heap.size A _ c b rfl rfl hR1 (by simp; omega) (by omega) (Below.refl _ _) (Nat.le_refl _) (Nat.le_refl _) ?_); intro v2 w2 ow2 bw2 _ _; rw [List.nil_append] at ow2; obtain ⟨A2, c2, rfl, hc2, _, hA2⟩ := ow2.form; have kz2 := kz.below bw2 (by omega); have kr2 := kr.below bw2 (by omega); have y0 := kz2.cell 0; have y1 := kz2.cell 1; have y2 := kz2.cell 2; have y3 := kz2.cell 3; have y4 := kz2.cell 4; have f4 := kz2.frozen 4; have z0 := kr2.cell 0; have z1 := kr2.cell 1; have z2 := kr2.cell 2; have z3 := kr2.cell 3; have z4 := kr2.cell 4; have g0 := kr2.frozen 0; have g1 := kr2.frozen 1; have g2 := kr2.frozen 2; have g3 := kr2.frozen 3; have g4 := kr2.frozen 4))
  have bz : Below w.heap.size w w2 := b1.trans (bw2.mono b1.size)
  refine bodyPost_ret (v := .agg #[.int .i64 s, .bool f, .bool l, .bool g, .slice A2 b.length c2]) (by simp [results, Try.results31, go_sem, z0, z1, z2, z3, z4]) rfl ⟨A2, c2, rfl, OwnI.base_ (base := w.heap.size + 2) (by repeat (first | with_reducible exact ow2.base_ (by omega) | refine own_put ?_ (by omega))) (by omega), by repeat (first | with_reducible exact bz | refine below_put ?_ (by omega))⟩
end Go.Proofs.Ytdnkdjaokmibjaa

namespace Go.Proofs.Ytdnkdjaokmibjaa
open Go.RowKit

def lenOfV : Value → Nat
  | .slice _ n _ => n
  | _ => 0
theorem getD_pad (l : List Int) (k j : Nat) : (l ++ List.replicate k (0 : Int)).getD j 0 = l.getD j 0 := by
  rw [List.getD_eq_getElem?_getD, List.getD_eq_getElem?_getD]
  by_cases h : j < l.length
  · rw [List.getElem?_append_left h]
  · rw [List.getElem?_append_right (by omega), List.getElem?_eq_none (l := l) (by omega), List.getElem?_replicate]
    split <;> rfl
theorem getD_set (l : List Int) (i j : Nat) (x : Int) (hi : i < l.length) : (l.set i x).getD j 0 = if j = i then x else l.getD j 0 := by
  rw [List.getD_eq_getElem?_getD, List.getD_eq_getElem?_getD, List.getElem?_set]
  by_cases h : i = j
  · subst h; simp [hi]
  · rw [if_neg h, if_neg (fun e => h e.symm)]

set_option maxHeartbeats 4000000 in
set_option maxRecDepth 100000 in
theorem blend_any {w : World} {base : Nat} {v : Value} {l : List Int} (ho : OwnI w base 5 .u8 v l) (hb : base ≤ w.heap.size) {A : Option Addr} {c : Nat} {b : List Int} (hr : RdI w base .u8 A b) (hl : l.length ≤ 1000000) (hbl : b.length ≤ 1000000) (hby : byteB l) :
    Calls Try.prog 55 #[v, .slice A b.length c] w fun e w' => ∃ v', e = .returned v' ∧ OwnI w' base 5 .u8 v' (blend l b) ∧ Below base w w' := by
  have HO := Lib.hid ho
  have HR := Lib.hid (fun W (h : Below base w W) => hr.below h (Nat.le_refl _))
  have HY := Lib.hid hby
  clear ho hr hby
  go_enter Try.func55, Try.ntmps55
  go_wp2
  go_loopw [0] (fun v wr => ∃ k : Nat, (k = 0 ∨ l.length + k ≤ b.length) ∧ OwnI wr base 5 .u8 v (l ++ List.replicate k 0) ∧ Below base w wr) (fun v _ => b.length - lenOfV v)
  case atStart => exact ⟨0, .inl rfl, by simpa using HO.out, Below.refl _ _⟩
  case round =>
    obtain ⟨k, hk, hown, hbw⟩ := hrel
    have hsz := hbw.size
    have hOwn := Lib.hid hown
    obtain ⟨A1, c1, rfl, hc1, hr1, hA1⟩ := hown.form
    have hll1 : (l ++ List.replicate k (0 : Int)).length ≤ l.length + k := by simp
    have hll2 : l.length + k ≤ (l ++ List.replicate k (0 : Int)).length := by simp
    by_cases hlt : l.length + k < b.length
    · have hrep := Lib.hid (show l ++ List.replicate (k + 1) (0 : Int) = (l ++ List.replicate k 0) ++ [0] by rw [List.append_assoc, ← List.replicate_succ'])
      generalize l ++ List.replicate k (0 : Int) = lk at *
      have hd : decide ((lk.length : Int) < (b.length : Int)) = true := decide_eq_true (by omega)
      clear hown hr1 hA1
      go_wp2_with (first
        | (at_builtin; (refine wpList_push_int _ rfl (.tmp 12) (.tmp 13) _ rfl wr base base 5 .u8 1 Try.underlying31 info_u8 _ lk rfl hOwn.out _ 1 0 rfl rfl (by omega) (by omega) (Below.refl _ _) (Nat.le_refl _) (by omega) ?_); intro v2 w2 ow2 bw2; obtain ⟨A2, c2, rfl, hc2, _, _⟩ := ow2.form))
      go_roundw
      case rel => exact ⟨k + 1, .inr (by omega), by rw [hrep.out]; rw [List.length_append] at ow2; exact ow2, hbw.trans bw2⟩
      case measure => simp only [lenOfV, List.length_append, List.length_cons, List.length_nil]; omega
    · have hd : decide (((l ++ List.replicate k (0 : Int)).length : Int) < (b.length : Int)) = false := decide_eq_false (by omega)
      have HP := Lib.hid (fun j => getD_pad l k j)
      have HL := Lib.hid (show (l ++ List.replicate k (0 : Int)).length = max l.length b.length by omega)
      generalize l ++ List.replicate k (0 : Int) = lk at *
      have hw0 := Lib.hid hbw
      obtain ⟨w0, rfl⟩ : ∃ w0 : World, w0 = wr := ⟨_, rfl⟩
      have hbl2 : b.length ≤ lk.length := by have := HL.out; omega
      clear hown hr1 hbw
      go_wp2
      go_loopw [17] (fun iv wr => ∃ (i : Nat) (cur : List Int), i ≤ b.length ∧ iv = .int .i64 i ∧ cur.length = lk.length ∧ (∀ j, cur.getD j 0 = if j < i then xo (l.getD j 0) (b.getD j 0) else l.getD j 0) ∧ OwnI wr base 5 .u8 (.slice A1 lk.length c1) cur ∧ Below base w0 wr) (fun iv _ => b.length - (intOf iv).toNat)
      case atStart => exact ⟨0, lk, Nat.zero_le _, rfl, rfl, fun j => by rw [HP.out j]; simp, hOwn.out, Below.refl _ _⟩
      case round =>
        obtain ⟨i, cur, hi, rfl, hcl, hcur, hown, hbr⟩ := hrel
        have HC := Lib.hid hcur
        clear hcur
        by_cases hlt : i < b.length
        · obtain ⟨ad, rfl, hab, x0⟩ := (HR.out _ (hw0.out.trans hbr)).at_ hlt
          obtain ⟨g, c3, hv, hbg, hgl, hc3, hcell, hfr, hset⟩ := hown.row (by omega)
          simp only [Value.slice.injEq] at hv
          obtain ⟨rfl, hz, rfl⟩ := hv
          clear hz
          have hcl' := Lib.hid hcl
          have x1 := hcell i (by omega)
          have f1 := hfr i
          have hxv := HC.out i
          rw [if_neg (by omega)] at hxv
          rw [hxv] at x1
          have HI := Lib.hid (show ∀ j, (cur.set i (xo (l.getD i 0) (b.getD i 0))).getD j 0 = if j < i + 1 then xo (l.getD j 0) (b.getD j 0) else l.getD j 0 from fun j => by
            rw [getD_set cur i j _ (by omega)]
            by_cases hji : j = i
            · subst hji; rw [if_pos rfl, if_pos (by omega)]
            · rw [if_neg hji, HC.out j]
              by_cases h9 : j < i
              · rw [if_pos h9, if_pos (by omega)]
              · rw [if_neg h9, if_neg (by omega)])
          have hil : i < lk.length := by omega
          have hxo : bits .xor .u8 (l.getD i 0) (b.getD i 0) = xo (l.getD i 0) (b.getD i 0) := rfl
          have HN := Lib.hid (hset i (xo (l.getD i 0) (b.getD i 0)))
          generalize l.getD i 0 = x at *
          generalize b.getD i 0 = y at *
          clear hcell hfr hset hown hxv hcl
          go_wp2
          go_roundw
          case rel => exact ⟨i + 1, _, by omega, by go_num, by rw [List.length_set]; exact hcl'.out, HI.out, HN.out, below_put hbr hbg⟩
          case measure => simp [intOf]; omega
        · have hil : i = b.length := by omega
          subst hil
          have HE := Lib.hid (show cur = blend l b from list_ext0 (by rw [hcl, blend_len, HL.out]) fun j _ => by
            rw [HC.out j, blend_at]
            split
            · rfl
            · rw [show b.getD j 0 = 0 from by rw [List.getD_eq_getElem?_getD, List.getElem?_eq_none (by omega)]; rfl, xo_zero (HY.out.at_ j)])
          have HF := Lib.hid hown
          clear hown
          go_wp2
          go_ret
          exact ⟨_, rfl, by rw [← HE.out]; exact HF.out, hw0.out.trans hbr⟩
end Go.Proofs.Ytdnkdjaokmibjaa

namespace Go.Proofs.Ytdnkdjaokmibjaa
open Go.RowKit

theorem flagX_snoc (a : Int) (l : List Pg) (p : Pg) : flagX a (l ++ [p]) = xo (flagX a l) (flg p) := by simp [flagX]
theorem sizeX_snoc (a : Int) (l : List Pg) (p : Pg) : sizeX a (l ++ [p]) = xo (sizeX a l) (lenB p) := by simp [sizeX]
theorem sumX_snoc (a : List Int) (l : List Pg) (p : Pg) : sumX a (l ++ [p]) = blend (sumX a l) p.body := by simp [sumX]

set_option maxHeartbeats 8000000 in
set_option maxRecDepth 100000 in
theorem guard_any {l : List Pg} {A : Option Addr} {c : Nat} {S : Nat → Prop} {w : World} (hr : RdPg w S A l) (h0 : 0 < l.length) (hl : l.length ≤ 1000) (hb : ∀ p ∈ l, p.body.length ≤ 1000) :
    Calls Try.prog 32 #[.slice A l.length c] w fun e w' => ∃ A' c', e = .returned ((guardG l).val A' c') ∧ OwnI w' w.heap.size 5 .u8 (.slice A' (guardG l).body.length c') (guardG l).body ∧ Below w.heap.size w w' := by
  have hr := hr.weak PgR.good (S' := fun b => b < w.heap.size) (fun b _ h => h)
  have HR := Lib.hid (fun W (h : Below w.heap.size w W) => hr.below PgR.good h)
  have HB := Lib.hid hb
  clear hr hb
  go_enter Try.func32, Try.ntmps32
  go_upto_region 1 with fail
  have kr := Blk.new w 33 #[.int .i64 0, .bool false, .bool false, .bool false, .slice none 0 0]
  have b1 : Below w.heap.size w (w.alloc (.cells #[.int .i64 0, .bool false, .bool false, .bool false, .slice none 0 0] 33)) := below_alloc (Below.refl _ _) _
  generalize w.alloc (.cells #[.int .i64 0, .bool false, .bool false, .bool false, .slice none 0 0] 33) = w1 at *
  have hlt := kr.lt
  go_wp2
  go_loopw [3, 4, 5, 11] (fun fv sv v iv wr => ∃ i : Nat, i ≤ l.length ∧ iv = .int .i64 i ∧ fv = .int .u8 (flagX 0 (l.take i)) ∧ sv = .int .u8 (sizeX 0 (l.take i)) ∧ OwnI wr w1.heap.size 5 .u8 v (sumX [] (l.take i)) ∧ Below w1.heap.size w1 wr) (fun _ _ _ iv _ => l.length - (intOf iv).toNat)
  case atStart => exact ⟨0, Nat.zero_le _, rfl, rfl, rfl, OwnI.nil_ _ _ _ _, Below.refl _ _⟩
  case round =>
    obtain ⟨i, hi, rfl, rfl, rfl, hown, hbr⟩ := hrel
    have hOwn := Lib.hid hown
    have hszr := hbr.size
    have hbw := b1.trans (hbr.mono (by omega))
    by_cases hlt2 : i < l.length
    · obtain ⟨ad, p, Aj, cj, rfl, _, hp, e0, e1, e2, e3, e4, hcj, hrj, hwj⟩ := RdPg.at_ (HR.out _ hbw) hlt2
      have HT := Lib.hid (show l.take (i + 1) = l.take i ++ [l[i]] from List.take_succ_eq_append_getElem hlt2)
      have hbl := HB.out l[i] (List.getElem_mem hlt2)
      have hsl : (sumX [] (l.take i)).length ≤ 1000 := by
        rw [sumX_len]
        have := longest_bd (l := l.take i) (n := 1000) fun p hp => HB.out p (List.mem_of_mem_take hp)
        simp; omega
      have HBy := Lib.hid (sumX_bytes (l := l.take i) byteB.nil_)
      have HF := Lib.hid (fun W => mdflags_any l[i] Aj cj W)
      have HF1 := Lib.hid (show flagX 0 (l.take (i + 1)) = xo (flagX 0 (l.take i)) (flg l[i]) by rw [HT.out, flagX_snoc])
      have HF2 := Lib.hid (show sizeX 0 (l.take (i + 1)) = xo (sizeX 0 (l.take i)) (lenB l[i]) by rw [HT.out, sizeX_snoc])
      have HF3 := Lib.hid (show sumX [] (l.take (i + 1)) = blend (sumX [] (l.take i)) l[i].body by rw [HT.out, sumX_snoc])
      have hlb : IntKind.u8.wrap (l[i].body.length : Int) = lenB l[i] := by rw [IntKind.wrap_u8]; rfl
      have hRj := hrj.rdI (B := w1.heap.size) (fun b h _ => by have h' : b < w.heap.size := h; omega)
      have HBl := Lib.hid (fun W v (ho : OwnI W w1.heap.size 5 .u8 v (sumX [] (l.take i))) (hW : Below w1.heap.size wr W) => blend_any (c := cj) ho (by have := hW.size; omega) (hRj.below hW (Nat.le_refl _)) (by omega) (by omega) HBy.out)
      generalize flagX 0 (l.take i) = fx at *
      generalize sizeX 0 (l.take i) = sx at *
      generalize sumX [] (l.take i) = su at *
      generalize l[i] = q at *
      obtain ⟨q1, q2, q3, q4, q5⟩ := q
      simp only [Pg.val] at HF HBl e0 e1 e2 e3 e4 hlb
      generalize flg ⟨q1, q2, q3, q4, q5⟩ = fq at *
      generalize lenB ⟨q1, q2, q3, q4, q5⟩ = lq at *
      have hxf : bits .xor .u8 fx fq = xo fx fq := rfl
      have hxs : bits .xor .u8 sx lq = xo sx lq := rfl
      clear hrj hwj hown
      go_upto_region 6 with fail
      have bx : Below wr.heap.size wr (wr.alloc (.cells #[.int .i64 q1, .bool q2, .bool q3, .bool q4, .slice Aj q5.length cj] 33)) := below_alloc (Below.refl _ _) _
      have kx := Blk.new wr 33 #[.int .i64 q1, .bool q2, .bool q3, .bool q4, .slice Aj q5.length cj]
      generalize wr.alloc (.cells #[.int .i64 q1, .bool q2, .bool q3, .bool q4, .slice Aj q5.length cj] 33) = wx at *
      have hkl := kx.lt
      have x0 := kx.cell 0
      have x1 := kx.cell 1
      have x2 := kx.cell 2
      have x3 := kx.cell 3
      have x4 := kx.cell 4
      have hox := hOwn.out.below bx
      clear e0 e1 e2 e3 e4
      go_wp2_with (first
        | (go_at_call 54; (with_reducible refine (HF.out _).mono ?_); rintro e w2 ⟨rfl, hb2⟩; have y4 := (kx.below hb2 hkl).cell 4; have ho2 := hox.below hb2)
        | (go_at_call 55; (with_reducible refine (HBl.out _ _ ho2 ((bx.trans (hb2.mono bx.size)).mono hszr)).mono ?_); rintro e w3 ⟨v3, rfl, ho3, hb3⟩))
      go_roundw
      case rel => exact ⟨i + 1, by omega, by go_num, by rw [HF1.out], by rw [HF2.out], by rw [HF3.out]; exact ho3, hbr.trans (((bx.trans (hb2.mono bx.size)).mono hszr).trans hb3)⟩
      case measure => simp [intOf]; omega
    · have hil : i = l.length := by omega
      subst hil
      simp only [List.take_length] at *
      have HOw := Lib.hid hown
      clear hown hOwn
      obtain ⟨ad, p, Aj, cj, rfl, _, hp, e0, _⟩ := RdPg.at_ (HR.out _ hbw) h0
      rw [Nat.zero_mul] at hp
      have hp' : ad = p := hp
      subst hp'
      have hsl : (sumX [] l).length ≤ 1000 := by
        rw [sumX_len]
        have := longest_bd (l := l) (n := 1000) HB.out
        simp; omega
      have hlw : IntKind.u8.wrap (l.length : Int) = (l.length : Int) % 256 := IntKind.wrap_u8 _
      have HV := Lib.hid (show ∀ A' c', (guardG l).val A' c' = .agg #[.int .i64 l[0].seq, .bool false, .bool false, .bool true, .slice A' ([(l.length : Int) % 256, flagX 0 l, sizeX 0 l] ++ sumX [] l).length c'] from fun A' c' => by
        show Value.agg #[.int .i64 (l.getD 0 zg).seq, _, _, _, _] = _
        rw [List.getD_eq_getElem?_getD, List.getElem?_eq_getElem h0]; rfl)
      have HG := Lib.hid (show (guardG l).body = [(l.length : Int) % 256, flagX 0 l, sizeX 0 l] ++ sumX [] l from rfl)
      generalize l[0].seq = sq at *
      generalize sumX [] l = su at *
      generalize flagX 0 l = fx at *
      generalize sizeX 0 l = sx at *
      generalize hn : (l.length : Int) % 256 = n8 at *
      clear hn
      obtain ⟨A5, c5, rfl, hc5, hr5, hA5⟩ := HOw.out.form
      have ho3 := OwnI.lit wr wr.heap.size 5 .u8 [n8, fx, sx] #[.int .u8 n8, .int .u8 fx, .int .u8 sx] rfl (Nat.le_refl _) (by simp [maxLen])
      have b3 : Below wr.heap.size wr (wr.alloc (.cells #[.int .u8 n8, .int .u8 fx, .int .u8 sx] 5)) := below_alloc (Below.refl _ _) _
      have hr5' := hr5.below b3 (Nat.le_refl _)
      go_wp2_with (first
        | (at_builtin; (refine wpList_append_int _ rfl (.tmp 35) (.tmp 36) _ rfl wr wr.heap.size wr.heap.size 5 .u8 1 Try.underlying31 info_u8 _ [n8, fx, sx] rfl ho3 _ A5 _ c5 su rfl rfl hr5' (by simp; omega) (by omega) b3 (Nat.le_refl _) (by simp) ?_); intro v4 w4 ow4 bw4; obtain ⟨A4, c4, rfl, hc4, _, _⟩ := ow4.form; have z0 := (bw4.cell (World.block_lt_of_cell? wr _ e0)).trans e0; have kr4 := (kr.below hbr hlt).below bw4 (by omega); have y0 := kr4.cell 0; have y1 := kr4.cell 1; have y2 := kr4.cell 2; have y3 := kr4.cell 3; have y4 := kr4.cell 4; have f0 := kr4.frozen 0; have f1 := kr4.frozen 1; have f2 := kr4.frozen 2; have f3 := kr4.frozen 3; have f4 := kr4.frozen 4))
      have bz : Below w.heap.size w w4 := hbw.trans (bw4.mono hbw.size)
      refine bodyPost_ret (v := .agg #[.int .i64 sq, .bool false, .bool false, .bool true, .slice A4 ([n8, fx, sx] ++ su).length c4]) (by simp [results, Try.results32, go_sem, y0, y1, y2, y3, y4]) rfl ?_
      refine ⟨A4, c4, by rw [HV.out], ?_, by repeat (first | with_reducible exact bz | refine below_put ?_ (Nat.le_refl _))⟩
      rw [HG.out]
      exact OwnI.base_ (base := w.heap.size + 1) (by repeat (first | with_reducible exact ow4.base_ (by omega) | refine own_put ?_ (Nat.lt_succ_self _))) (by omega)
end Go.Proofs.Ytdnkdjaokmibjaa
