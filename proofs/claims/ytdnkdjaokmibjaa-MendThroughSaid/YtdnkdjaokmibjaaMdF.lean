/- Mend's small functions: flags, accepted, isGuard, copied. -/
import Derived.Test.YtdnkdjaokmibjaaMdRL
import Derived.Test.YtdnkdjaokmibjaaPgBytes
import Derived.Deep.DeepCutAuto
set_option linter.unusedSimpArgs false
set_option linter.unusedVariables false
namespace Go.Proofs.Ytdnkdjaokmibjaa
open Go.RowKit

set_option maxHeartbeats 1000000 in
theorem mdflags_any (p : Pg) (A : Option Addr) (c : Nat) (w : World) : Calls Try.prog 54 #[p.val A c] w fun e w' => e = .returned (.int .u8 (flg p)) ∧ Below w.heap.size w w' := by
  obtain ⟨s, f, l, g, b⟩ := p
  cases f <;> cases l
  all_goals
    go_enter Try.func54, Try.ntmps54
    go_wp2
    go_ret
    exact ⟨rfl, (by repeat (first | exact Below.refl _ _ | assumption | refine Below.drew ?_ | refine below_drewN ?_ _ | refine below_alloc ?_ _))⟩

set_option maxHeartbeats 1000000 in
theorem accepted_any (p : Pg) (A : Option Addr) (c : Nat) (hw : p.wf) (w : World) (hr : RdI w w.heap.size .u8 A p.body) : Calls Try.prog 30 #[p.val A c] w fun e w' => e = .returned (.bool (pgOk p)) ∧ Below w.heap.size w w' := by
  have HB := fun W (hb : Below w.heap.size w W) => pgbytes_any p A c hw W (hr.below hb (Nat.le_refl _) |>.more hb.size)
  have HE := Lib.hid (show pgE p = if pgOk p = true then 0 else 1 from rfl)
  simp only [Pg.val] at HB
  replace HB := Lib.hid HB
  generalize pgB p = B at *
  generalize pgE p = E at *
  generalize pgOk p = O at *
  obtain ⟨s, f, l, g, b⟩ := p
  cases O
  · have hE := HE.out
    rw [if_neg (by simp)] at hE
    subst hE
    go_enter Try.func30, Try.ntmps30
    go_wp2_with (first
      | (go_at_call 24; (with_reducible refine (HB.out _ (below_alloc (Below.refl _ _) _)).mono ?_); rintro e w1 ⟨v1, rfl, _, hb1⟩))
    go_ret
    exact ⟨rfl, below_then (below_alloc (Below.refl _ _) _) hb1⟩
  · have hE := HE.out
    rw [if_pos rfl] at hE
    subst hE
    go_enter Try.func30, Try.ntmps30
    go_wp2_with (first
      | (go_at_call 24; (with_reducible refine (HB.out _ (below_alloc (Below.refl _ _) _)).mono ?_); rintro e w1 ⟨v1, rfl, _, hb1⟩))
    go_ret
    exact ⟨rfl, below_then (below_alloc (Below.refl _ _) _) hb1⟩

/-- a guard that can be used -/
def isG (p : Pg) : Bool := decide (p.guard = true ∧ 3 < p.body.length ∧ 1 ≤ p.body.getD 0 0 ∧ p.body.getD 0 0 ≤ 8)
set_option maxHeartbeats 2000000 in
theorem isguard_any (p : Pg) (A : Option Addr) (c : Nat) (hw : p.wf) (w : World) (hr : RdI w w.heap.size .u8 A p.body) : Calls Try.prog 33 #[p.val A c] w fun e w' => e = .returned (.bool (isG p)) ∧ Below w.heap.size w w' := by
  have HI := Lib.hid (show isG p = decide (p.guard = true ∧ 3 < p.body.length ∧ 1 ≤ p.body.getD 0 0 ∧ p.body.getD 0 0 ≤ 8) from rfl)
  have hlen := hw.len
  generalize isG p = I at *
  obtain ⟨s, f, l, g, b⟩ := p
  simp only at HI hr hlen
  have b0 : Below w.heap.size w (w.alloc (.cells #[.int .i64 s, .bool f, .bool l, .bool g, .slice A b.length c] 33)) := below_alloc (Below.refl _ _) _
  cases g
  · have hI : I = false := HI.out.trans (by simp)
    subst hI
    go_enter Try.func33, Try.ntmps33
    go_wp2
    go_ret
    exact ⟨rfl, b0⟩
  · by_cases h3 : 3 < b.length
    · obtain ⟨ad, rfl, _, x0⟩ := hr.at_ (j := 0) (by omega)
      have hx := (b0.cell (World.block_lt_of_cell? w _ x0)).trans x0
      have hx0 : (w.alloc (.cells #[.int .i64 s, .bool f, .bool l, .bool true, .slice (some ad) b.length c] 33)).cell? ad = some (.int .u8 (b.getD 0 0)) := hx
      generalize b.getD 0 0 = y at *
      have h3' : decide ((3 : Int) < (b.length : Int)) = true := by simp; omega
      have hI : I = decide (1 ≤ y ∧ y ≤ 8) := HI.out.trans (by simp [h3])
      subst hI
      clear HI
      by_cases hy : 1 ≤ y
      · by_cases hy8 : y ≤ 8
        · rw [decide_eq_true (show 1 ≤ y ∧ y ≤ 8 from ⟨hy, hy8⟩)]
          have hy' : decide (1 ≤ y) = true := decide_eq_true hy
          have hy8' : decide (y ≤ 8) = true := decide_eq_true hy8
          clear hy hy8
          go_enter Try.func33, Try.ntmps33
          go_wp2
          go_ret
          exact ⟨rfl, b0⟩
        · rw [decide_eq_false (show ¬ (1 ≤ y ∧ y ≤ 8) from fun h => hy8 h.2)]
          have hy' : decide (1 ≤ y) = true := decide_eq_true hy
          have hy8' : decide (y ≤ 8) = false := decide_eq_false hy8
          clear hy hy8
          go_enter Try.func33, Try.ntmps33
          go_wp2
          go_ret
          exact ⟨rfl, b0⟩
      · rw [decide_eq_false (show ¬ (1 ≤ y ∧ y ≤ 8) from fun h => hy h.1)]
        have hy' : decide (1 ≤ y) = false := decide_eq_false hy
        clear hy
        go_enter Try.func33, Try.ntmps33
        go_wp2
        go_ret
        exact ⟨rfl, b0⟩
    · have hI : I = false := HI.out.trans (by simp [h3])
      subst hI
      have h3' : decide ((3 : Int) < (b.length : Int)) = false := by simp; omega
      clear HI
      go_enter Try.func33, Try.ntmps33
      go_wp2
      go_ret
      exact ⟨rfl, b0⟩

set_option maxHeartbeats 2000000 in
theorem copied_any (p : Pg) (A : Option Addr) (c : Nat) (hw : p.wf) (hl : p.body.length ≤ 1000000) (w : World) (hr : RdI w w.heap.size .u8 A p.body) :
    Calls Try.prog 31 #[p.val A c] w fun e w' => ∃ A' c', e = .returned (p.val A' c') ∧ OwnI w' w.heap.size 5 .u8 (.slice A' p.body.length c') p.body ∧ Below w.heap.size w w' := by
  obtain ⟨s, f, l, g, b⟩ := p
  simp only [Pg.val] at *
  have HR := Lib.hid hr
  clear hr
  go_enter Try.func31, Try.ntmps31
  go_upto_region 1 with fail
  have kb := Blk.new w 33 #[.int .i64 s, .bool f, .bool l, .bool g, .slice A b.length c]
  have b0 : Below w.heap.size w (w.alloc (.cells #[.int .i64 s, .bool f, .bool l, .bool g, .slice A b.length c] 33)) := below_alloc (Below.refl _ _) _
  have kz := kb.alloc (.cells #[.int .i64 0, .bool false, .bool false, .bool false, .slice none 0 0] 33)
  have kr := Blk.new (w.alloc (.cells #[.int .i64 s, .bool f, .bool l, .bool g, .slice A b.length c] 33)) 33 #[.int .i64 0, .bool false, .bool false, .bool false, .slice none 0 0]
  rw [show (w.alloc (.cells #[.int .i64 s, .bool f, .bool l, .bool g, .slice A b.length c] 33)).heap.size = w.heap.size + 1 by simp] at kr
  have b1 := below_alloc b0 (.cells #[.int .i64 0, .bool false, .bool false, .bool false, .slice none 0 0] 33)
  generalize (w.alloc (.cells #[.int .i64 s, .bool f, .bool l, .bool g, .slice A b.length c] 33)).alloc (.cells #[.int .i64 0, .bool false, .bool false, .bool false, .slice none 0 0] 33) = w1 at *
  have hR1 := HR.out.below b1 (Nat.le_refl _)
  clear kb b0
  have x4 := kz.cell 4
  have hlt := kr.lt
  go_wp2_with (first
    | (at_builtin; (refine wpList_append_int2 _ rfl (.const (.slice none 0 0)) (.tmp 4) _ rfl w1 w1.heap.size w1.heap.size 5 .u8 1 Try.underlying31 info_u8 _ [] rfl (OwnI.nil_ _ _ _ _) w.heap.size A _ c b rfl rfl hR1 (by simp; omega) (by omega) (Below.refl _ _) (Nat.le_refl _) (Nat.le_refl _) ?_); intro v2 w2 ow2 bw2 _ _; rw [List.nil_append] at ow2; obtain ⟨A2, c2, rfl, hc2, _, hA2⟩ := ow2.form; have kz2 := kz.below bw2 (by omega); have kr2 := kr.below bw2 (by omega); have y0 := kz2.cell 0; have y1 := kz2.cell 1; have y2 := kz2.cell 2; have y3 := kz2.cell 3; have y4 := kz2.cell 4; have f4 := kz2.frozen 4; have z0 := kr2.cell 0; have z1 := kr2.cell 1; have z2 := kr2.cell 2; have z3 := kr2.cell 3; have z4 := kr2.cell 4; have g0 := kr2.frozen 0; have g1 := kr2.frozen 1; have g2 := kr2.frozen 2; have g3 := kr2.frozen 3; have g4 := kr2.frozen 4))
  have bz : Below w.heap.size w w2 := b1.trans (bw2.mono b1.size)
  refine bodyPost_ret (v := .agg #[.int .i64 s, .bool f, .bool l, .bool g, .slice A2 b.length c2]) (by simp [results, Try.results31, go_sem, z0, z1, z2, z3, z4]) rfl ⟨A2, c2, rfl, OwnI.base_ (base := w.heap.size + 2) (by repeat (first | with_reducible exact ow2.base_ (by omega) | refine own_put ?_ (by omega))) (by omega), by repeat (first | with_reducible exact bz | refine below_put ?_ (by omega))⟩
end Go.Proofs.Ytdnkdjaokmibjaa
