/- Rows of the call's own whose elements have several cells: one cell of an element written anew; rows that are made. -/
import Derived.Test.YtdlbjilbdbjadaaDat
set_option linter.unusedSimpArgs false
set_option linter.unusedVariables false
namespace Go.Proofs.Ytdlbjilbdbjadaa
open Go.RowKit

section
variable {α : Type} {R : Rel α} {size : Nat} {e : TypeId} {w : World} {base : Nat} {D : Nat → Prop} {v : Value} {xs : List α}
theorem seg_get (cells : List Value) (a s t : Nat) : ((cells.drop a).take s)[t]? = if t < s then cells[a + t]? else none := by
  rw [List.getElem?_take]
  split
  · rw [List.getElem?_drop]
  · rfl
theorem seg_set_in (cells : List Value) {a s i : Nat} (hi : i < s) (u : Value) : ((cells.set (a + i) u).drop a).take s = ((cells.drop a).take s).set i u := by
  apply List.ext_getElem?
  intro t
  rw [seg_get, List.getElem?_set, List.getElem?_set, seg_get]
  by_cases ht : t < s
  · simp only [if_pos ht]
    by_cases hti : i = t
    · subst hti
      simp only [if_true, List.length_take, List.length_drop]
      by_cases hl : a + i < cells.length
      · rw [if_pos hl, if_pos (by omega)]
      · rw [if_neg hl, if_neg (by omega)]
    · rw [if_neg (by omega), if_neg hti]
  · simp only [if_neg ht]
    rw [if_neg (by omega)]
theorem seg_set_out (cells : List Value) {a s m : Nat} (h : m < a ∨ a + s ≤ m) (u : Value) : ((cells.set m u).drop a).take s = (cells.drop a).take s := by
  apply List.ext_getElem?
  intro t
  rw [seg_get, seg_get]
  by_cases ht : t < s
  · simp only [if_pos ht]
    rw [List.getElem?_set, if_neg (by omega)]
  · simp only [if_neg ht]
theorem Cells.set_ {S : Nat → Prop} {cells : List Value} (h : Cells R size w S cells xs) {j i : Nat} {u : Value} {y : α} (hj : j < xs.length) (hi : i < size) (hR : R w S (((cells.drop (j * size)).take size).set i u) y) :
    Cells R size w S (cells.set (j * size + i) u) (xs.set j y) := by
  refine ⟨by rw [List.length_set, List.length_set]; exact h.1, fun k hk => ?_⟩
  rw [List.length_set] at hk
  rw [List.getElem_set]
  by_cases hjk : j = k
  · subst hjk
    rw [if_pos rfl, seg_set_in _ hi]
    exact hR
  · rw [if_neg hjk, seg_set_out]
    · exact h.2 k hk
    · rcases Nat.lt_or_gt_of_ne hjk with h1 | h1
      · left
        have : (j + 1) * size ≤ k * size := Nat.mul_le_mul_right _ h1
        rw [Nat.succ_mul] at this
        omega
      · right
        have : (k + 1) * size ≤ j * size := Nat.mul_le_mul_right _ h1
        rw [Nat.succ_mul] at this
        omega
/-- What is known of such a row, and what one store into it leaves. -/
theorem OwnG.rowS (g : R.Good size) (h : OwnG R size e w base D v xs) (hl : 0 < xs.length) : ∃ gb c, v = .slice (some ⟨gb, 0, none⟩) xs.length c ∧ base ≤ gb ∧ gb < w.heap.size ∧ xs.length ≤ c ∧ (∀ j, w.frozen? ⟨gb, j, none⟩ = false) ∧
    (∀ j (hj : j < xs.length), ∃ cs, R w (fun b => D b ∧ some gb ≠ some b) cs xs[j] ∧ (∀ i u, cs[i]? = some u → w.cell? ⟨gb, j * size + i, none⟩ = some u) ∧
      ∀ i u y, i < size → R w (fun b => D b ∧ some gb ≠ some b) (cs.set i u) y → OwnG R size e (w.setCell ⟨gb, j * size + i, none⟩ u) base D v (xs.set j y)) := by
  obtain ⟨cells, ho, hcs⟩ := h
  obtain ⟨gb, cap, rfl, hgb, hgl⟩ := World.ownsRow.form ho hl
  have hc : xs.length ≤ cap := by
    rcases ho.2 with ⟨h', _⟩ | ⟨g', cap', cur, h', _, _, hnc, _⟩
    · simp at h'
    · simp only [Value.slice.injEq] at h'
      omega
  refine ⟨gb, cap, rfl, hgb, hgl, hc, fun j => ho.frozenAt j, fun j hj => ⟨(cells.drop (j * size)).take size, hcs.2 j hj, fun i u hu => ?_, fun i u y hi hR => ?_⟩⟩
  · rw [seg_get] at hu
    split at hu
    · have hlt : j * size + i < cells.length := by
        rcases Nat.lt_or_ge (j * size + i) cells.length with h1 | h1
        · exact h1
        · rw [List.getElem?_eq_none h1] at hu; cases hu
      exact (ho.cellAt _ (by rw [← ho.1]; exact hlt)).trans hu
    · cases hu
  · refine ⟨cells.set (j * size + i) u, by rw [List.length_set]; exact (World.ownsRow.stored ho (j * size + i) u).1, ?_⟩
    have hm : Mod (· = gb) w (w.setCell ⟨gb, j * size + i, none⟩ u) := mod_put (Mod.refl _ _) (fun _ => rfl)
    exact Cells.keep g (Cells.set_ hcs hj hi hR) hm fun b hb _ he => hb.2 (by rw [he]; rfl)
theorem OwnG.empty0 (g : R.Good size) (w : World) (hb : base ≤ w.heap.size) : OwnG R size e (w.alloc (.cells #[] e)) base D (.slice (some ⟨w.heap.size, 0, none⟩) 0 0) ([] : List α) := ⟨[], World.ownsRow_made w #[] 0 hb (by simp [maxLen]) (by simp), Cells.nil_⟩
theorem run_make_any {P : Program} (W : World) (t : TypeId) {z : Value} {bytes : Nat} (ht : P.underlying t = some (.slice e)) (hi : (P.info? e).map (fun i => (i.zero, i.size, i.bytes)) = some (some z, size, bytes)) (hby : bytes ≤ 1024) (kl : IntKind) (n : Nat) (hn : n ≤ 1000000000) :
    (Instr.makeSlice t (.int kl (n : Int)) (.int kl (n : Int))).run P W = .ok (.slice (some ⟨W.heap.size, 0, none⟩) n n) (W.alloc (.cells (madeCells z.cells (n * size)) e)) := by
  obtain ⟨i0, hi0, hz0, hz1, hz2⟩ := infoG hi
  have hb : (i0.bytes : Int) * (n : Int) ≤ 281474976710656 := by
    have h : i0.bytes * n ≤ 1024 * 1000000000 := Nat.mul_le_mul (by omega) hn
    have h2 : ((i0.bytes * n : Nat) : Int) ≤ 281474976710656 := by omega
    rwa [Int.natCast_mul] at h2
  have hr := run_make (P := P) W t e i0 z ht hi0 hz0 kl kl n n (by omega) (by omega) hb (by omega)
  simp only [Int.toNat_natCast, hz1] at hr
  rw [hr]
theorem OwnG.madeS (W : World) (hb : base ≤ W.heap.size) {n : Nat} (hn : n ≤ 1000000000) {zc : Array Value} (hz : zc.size = size) (h0 : 0 < size) {x : α} (hR : ∀ W' S, R W' S zc.toList x) : OwnG R size e (W.alloc (.cells (madeCells zc (n * size)) e)) base D (.slice (some ⟨W.heap.size, 0, none⟩) n n) (List.replicate n x) := by
  have h := World.ownsRow_lit (base := base) (e := e) (size := size) W (madeCells zc (n * size)) n hb (by simp only [maxLen]; omega) (size_madeCells _ _)
  refine ⟨(madeCells zc (n * size)).toList, by rw [List.length_replicate]; exact h, by rw [Array.length_toList, size_madeCells, List.length_replicate], fun j hj => ?_⟩
  rw [List.length_replicate] at hj
  rw [List.getElem_replicate]
  have e1 : (((madeCells zc (n * size)).toList.drop (j * size)).take size) = zc.toList := by
    apply List.ext_getElem?
    intro t
    rw [seg_get]
    by_cases ht : t < size
    · rw [if_pos ht]
      have h1 : j * size + t < n * size := by
        have : (j + 1) * size ≤ n * size := Nat.mul_le_mul_right _ hj
        rw [Nat.succ_mul] at this
        omega
      have h2 : (j * size + t) % zc.size = t := by rw [hz, Nat.mul_comm, Nat.mul_add_mod]; exact Nat.mod_eq_of_lt ht
      rw [List.getElem?_eq_getElem (by rw [Array.length_toList, size_madeCells]; exact h1), List.getElem?_eq_getElem (by rw [Array.length_toList, hz]; exact ht)]
      simp only [madeCells, Array.getElem_toList, Array.getElem_map, Array.getElem_range, h2]
      rw [getElem!_pos zc t (by omega)]
    · rw [if_neg ht, List.getElem?_eq_none (by rw [Array.length_toList, hz]; omega)]
  rw [e1]
  exact hR _ _
end
end Go.Proofs.Ytdlbjilbdbjadaa
