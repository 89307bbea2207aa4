/- Slices of byte strings; rows of one-cell elements that are written in place. -/
import Derived.Test.YtbbflddhbamjbaaPk
set_option linter.unusedSimpArgs false
set_option linter.unusedVariables false
namespace Go.Proofs.Ytbbflddhbamjbaa
open Go.RowKit

def LbR : Rel (List Int) := fun w S cs l => ∃ A c, cs = [.slice A l.length c] ∧ l.length ≤ c ∧ RdS w S .u8 A l ∧ l.length ≤ 1000000000 ∧ byteB l
theorem LbR.good : Rel.Good LbR 1 where
  pos := by omega
  len := by rintro w S cs x ⟨A, c, rfl, _⟩; rfl
  one := by
    rintro w S cs x ⟨A, c, rfl, _⟩ u hu
    simp only [List.mem_cons, List.not_mem_nil, or_false] at hu
    rcases hu with rfl; rfl
  keep := by
    rintro w w' M S cs x ⟨A, c, h1, h2, h3, h4⟩ hm hs
    exact ⟨A, c, h1, h2, h3.keep hm hs, h4⟩
  weak := by
    rintro w S S' cs x ⟨A, c, h1, h2, h3, h4⟩ hs
    exact ⟨A, c, h1, h2, h3.weak hs, h4⟩
theorem LbR.nil_ (w : World) (S : Nat → Prop) : LbR w S [.slice none 0 0] [] := ⟨none, 0, rfl, Nat.le_refl _, RdS.nil_, by simp, fun x hx => by cases hx⟩
theorem RdLb.at_ {w : World} {S : Nat → Prop} {A : Option Addr} {xs : List (List Int)} (h : RdG LbR 1 w S A xs) {j : Nat} (hj : j < xs.length) : ∃ ad Aj cj, A = some ad ∧ S ad.block ∧ w.cell? (ad.add j) = some (.slice Aj xs[j].length cj) ∧ xs[j].length ≤ cj ∧ RdS w S .u8 Aj xs[j] ∧ xs[j].length ≤ 1000000000 ∧ byteB xs[j] := by
  obtain ⟨ad, cs, e, hb, ⟨Aj, cj, rfl, h1, h2, h3, h4⟩, hc⟩ := h j hj
  have := hc 0 _ rfl
  simp only [Nat.mul_one, Nat.add_zero] at this
  exact ⟨ad, Aj, cj, e, hb, this, h1, h2, h3, h4⟩

section
variable {α : Type} {R : Rel α} {e : TypeId} {w : World} {base : Nat} {D : Nat → Prop} {v : Value} {xs : List α}
theorem cells1_get {S : Nat → Prop} {cells : List Value} (g : R.Good 1) (h : Cells R 1 w S cells xs) {j : Nat} (hj : j < xs.length) : ∃ u, cells[j]? = some u ∧ R w S [u] xs[j] := by
  have hl : cells.length = xs.length := by have := h.1; omega
  have h2 := h.2 j hj
  rw [Nat.mul_one, List.drop_eq_getElem_cons (by omega), List.take_succ_cons, List.take_zero] at h2
  exact ⟨_, List.getElem?_eq_getElem (by omega), h2⟩
theorem cells1_set {S : Nat → Prop} {cells : List Value} (g : R.Good 1) (h : Cells R 1 w S cells xs) {j : Nat} {u : Value} {y : α} (hR : R w S [u] y) : Cells R 1 w S (cells.set j u) (xs.set j y) := by
  have hl : cells.length = xs.length := by have := h.1; omega
  refine ⟨by simp [hl], fun i hi => ?_⟩
  rw [List.length_set] at hi
  rw [Nat.mul_one, List.drop_eq_getElem_cons (by rw [List.length_set]; omega), List.take_succ_cons, List.take_zero, List.getElem_set, List.getElem_set]
  by_cases hij : j = i
  · rw [if_pos hij, if_pos hij]
    exact hR
  · rw [if_neg hij, if_neg hij]
    obtain ⟨u', hu, hR'⟩ := cells1_get g h hi
    rw [List.getElem?_eq_getElem (by omega)] at hu
    injection hu with hu
    rw [hu]
    exact hR'
theorem OwnG.row1 (g : R.Good 1) (h : OwnG R 1 e w base D v xs) (hl : 0 < xs.length) : ∃ gb c, v = .slice (some ⟨gb, 0, none⟩) xs.length c ∧ base ≤ gb ∧ gb < w.heap.size ∧ xs.length ≤ c ∧ (∀ j, w.frozen? ⟨gb, j, none⟩ = false) ∧
    (∀ j (hj : j < xs.length), ∃ u, w.cell? ⟨gb, j, none⟩ = some u ∧ R w (fun b => D b ∧ some gb ≠ some b) [u] xs[j]) ∧
    (∀ j u y, R w (fun b => D b ∧ some gb ≠ some b) [u] y → OwnG R 1 e (w.setCell ⟨gb, j, none⟩ u) base D v (xs.set j y)) := by
  obtain ⟨cells, ho, hcs⟩ := h
  obtain ⟨gb, cap, rfl, hgb, hgl⟩ := World.ownsRow.form ho hl
  have hc : xs.length ≤ cap := by
    rcases ho.2 with ⟨h', _⟩ | ⟨g', cap', cur, h', _, _, hnc, _⟩
    · simp at h'
    · simp only [Value.slice.injEq] at h'
      omega
  refine ⟨gb, cap, rfl, hgb, hgl, hc, fun j => ho.frozenAt j, fun j hj => ?_, fun j u y hR => ?_⟩
  · obtain ⟨u, hu, hR⟩ := cells1_get g hcs hj
    exact ⟨u, (ho.cellAt j (by omega)).trans hu, hR⟩
  · refine ⟨cells.set j u, by rw [List.length_set]; exact (World.ownsRow.stored ho j u).1, ?_⟩
    have hm : Mod (· = gb) w (w.setCell ⟨gb, j, none⟩ u) := mod_put (Mod.refl _ _) (fun _ => rfl)
    exact Cells.keep g (cells1_set g hcs hR) hm fun b hb _ he => hb.2 (by rw [he]; rfl)
theorem madeCells_one (z : Value) (n : Nat) : madeCells #[z] n = Array.replicate n z := by
  apply Array.ext
  · simp [size_madeCells]
  · intro i h1 h2
    simp [madeCells, Nat.mod_one]
theorem run_make_one {P : Program} (W : World) (t : TypeId) {z : Value} {bytes : Nat} (ht : P.underlying t = some (.slice e)) (hi : (P.info? e).map (fun i => (i.zero, i.size, i.bytes)) = some (some z, 1, bytes)) (hz : z.cells = #[z]) (hby : bytes ≤ 1024) (kl : IntKind) (n : Nat) (hn : n ≤ 1000000000) :
    (Instr.makeSlice t (.int kl (n : Int)) (.int kl (n : Int))).run P W = .ok (.slice (some ⟨W.heap.size, 0, none⟩) n n) (W.alloc (.cells (Array.replicate n z) e)) := by
  obtain ⟨i0, hi0, hz0, hz1, hz2⟩ := infoG hi
  have hb : (i0.bytes : Int) * (n : Int) ≤ 281474976710656 := by
    have h : i0.bytes * n ≤ 1024 * 1000000000 := Nat.mul_le_mul (by omega) hn
    have h2 : ((i0.bytes * n : Nat) : Int) ≤ 281474976710656 := by omega
    rwa [Int.natCast_mul] at h2
  have hr := run_make (P := P) W t e i0 z ht hi0 hz0 kl kl n n (by omega) (by omega) hb (by omega)
  simp only [Int.toNat_natCast, hz1, Nat.mul_one] at hr
  rw [hr, hz, madeCells_one]
theorem OwnG.made (W : World) (hb : base ≤ W.heap.size) {n : Nat} (hn : n ≤ 1000000000) {z : Value} {x : α} (hR : ∀ W' S, R W' S [z] x) : OwnG R 1 e (W.alloc (.cells (Array.replicate n z) e)) base D (.slice (some ⟨W.heap.size, 0, none⟩) n n) (List.replicate n x) := by
  have h := World.ownsRow_lit (base := base) (e := e) (size := 1) W (Array.replicate n z) n hb (by simp only [maxLen]; omega) (by simp)
  refine ⟨List.replicate n z, by rw [List.length_replicate]; simpa using h, by simp, fun j hj => ?_⟩
  rw [List.length_replicate] at hj
  rw [Nat.mul_one, List.drop_replicate, List.take_replicate, Nat.min_eq_left (by omega), List.getElem_replicate]
  exact hR _ _
end
end Go.Proofs.Ytbbflddhbamjbaa
