/- The bytes of marks read back (plain). -/
import Derived.Test.YtaimjlnhdobgeaaMkL
set_option linter.unusedSimpArgs false
set_option linter.unusedVariables false
namespace Go.Proofs.Ytaimjlnhdobgeaa
open Go.RowKit

/-- Where the reader stands ahead of mark k. -/
structure MkAt (l : List Mk) (k : Nat) (s : Rs) : Prop where
  data : s.data = mkHead l
  err : s.err = 0
  le : s.at_ ≤ (mkHead l).length
  drop : (mkHead l).drop s.at_ = mkTail (endAt 0 (l.take k)) (endPg 0 (l.take k)) (l.drop k)
theorem MkAt.first {l : List Mk} (hl : l.length ≤ 1000000) : ∃ s, Rs.num ⟨mkHead l, 0, 0⟩ ((mkHead l).length : Int) = ((l.length : Int), s) ∧ MkAt l 0 s := by
  have h1 := mkTail_ge l 0 0
  have h2 := mkHead_len l
  have h3 : (mkHead l).length = (putOne l.length).length + (mkTail 0 0 l).length := by rw [mkHead, List.length_append]
  have hd : (⟨mkHead l, 0, 0⟩ : Rs).data.drop (⟨mkHead l, 0, 0⟩ : Rs).at_ = putOne l.length ++ mkTail 0 0 l := by simp [mkHead]
  refine ⟨_, num_put rfl hd (by omega) (by omega) (by omega), rfl, rfl, by simp only; omega, ?_⟩
  have := drop_put hd
  simpa [endAt, endPg] using this
theorem MkAt.step {l : List Mk} {k : Nat} {s : Rs} (h : MkAt l k s) (hk : k < l.length) (hall : mkAll l = true) :
    ∃ s1 s2 s3, s.num 3 = (l[k].st, s1) ∧ s1.num 4611686018427387904 = (zig (l[k].at_ - endAt 0 (l.take k)), s2) ∧ s2.num 4611686018427387904 = (zig (l[k].pg - endPg 0 (l.take k)), s3) ∧ MkAt l (k + 1) s3 := by
  obtain ⟨hd, he, hle, hdr⟩ := h
  have hok : markOk l[k] = true := List.all_eq_true.1 hall _ (List.getElem_mem hk)
  have hb := markOk_bd hok
  have hen := end_bd (l := l.take k) (List.all_eq_true.2 fun x hx => List.all_eq_true.1 hall x (List.mem_of_mem_take hx))
  have z1 := zig_bd (a := l[k].at_ - endAt 0 (l.take k)) (by omega)
  have z2 := zig_bd (a := l[k].pg - endPg 0 (l.take k)) (by omega)
  rw [List.drop_eq_getElem_cons hk, mkTail] at hdr
  have e1 : s.data.drop s.at_ = putOne l[k].st ++ (putOne (zig (l[k].at_ - endAt 0 (l.take k))) ++ (putOne (zig (l[k].pg - endPg 0 (l.take k))) ++ mkTail l[k].at_ l[k].pg (l.drop (k + 1)))) := by rw [hd, hdr]
  have e2 := drop_put e1
  have e3 := drop_put e2
  have e4 := drop_put e3
  refine ⟨_, _, _, num_put he e1 (by omega) (by omega) (by omega), num_put (s := ⟨s.data, s.at_ + (putOne l[k].st).length, 0⟩) rfl e2 (by omega) (by omega) (by omega), num_put (s := ⟨s.data, s.at_ + (putOne l[k].st).length + (putOne (zig (l[k].at_ - endAt 0 (l.take k)))).length, 0⟩) rfl e3 (by omega) (by omega) (by omega), hd, rfl, ?_, ?_⟩
  · have h5 := congrArg List.length e1
    simp only [List.length_drop, List.length_append] at h5
    rw [hd] at h5
    simp only
    have hp1 := putOne_length l[k].st
    omega
  · simp only
    rw [← hd, e4, List.take_succ_eq_append_getElem hk, endAt_snoc, endPg_snoc]
theorem MkAt.last {l : List Mk} {s : Rs} (h : MkAt l l.length s) : s.data.length - s.at_ = 0 := by
  have h5 := congrArg List.length h.drop
  rw [List.drop_length] at h5
  simp only [mkTail, List.length_drop, List.length_nil] at h5
  rw [h.data]; exact h5
end Go.Proofs.Ytaimjlnhdobgeaa
