/- MendThrough: plain. -/
import Derived.Test.YtdnkdjaokmibjaaMdBX
import Derived.Test.YtdnkdjaokmibjaaMdBy
import Derived.Test.YtdnkdjaokmibjaaPgSplitL
set_option linter.unusedSimpArgs false
set_option linter.unusedVariables false
namespace Go.Proofs.Ytdnkdjaokmibjaa
open Go.RowKit

theorem pgb_len (p : Pg) : (pgBytes p).length = p.body.length + 12 := by rw [pgBytes, List.length_append, pgHead_len, bg_len]
theorem guarded_ok {l : List Pg} (h : Num l) (hl : l.length ≤ 100000) : ∀ p ∈ guarded l, pgOk p = true := fun p hp => by
  obtain ⟨i, hi, rfl⟩ := List.getElem_of_mem hp
  obtain ⟨hk, ⟨hj, e⟩ | ⟨_, e⟩⟩ := guarded_at hi
  · rw [e]; exact (h.grpOk _).ok _ (List.getElem_mem hj)
  · rw [e]; exact (guardG_good h hl hk).1
def plc (g : List Pg) (k : Nat) : Nat := 8 + ((g.take k).flatMap pgBytes).length
theorem plc_succ {g : List Pg} {k : Nat} (hk : k < g.length) : plc g (k + 1) = plc g k + 12 + g[k].body.length := by
  rw [plc, plc, bys_step hk, List.length_append, pgb_len]; omega
theorem plc_lt {g : List Pg} {k : Nat} (hk : k < g.length) : plc g k < (g.flatMap pgBytes).length := by
  have h : g.flatMap pgBytes = (g.take k).flatMap pgBytes ++ (pgBytes g[k] ++ (g.drop (k + 1)).flatMap pgBytes) := by
    conv => lhs; rw [← List.take_append_drop k g, List.drop_eq_getElem_cons hk]
    rw [List.flatMap_append, List.flatMap_cons]
  rw [h, plc, List.length_append, List.length_append, pgb_len]; omega
theorem pgbs_bytes {g : List Pg} (h : ∀ p ∈ g, pgOk p = true) (hw : ∀ p ∈ g, p.wf) : byteB (g.flatMap pgBytes) := fun x hx => by
  obtain ⟨p, hp, hxp⟩ := List.mem_flatMap.1 hx
  exact ((pgHead_bytes (h p hp) (hw p hp).bytes).append (bg_bytes _ _)) x hxp
theorem one_out {g : List Pg} {i : Nat} (x : Pg) : x ∈ g.take i ++ g.drop (i + 1) ↔ x ∈ keepL g (fun k => decide (k = i)) g.length := by
  rw [keepL_mem, List.mem_append]
  constructor
  · rintro (h | h)
    · obtain ⟨k, hk, rfl⟩ := List.mem_iff_getElem.1 h
      rw [List.length_take] at hk
      exact ⟨k, by omega, decide_eq_false (by omega), List.getElem_take⟩
    · obtain ⟨k, hk, rfl⟩ := List.mem_iff_getElem.1 h
      rw [List.length_drop] at hk
      exact ⟨i + 1 + k, by omega, decide_eq_false (by omega), List.getElem_drop⟩
  · rintro ⟨k, hk, hne, rfl⟩
    have hne := of_decide_eq_false hne
    by_cases h : k < i
    · left
      exact List.mem_iff_getElem.2 ⟨k, by rw [List.length_take]; omega, List.getElem_take⟩
    · right
      refine List.mem_iff_getElem.2 ⟨k - (i + 1), by rw [List.length_drop]; omega, ?_⟩
      rw [List.getElem_drop]
      congr 1; omega
theorem through_ok {l : List Pg} (h : Num l) (hl : l.length ≤ 100000) {i : Nat} {ys : List Pg} (hp : ys.Perm (mendO ((guarded l).take i ++ (guarded l).drop (i + 1)))) (ho : ys.Pairwise (fun a b => a.seq ≤ b.seq)) :
    ys = l ∧ holesP ys (mendT ((guarded l).take i ++ (guarded l).drop (i + 1))) = [] :=
  mend_whole h hl (left_keep h _ one_out) (left_one h (L := fun k => decide (k = i)) (fun a b _ h1 h2 => (of_decide_eq_true h1).trans (of_decide_eq_true h2).symm) one_out) hp ho
end Go.Proofs.Ytdnkdjaokmibjaa
