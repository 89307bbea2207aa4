/- MendThrough: plain. -/
import Derived.Test.YtdnkdjaokmibjaaMdRL
import Derived.Test.YtdnkdjaokmibjaaPgBytes
import Derived.Deep.DeepCutAuto
import Derived.Test.YtdnkdjaokmibjaaMdBX
import Derived.Test.YtdnkdjaokmibjaaPgSplitL
set_option linter.unusedSimpArgs false
set_option linter.unusedVariables false
namespace Go.Proofs.Ytdnkdjaokmibjaa
open Go.RowKit

/-- pages as bytes -/
def bysE (l : List Pg) : Int := if l.all pgOk = true then 0 else 1
def bysB (l : List Pg) : List Int := if l.all pgOk = true then l.flatMap pgBytes else []
theorem bys_bad {l : List Pg} {i : Nat} (h : i < l.length) (hn : pgOk l[i] = false) : bysE l = 1 ∧ bysB l = [] := by
  have : l.all pgOk = false := by rw [List.all_eq_false]; exact ⟨l[i], List.getElem_mem h, by rw [hn]; simp⟩
  rw [bysE, bysB, this]; exact ⟨rfl, rfl⟩
theorem bys_ok {l : List Pg} (h : ∀ j (hj : j < l.length), pgOk l[j] = true) : bysE l = 0 ∧ bysB l = l.flatMap pgBytes := by
  have : l.all pgOk = true := by rw [List.all_eq_true]; intro x hx; obtain ⟨j, hj, rfl⟩ := List.getElem_of_mem hx; exact h j hj
  rw [bysE, bysB, this]; exact ⟨rfl, rfl⟩
theorem bys_step {l : List Pg} {i : Nat} (h : i < l.length) : (l.take (i + 1)).flatMap pgBytes = (l.take i).flatMap pgBytes ++ pgBytes l[i] := by
  rw [List.take_succ_eq_append_getElem h, List.flatMap_append]; simp
theorem bys_len {l : List Pg} (h : ∀ p ∈ l, p.body.length ≤ 255) : (l.flatMap pgBytes).length ≤ 267 * l.length := by
  induction l with
  | nil => simp
  | cons p l ih =>
    have h1 := ih fun q hq => h q (List.mem_cons_of_mem _ hq)
    have h2 := h p (List.mem_cons_self ..)
    have h3 : (pgBytes p).length = p.body.length + 12 := by rw [pgBytes, List.length_append, pgHead_len, bg_len]
    rw [List.flatMap_cons, List.length_append, List.length_cons]; omega

set_option maxHeartbeats 8000000 in
set_option maxRecDepth 100000 in
theorem mdbytes_any {l : List Pg} {A : Option Addr} {c : Nat} {S : Nat → Prop} {w : World} (hr : RdPg w S A l) (hl : l.length ≤ 1000000) :
    Calls Try.prog 19 #[.slice A l.length c] w fun e w' => ∃ v, e = .returned (.tuple #[v, .int .i64 (bysE l)]) ∧ OwnI w' w.heap.size 5 .u8 v (bysB l) ∧ Below w.heap.size w w' := by
  have HR := Lib.hid (fun W (h : Below w.heap.size w W) => hr.below PgR.good h)
  clear hr
  go_enter Try.func19, Try.ntmps19
  go_wp2
  go_loopw [4, 11] (fun v iv wr => ∃ i : Nat, i ≤ l.length ∧ iv = .int .i64 i ∧ (∀ j (hj : j < l.length), j < i → pgOk l[j] = true) ∧ OwnI wr w.heap.size 5 .u8 v ((l.take i).flatMap pgBytes) ∧ Below w.heap.size w wr) (fun _ iv _ => l.length - (intOf iv).toNat)
  case atStart => exact ⟨0, Nat.zero_le _, rfl, fun j _ hj => absurd hj (by omega), OwnI.nil_ _ _ _ _, Below.refl _ _⟩
  case round =>
    obtain ⟨i, hi, rfl, hok, hown, hbr⟩ := hrel
    have HOk := Lib.hid hok
    have HOw := Lib.hid hown
    clear hok hown
    have hszr := hbr.size
    by_cases hlt : i < l.length
    · obtain ⟨ad, p, Aj, cj, rfl, _, hp, e0, e1, e2, e3, e4, hcj, hrj, hwj⟩ := RdPg.at_ (HR.out _ hbr) hlt
      have HB := fun W (hb : Below wr.heap.size wr W) => pgbytes_any l[i] Aj cj hwj W ((RdS.top hrj).below hb (Nat.le_refl _) |>.more hb.size)
      have HE := Lib.hid (show pgE l[i] = if pgOk l[i] = true then 0 else 1 from rfl)
      have HPB := Lib.hid (show pgB l[i] = if pgE l[i] = 0 then pgBytes l[i] else [] from rfl)
      have HNo := Lib.hid (fun (h : pgOk l[i] = false) => bys_bad hlt h)
      have HYes := Lib.hid (show pgOk l[i] = true → ∀ j (hj : j < l.length), j < i + 1 → pgOk l[j] = true from fun h j hj hji => by
        by_cases e : j = i
        · subst e; exact h
        · exact HOk.out j hj (by omega))
      have HS := Lib.hid (bys_step hlt)
      have hbl : ((l.take i).flatMap pgBytes).length ≤ 267000000 := by
        have h1 := bys_len (l := l.take i) (fun p hp => by
          obtain ⟨j, hj, rfl⟩ := List.getElem_of_mem hp
          have hj' : j < i ∧ j < l.length := by simp at hj; omega
          rw [List.getElem_take]
          exact (pgOk_len (HOk.out j hj'.2 hj'.1)).2)
        have h2 : (l.take i).length ≤ 1000000 := by simp; omega
        omega
      have hpl : pgOk l[i] = true → (pgBytes l[i]).length ≤ 267 := fun h => by
        have h1 := (pgOk_len h).2
        rw [pgBytes, List.length_append, pgHead_len, bg_len]; omega
      have HPl := Lib.hid hpl
      clear hpl hrj hwj
      generalize (l.take i).flatMap pgBytes = xs at *
      generalize pgBytes l[i] = pb at *
      generalize pgB l[i] = PB at *
      generalize pgE l[i] = PE at *
      generalize pgOk l[i] = OK at *
      generalize l[i] = q at *
      obtain ⟨q1, q2, q3, q4, q5⟩ := q
      simp only [Pg.val] at HB e0 e1 e2 e3 e4
      replace HB := Lib.hid HB
      go_upto_region 5 with fail
      have bx : Below wr.heap.size wr (wr.alloc (.cells #[.int .i64 q1, .bool q2, .bool q3, .bool q4, .slice Aj q5.length cj] 33)) := below_alloc (Below.refl _ _) _
      have kx := Blk.new wr 33 #[.int .i64 q1, .bool q2, .bool q3, .bool q4, .slice Aj q5.length cj]
      generalize wr.alloc (.cells #[.int .i64 q1, .bool q2, .bool q3, .bool q4, .slice Aj q5.length cj] 33) = wx at *
      have hkl := kx.lt
      have x0 := kx.cell 0
      have x1 := kx.cell 1
      have x2 := kx.cell 2
      have x3 := kx.cell 3
      have x4 := kx.cell 4
      have how := HOw.out.below bx
      clear e0 e1 e2 e3 e4
      cases OK
      · have hPE : PE = 1 := HE.out.trans (if_neg (by simp))
        subst hPE
        have HN := Lib.hid (HNo.out (by first | rfl | trivial))
        go_wp2_with (first
          | (go_at_call 24; (with_reducible refine (HB.out _ bx).mono ?_); rintro e w2 ⟨v2, rfl, ho2, hb2⟩))
        go_ret2
        exact ⟨_, by rw [HN.out.1]; rfl, by rw [HN.out.2]; exact OwnI.nil_ _ _ _ _, below_then hbr (bx.trans (hb2.mono bx.size))⟩
      · have hPE : PE = 0 := HE.out.trans (if_pos rfl)
        subst hPE
        have hPB : PB = pb := HPB.out.trans (if_pos rfl)
        subst hPB
        have hpl := HPl.out (by first | rfl | trivial)
        have HY := Lib.hid (HYes.out (by first | rfl | trivial))
        go_wp2_with (first
          | (go_at_call 24; (with_reducible refine (HB.out _ bx).mono ?_); rintro e w2 ⟨v2, rfl, ho2, hb2⟩; obtain ⟨A2, c2, rfl, hc2, hr2, _⟩ := ho2.form; have how2 := how.below hb2; have hs2 := (bx.trans (hb2.mono bx.size)).size)
          | (at_builtin; (refine wpList_append_int _ rfl (.tmp 23) (.tmp 24) _ rfl w2 w.heap.size w.heap.size 5 .u8 1 Try.underlying31 info_u8 _ xs rfl how2 _ A2 _ c2 PB rfl rfl hr2 (by omega) (by omega) (Below.refl _ _) (Nat.le_refl _) (by omega) ?_); intro v3 w3 ow3 bw3))
        go_roundw
        case rel => exact ⟨i + 1, by omega, by go_num, HY.out, by rw [HS.out]; exact ow3, hbr.trans (((bx.trans (hb2.mono bx.size)).mono hszr).trans bw3)⟩
        case measure => simp [intOf]; omega
    · have hil : i = l.length := by omega
      subst hil
      have HN := Lib.hid (bys_ok (l := l) (fun j hj => HOk.out j hj hj))
      go_wp2
      go_ret2
      refine ⟨_, by rw [HN.out.1]; rfl, ?_, hbr⟩
      have := HOw.out
      rw [List.take_length] at this
      rw [HN.out.2]; exact this
end Go.Proofs.Ytdnkdjaokmibjaa

namespace Go.Proofs.Ytdnkdjaokmibjaa
open Go.RowKit

theorem pgb_len (p : Pg) : (pgBytes p).length = p.body.length + 12 := by rw [pgBytes, List.length_append, pgHead_len, bg_len]
theorem guarded_ok {l : List Pg} (h : Num l) (hl : l.length ≤ 100000) : ∀ p ∈ guarded l, pgOk p = true := fun p hp => by
  obtain ⟨i, hi, rfl⟩ := List.getElem_of_mem hp
  obtain ⟨hk, ⟨hj, e⟩ | ⟨_, e⟩⟩ := guarded_at hi
  · rw [e]; exact (h.grpOk _).ok _ (List.getElem_mem hj)
  · rw [e]; exact (guardG_good h hl hk).1
def plc (g : List Pg) (k : Nat) : Nat := 8 + ((g.take k).flatMap pgBytes).length
theorem plc_succ {g : List Pg} {k : Nat} (hk : k < g.length) : plc g (k + 1) = plc g k + 12 + g[k].body.length := by
  rw [plc, plc, bys_step hk, List.length_append, pgb_len]; omega
theorem plc_lt {g : List Pg} {k : Nat} (hk : k < g.length) : plc g k < (g.flatMap pgBytes).length := by
  have h : g.flatMap pgBytes = (g.take k).flatMap pgBytes ++ (pgBytes g[k] ++ (g.drop (k + 1)).flatMap pgBytes) := by
    conv => lhs; rw [← List.take_append_drop k g, List.drop_eq_getElem_cons hk]
    rw [List.flatMap_append, List.flatMap_cons]
  rw [h, plc, List.length_append, List.length_append, pgb_len]; omega
theorem pgbs_bytes {g : List Pg} (h : ∀ p ∈ g, pgOk p = true) (hw : ∀ p ∈ g, p.wf) : byteB (g.flatMap pgBytes) := fun x hx => by
  obtain ⟨p, hp, hxp⟩ := List.mem_flatMap.1 hx
  exact ((pgHead_bytes (h p hp) (hw p hp).bytes).append (bg_bytes _ _)) x hxp
theorem one_out {g : List Pg} {i : Nat} (x : Pg) : x ∈ g.take i ++ g.drop (i + 1) ↔ x ∈ keepL g (fun k => decide (k = i)) g.length := by
  rw [keepL_mem, List.mem_append]
  constructor
  · rintro (h | h)
    · obtain ⟨k, hk, rfl⟩ := List.mem_iff_getElem.1 h
      rw [List.length_take] at hk
      exact ⟨k, by omega, decide_eq_false (by omega), List.getElem_take⟩
    · obtain ⟨k, hk, rfl⟩ := List.mem_iff_getElem.1 h
      rw [List.length_drop] at hk
      exact ⟨i + 1 + k, by omega, decide_eq_false (by omega), List.getElem_drop⟩
  · rintro ⟨k, hk, hne, rfl⟩
    have hne := of_decide_eq_false hne
    by_cases h : k < i
    · left
      exact List.mem_iff_getElem.2 ⟨k, by rw [List.length_take]; omega, List.getElem_take⟩
    · right
      refine List.mem_iff_getElem.2 ⟨k - (i + 1), by rw [List.length_drop]; omega, ?_⟩
      rw [List.getElem_drop]
      congr 1; omega
theorem through_ok {l : List Pg} (h : Num l) (hl : l.length ≤ 100000) {i : Nat} {ys : List Pg} (hp : ys.Perm (mendO ((guarded l).take i ++ (guarded l).drop (i + 1)))) (ho : ys.Pairwise (fun a b => a.seq ≤ b.seq)) :
    ys = l ∧ holesP ys (mendT ((guarded l).take i ++ (guarded l).drop (i + 1))) = [] :=
  mend_whole h hl (left_keep h _ one_out) (left_one h (L := fun k => decide (k = i)) (fun a b _ h1 h2 => (of_decide_eq_true h1).trans (of_decide_eq_true h2).symm) one_out) hp ho
end Go.Proofs.Ytdnkdjaokmibjaa
