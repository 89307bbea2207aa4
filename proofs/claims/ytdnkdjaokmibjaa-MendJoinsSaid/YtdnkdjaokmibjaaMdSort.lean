/- slices.SortFunc at pages, by number: the shelf's contract at an own slice. -/
import Derived.Shelf.SlSortCmp.WholeK
import Derived.Test.YtdnkdjaokmibjaaProg
import Derived.Test.YtdnkdjaokmibjaaPkVal
import Derived.Test.YtdnkdjaokmibjaaDat
import Derived.Shelf.SlSortCmp.NoneTotal
import Derived.WalkSpells
set_option linter.unusedSimpArgs false
set_option linter.unusedVariables false
namespace Go.Proofs.Ytdnkdjaokmibjaa
open Go.Shelf
def sortPg_ren : Go.Shelf.Ren := ⟨fun | 6 => 36 | 15 => 57 | 14 => 56 | 28 => 74 | 29 => 75 | 20 => 66 | 21 => 67 | 22 => 68 | 23 => 69 | 24 => 70 | 25 => 71 | 26 => 72 | 27 => 73 | 46 => 83 | 47 => 84 | 48 => 85 | 49 => 86 | 50 => 87 | 57 => 89 | n => n, fun | 22 => 23 | 24 => 33 | 25 => 77 | 3 => 3 | 39 => 103 | 0 => 0 | 53 => 92 | 55 => 91 | 4 => 4 | 46 => 114 | 45 => 113 | 50 => 118 | 5 => 5 | 9 => 9 | 66 => 127 | 70 => 131 | 76 => 133 | 77 => 134 | n => n, fun | n => n⟩
theorem sortPg : Go.Proofs.SlLaysF0.n6 Try.prog sortPg_ren := {
  mixed := by kernel_rfl
  f6 := ⟨Try.f36.name, by decide, Try.func36.trans (congrArg some (by kernel_rfl))⟩
  f14 := ⟨Try.f56.name, by decide, Try.func56.trans (congrArg some (by kernel_rfl))⟩
  f15 := Try.func57.trans (congrArg some (by kernel_rfl))
  f20 := ⟨Try.f66.name, by decide, Try.func66.trans (congrArg some (by kernel_rfl))⟩
  f21 := ⟨Try.f67.name, by decide, Try.func67.trans (congrArg some (by kernel_rfl))⟩
  f22 := ⟨Try.f68.name, by decide, Try.func68.trans (congrArg some (by kernel_rfl))⟩
  f23 := ⟨Try.f69.name, by decide, Try.func69.trans (congrArg some (by kernel_rfl))⟩
  f24 := ⟨Try.f70.name, by decide, Try.func70.trans (congrArg some (by kernel_rfl))⟩
  f25 := ⟨Try.f71.name, by decide, Try.func71.trans (congrArg some (by kernel_rfl))⟩
  f26 := ⟨Try.f72.name, by decide, Try.func72.trans (congrArg some (by kernel_rfl))⟩
  f27 := ⟨Try.f73.name, by decide, Try.func73.trans (congrArg some (by kernel_rfl))⟩
  f28 := Try.func74.trans (congrArg some (by kernel_rfl))
  f29 := Try.func75.trans (congrArg some (by kernel_rfl))
  f46 := ⟨Try.f83.name, by decide, Try.func83.trans (congrArg some (by kernel_rfl))⟩
  f47 := Try.func84.trans (congrArg some (by kernel_rfl))
  f48 := Try.func85.trans (congrArg some (by kernel_rfl))
  f49 := ⟨Try.f86.name, by decide, Try.func86.trans (congrArg some (by kernel_rfl))⟩
  f50 := ⟨Try.f87.name, by decide, Try.func87.trans (congrArg some (by kernel_rfl))⟩
  f57 := ⟨Try.f89.name, by decide, Try.func89.trans (congrArg some (by kernel_rfl))⟩
  t0 := Try.underlying0
  a0 := Try.isAgg0
  z0 := Try.sizeOf0
  v0 := Try.zeroValue0
  t3 := Try.underlying3
  a3 := Try.isAgg3
  z3 := Try.sizeOf3
  v3 := Try.zeroValue3
  t4 := Try.underlying4
  a4 := Try.isAgg4
  z4 := Try.sizeOf4
  v4 := Try.zeroValue4
  t5 := Try.underlying5
  a5 := Try.isAgg5
  z5 := Try.sizeOf5
  v5 := Try.zeroValue5
  t9 := Try.underlying9
  a9 := Try.isAgg9
  z9 := Try.sizeOf9
  v9 := Try.zeroValue9
  t22 := Try.underlying23
  a22 := Try.isAgg23
  z22 := Try.sizeOf23
  v22 := Try.zeroValue23
  t25 := Try.underlying77
  a25 := Try.isAgg77
  z25 := Try.sizeOf77
  v25 := Try.zeroValue77
  t39 := Try.underlying103
  a39 := Try.isAgg103
  z39 := Try.sizeOf103
  v39 := Try.zeroValue103
  t45 := Try.underlying113
  a45 := Try.isAgg113
  z45 := Try.sizeOf113
  v45 := Try.zeroValue113
  t46 := Try.underlying114
  a46 := Try.isAgg114
  z46 := Try.sizeOf114
  v46 := Try.zeroValue114
  t50 := Try.underlying118
  a50 := Try.isAgg118
  z50 := Try.sizeOf118
  v50 := Try.zeroValue118
  t53 := Try.underlying92
  a53 := Try.isAgg92
  z53 := Try.sizeOf92
  v53 := Try.zeroValue92
  t55 := Try.underlying91
  a55 := Try.isAgg91
  z55 := Try.sizeOf91
  v55 := Try.zeroValue91
  t66 := Try.underlying127
  a66 := Try.isAgg127
  z66 := Try.sizeOf127
  v66 := Try.zeroValue127
  t70 := Try.underlying131
  a70 := Try.isAgg131
  z70 := Try.sizeOf131
  v70 := Try.zeroValue131
  t76 := Try.underlying133
  a76 := Try.isAgg133
  z76 := Try.sizeOf133
  v76 := Try.zeroValue133
  t77 := Try.underlying134
  a77 := Try.isAgg134
  z77 := Try.sizeOf134
  v77 := Try.zeroValue134 }
end Go.Proofs.Ytdnkdjaokmibjaa

namespace Go.Proofs.Ytdnkdjaokmibjaa
open Go.RowKit Go.Shelf Go.Lib Go.Sort

/-- A page as it lies, of a number that may be. -/
structure SPg where
  p : Pg
  A : Option Addr
  c : Nat
  ok : 0 ≤ p.seq ∧ p.seq ≤ 2147483647
instance : Inhabited SPg := ⟨⟨⟨0, false, false, false, []⟩, none, 0, ⟨by simp, by simp⟩⟩⟩
def SPg.enc (x : SPg) : List Value := x.p.cells x.A x.c
def SPg.cf (x y : SPg) : Int := x.p.seq - y.p.seq
theorem SPg.lt_iff {x y : SPg} : ltOf SPg.cf x y = true ↔ x.p.seq < y.p.seq := by
  unfold ltOf SPg.cf
  rw [decide_eq_true_eq]
  omega
theorem SPg.nlt_iff {x y : SPg} : ltOf SPg.cf x y = false ↔ y.p.seq ≤ x.p.seq := by
  unfold ltOf SPg.cf
  rw [decide_eq_false_iff_not]
  omega
theorem SPg.swo : SWO (ltOf SPg.cf) where
  irrefl x := by simp [ltOf, SPg.cf]
  trans x y z h1 h2 := by
    have e1 := SPg.lt_iff.1 h1
    have e2 := SPg.lt_iff.1 h2
    exact SPg.lt_iff.2 (by omega)
  ntrans x y z h1 h2 := by
    have e1 := SPg.nlt_iff.1 h1
    have e2 := SPg.nlt_iff.1 h2
    exact SPg.nlt_iff.2 (by omega)
theorem SPg.len (x : SPg) : x.enc.length = 5 := rfl
theorem SPg.one (x : SPg) : ∀ u ∈ x.enc, u.oneCell' = true := fun u hu => by
  simp only [SPg.enc, Pg.cells, List.mem_cons, List.not_mem_nil, or_false] at hu
  rcases hu with rfl | rfl | rfl | rfl | rfl <;> rfl

set_option maxHeartbeats 1000000 in
theorem bySeq_any (x y : SPg) (W : World) : Calls Try.prog 37 #[.agg x.enc.toArray, .agg y.enc.toArray] W fun e w' => e = .returned (.int .i64 (SPg.cf x y)) ∧ ∃ q os', w' = grow (W.drewN q) os' := by
  obtain ⟨⟨s, f, l, g, b⟩, A, c, ok⟩ := x
  obtain ⟨⟨s', f', l', g', b'⟩, A', c', ok'⟩ := y
  simp only at ok ok'
  have hw : IntKind.i64.wrap (s - s') = s - s' := by rw [IntKind.wrap_i64]; omega
  simp only [SPg.enc, Pg.cells, SPg.cf]
  generalize hd : s - s' = d at *
  go_enter Try.func37, Try.ntmps37
  go_wp2
  go_ret
  exact ⟨rfl, 0, _, by rw [alloc_eq_grow, alloc_eq_grow, grow_grow]; rfl⟩

theorem flat_part {α : Type} [Inhabited α] (enc : α → List Value) (k : Nat) (hk : ∀ x, (enc x).length = k) (h0 : 0 < k) (d : Array α) (j : Nat) (hj : j < d.size) : ((flatK enc k d).toList.drop (j * k)).take k = enc d[j]! := by
  have hb : j * k + k ≤ d.size * k := by
    have := Nat.mul_le_mul_right k (show j + 1 ≤ d.size from hj); rwa [Nat.add_mul, Nat.one_mul] at this
  have hs := size_flatK enc k d
  refine List.ext_getElem (by simp [hk]; omega) fun i h1 h2 => ?_
  rw [hk] at h2
  have hi : j * k + i < d.size * k := by omega
  have e1 : (j * k + i) / k = j := (blk_iff k j _ h0).1 ⟨by omega, by omega⟩
  have e2 : (j * k + i) % k = i := by rw [Nat.mod_eq_sub_div_mul, e1]; omega
  have h := get_flatK enc k d (j * k + i) hi
  rw [e1, e2, getElem!_pos _ _ (by rw [hs]; exact hi), getElem!_pos (enc d[j]!) i (by rw [hk]; exact h2)] at h
  rw [List.getElem_take, List.getElem_drop, Array.getElem_toList]
  exact h
theorem heap_sorted {α : Type} [Inhabited α] (enc : α → List Value) (k : Nat) (w : World) (blk n : Nat) (d : Array α) (os : Array Obj) {cur : Array Value} {e : TypeId} {fz : Nat × Nat} (hb : w.heap[blk]? = some (.cells cur e fz)) :
    (sortWorldK enc k w blk 0 n d os).heap[blk]? = some (.cells (putCells id 0 (flatK enc k d) cur) e fz) := by
  have hlt : blk < w.heap.size := (Array.getElem?_eq_some_iff.1 hb).1
  unfold sortWorldK grow putRowK putRow mapBlock Sort.ahead
  simp only
  rw [Array.getElem?_append_left (by simp; exact hlt), Array.getElem?_modify, if_pos rfl, hb]
  rfl
theorem mod_sorted {α : Type} [Inhabited α] (enc : α → List Value) (k : Nat) (w : World) (blk off n : Nat) (d : Array α) (os : Array Obj) : Mod (· = blk) w (sortWorldK enc k w blk off n d os) := by
  refine ⟨rfl, rfl, rfl, ?_, fun i hi hn => ?_⟩
  · unfold sortWorldK grow putRowK putRow mapBlock Sort.ahead
    simp
  · unfold sortWorldK grow putRowK putRow mapBlock Sort.ahead
    simp only
    rw [Array.getElem?_append_left (by simp; exact hi), Array.getElem?_modify, if_neg (fun h => hn h.symm)]
theorem put_takeK (F cur : Array Value) (h : F.size ≤ cur.size) : (putCells id 0 F cur).size = cur.size ∧ (putCells id 0 F cur).toList.take F.size = F.toList := by
  refine ⟨by simp [putCells], List.ext_getElem (by simp [putCells]; omega) fun i h1 h2 => ?_⟩
  have hi : i < F.size := by simpa using h2
  rw [List.getElem_take, Array.getElem_toList, Array.getElem_toList]
  simp only [putCells, Array.getElem_mapIdx]
  rw [if_pos ⟨Nat.zero_le _, by omega⟩, Nat.sub_zero, getElem!_pos F i hi]
  rfl

theorem OwnG.spg {e : TypeId} {w : World} {D : Nat → Prop} {cells : List Value} {xs : List Pg} (hc : Cells PgR 5 w D cells xs) (hq : ∀ p ∈ xs, 0 ≤ p.seq ∧ p.seq ≤ 2147483647) :
    ∃ d : Array SPg, d.size = xs.length ∧ d.toList.map SPg.p = xs ∧ cells = (flatK SPg.enc 5 d).toList ∧ ∀ x ∈ d.toList, PgR w D x.enc x.p := by
  have key : ∀ (xs : List Pg) (cells : List Value), Cells PgR 5 w D cells xs → (∀ p ∈ xs, 0 ≤ p.seq ∧ p.seq ≤ 2147483647) → ∃ d : List SPg, d.map SPg.p = xs ∧ cells = d.flatMap SPg.enc ∧ ∀ x ∈ d, PgR w D x.enc x.p := by
    intro xs
    induction xs with
    | nil => intro cells hc _; exact ⟨[], rfl, List.eq_nil_of_length_eq_zero (by simpa using hc.1), fun x hx => by cases hx⟩
    | cons p xs ih =>
      intro cells hc hq
      have h0 := hc.2 0 (by simp)
      simp only [Nat.zero_mul, List.drop_zero, List.getElem_cons_zero] at h0
      obtain ⟨A, c, e0, h1, h2, h3⟩ := h0
      obtain ⟨d, e1, e2, e3⟩ := ih (cells.drop 5) ⟨by rw [List.length_drop, hc.1, List.length_cons]; omega, fun j hj => by
        have := hc.2 (j + 1) (by simp; omega)
        rw [List.drop_drop]
        rw [List.getElem_cons_succ] at this
        rwa [show 5 + j * 5 = (j + 1) * 5 by omega]⟩ (fun p hp => hq p (List.mem_cons_of_mem _ hp))
      refine ⟨⟨p, A, c, hq p (List.mem_cons_self ..)⟩ :: d, by rw [List.map_cons, e1], ?_, fun x hx => ?_⟩
      · rw [List.flatMap_cons, ← e2]
        have : cells.take 5 = SPg.enc ⟨p, A, c, hq p (List.mem_cons_self ..)⟩ := e0
        rw [← this, List.take_append_drop]
      · rcases List.mem_cons.1 hx with rfl | hx
        · exact ⟨A, c, rfl, h1, h2, h3⟩
        · exact e3 x hx
  obtain ⟨d, h1, h2, h3⟩ := key xs cells hc hq
  have hdl : d.length = xs.length := by rw [← h1, List.length_map]
  refine ⟨d.toArray, by simpa using hdl, by simpa using h1, ?_, by simpa using h3⟩
  have hlen : cells.length = d.length * 5 := by rw [hc.1, hdl]
  refine List.ext_getElem (by simp [hlen]) fun i h4 h5 => ?_
  have hi : i < d.length * 5 := by omega
  have hd : i / 5 < d.length := by omega
  have hp := flat_part SPg.enc 5 SPg.len (by omega) d.toArray (i / 5) (by simpa using hd)
  have hg := get_flatK SPg.enc 5 d.toArray i (by simpa using hi)
  rw [getElem!_pos _ _ (by simpa using hi)] at hg
  rw [show (flatK SPg.enc 5 d.toArray).toList[i] = (flatK SPg.enc 5 d.toArray)[i]'(by simpa using hi) from Array.getElem_toList .., hg]
  have key2 : ∀ (d : List SPg) (i : Nat) (h : i < (d.flatMap SPg.enc).length), (d.flatMap SPg.enc)[i] = (SPg.enc (d[i / 5]!))[i % 5]! := by
    intro d
    induction d with
    | nil => intro i h; simp at h
    | cons x d ih =>
      intro i h
      by_cases hx : i < 5
      · have : i / 5 = 0 := by omega
        rw [this]
        simp only [List.flatMap_cons]
        rw [List.getElem_append_left (by rw [SPg.len]; exact hx)]
        rw [Nat.mod_eq_of_lt hx, getElem!_pos _ _ (by simp [SPg.len]; exact hx)]
        simp
      · simp only [List.flatMap_cons]
        have hl : (d.flatMap SPg.enc).length + 5 = ((x :: d).flatMap SPg.enc).length := by simp [List.flatMap_cons, SPg.len]; omega
        rw [List.getElem_append_right (by rw [SPg.len]; omega)]
        have := ih (i - 5) (by omega)
        have e1 : i / 5 = (i - 5) / 5 + 1 := by omega
        have e2 : i % 5 = (i - 5) % 5 := by omega
        have e3 : (x :: d)[i / 5]! = d[(i - 5) / 5]! := by rw [e1]; simp
        refine Eq.trans ?_ (this.trans ?_)
        · rfl
        · rw [e2, e3]
  subst h2
  rw [key2]
  simp

/-- Sorted by number. -/
theorem sortpg_any {w : World} {base : Nat} {D : Nat → Prop} {v : Value} {xs : List Pg} (h : OwnG PgR 5 33 w base D v xs) (hq : ∀ p ∈ xs, 0 ≤ p.seq ∧ p.seq ≤ 2147483647) (hl : xs.length ≤ 1000000000) :
    Calls Try.prog 36 #[v, .func (.func 37) #[] #[]] w fun en w' => en = .returned (.tuple #[]) ∧ ∃ ys, ys.Perm xs ∧ ys.Pairwise (fun a b => a.seq ≤ b.seq) ∧ OwnG PgR 5 33 w' base D v ys ∧ Mod (fun b => v.ownBlock = some b) w w' := by
  obtain ⟨cells, ho, hc⟩ := h
  rcases ho.2 with ⟨rfl, h0⟩ | ⟨g, cap, cur, rfl, hb, hg, hn, hcm, hcs, htk⟩
  · have hx : xs = [] := List.eq_nil_of_length_eq_zero h0
    subst hx
    refine (AnyF.slices_SortFunc_none sortPg none 0 (.func (.func 37) #[] #[]) w).mono ?_
    rintro e w' ⟨rfl, rfl⟩
    exact ⟨rfl, [], List.Perm.refl _, List.Pairwise.nil, ⟨cells, ho, hc⟩, Mod.refl _ _⟩
  · obtain ⟨d, hds, hdp, hdc, hdR⟩ := OwnG.spg (e := 33) hc hq
    have hglt : g < w.heap.size := (Array.getElem?_eq_some_iff.1 hg).1
    have eg : ∀ args w, (callFunc 37 args).run Try.prog w = .ok (.enter 37 args) w := enters_of Try.func37 (by kernel_rfl) rfl
    have hH : HoldsK SPg.enc 5 w g 0 d := by
      intro j hj
      rw [size_flatK, hds] at hj
      rw [Nat.zero_add]
      refine ⟨?_, by simp [World.frozen?, hg]⟩
      rw [cell_of_row w g j cur _ _ hg]
      have e1 : cur.toList[j]? = cells[j]? := by rw [← htk, List.getElem?_take, if_pos hj]
      rw [← Array.getElem?_toList, e1, hdc, Array.getElem?_toList, getElem!_pos _ _ (by rw [size_flatK, hds]; exact hj)]
      exact Array.getElem?_eq_getElem _
    have hcon := AnyQ.slices_SortFunc sortPg 5 Try.isAgg33 Try.sizeOf33 SPg.enc SPg.len SPg.one SPg.cf SPg.swo 37 #[] g 0 cap d w eg (fun _ _ _ _ x y => bySeq_any x y _) hH hglt (by omega)
    rw [hds] at hcon
    refine Calls.mono hcon ?_
    rintro e w' ⟨rfl, d', n, os, ⟨hps, _, hpp⟩, hso, rfl⟩
    rw [← hds, Array.extract_size] at hpp
    have hps' : d'.extract 0 d.size = d' := by rw [← hps]; exact Array.extract_size ..
    rw [hps'] at hpp
    have hM := mod_sorted SPg.enc 5 w g 0 n d' os
    refine ⟨rfl, d'.toList.map SPg.p, ?_, ?_, ⟨(flatK SPg.enc 5 d').toList, ⟨?_, .inr ⟨g, cap, _, ?_, hb, heap_sorted SPg.enc 5 w g n d' os hg, ?_, hcm, ?_, ?_⟩⟩, ?_, ?_⟩, hM.mono fun b hb _ => by rw [hb]; rfl⟩
    · rw [← hdp]; exact hpp.map _
    · rw [List.pairwise_map, List.pairwise_iff_getElem]
      intro i j hi hj hij
      simp only [Array.length_toList] at hi hj
      have := hso i j (Nat.zero_le _) hij (by omega)
      rw [getElem!_pos d' i hi, getElem!_pos d' j hj] at this
      simp only [Array.getElem_toList]
      exact SPg.nlt_iff.1 this
    · simp [hps, hds]
    · simp [hps, hds]
    · simp [hps, hds]; exact hn
    · rw [(put_takeK _ _ (by rw [size_flatK, hps, hds, hcs]; exact Nat.mul_le_mul_right _ hn)).1]; exact hcs
    · have := (put_takeK (flatK SPg.enc 5 d') cur (by rw [size_flatK, hps, hds, hcs]; exact Nat.mul_le_mul_right _ hn)).2
      rw [size_flatK] at this
      simpa using this
    · simp
    · intro j hj
      simp only [List.length_map, Array.length_toList] at hj
      rw [flat_part SPg.enc 5 SPg.len (by omega) d' j hj, List.getElem_map, Array.getElem_toList, getElem!_pos d' j hj]
      have hm : d'[j] ∈ d.toList := hpp.mem_iff.1 (by simp)
      refine PgR.good.keep (hdR _ hm) hM fun b hb _ e => hb.2 (by rw [e]; rfl)
end Go.Proofs.Ytdnkdjaokmibjaa
