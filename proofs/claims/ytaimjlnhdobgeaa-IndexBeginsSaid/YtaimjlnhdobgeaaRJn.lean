/- The reference's Joiner: a page that it does not wait for, and the one that it waits for where all is in order. -/
import Derived.Test.YtaimjlnhdobgeaaJnP
import Derived.Test.YtaimjlnhdobgeaaRPgBytes
import Derived.Test.YtaimjlnhdobgeaaRPkOpen
import Derived.Test.YtaimjlnhdobgeaaPicLast
import Derived.Deep.DeepCutAuto
import Derived.Deep.RegionHeld3
set_option linter.unusedSimpArgs false
set_option linter.unusedVariables false
namespace Go.Proofs.Ytaimjlnhdobgeaa
open Go.RowKit

def RJ (w : World) (g : Nat) (s : Jn) : Prop :=
  ∃ A c, Blk w g 89 #[.int .i64 s.next, .bool s.begun, .slice A s.body.length c, .int .i64 s.broken] ∧ s.body.length ≤ c ∧ RdS w (fun b => b ≠ g) .u8 A s.body ∧ s.wf
section
variable {w w' : World} {g : Nat} {s : Jn} {M : Nat → Prop}
theorem RJ.lt (h : RJ w g s) : g < w.heap.size := by
  obtain ⟨A, c, h, _⟩ := h
  exact h.lt
theorem RJ.below (h : RJ w g s) (hb : Below w.heap.size w w') : RJ w' g s := by
  obtain ⟨A, c, h1, h2, h3, h4⟩ := h
  exact ⟨A, c, h1.below hb h1.lt, h2, h3.keep (M := fun _ => False) (Mod.of_fresh hb) (fun _ _ _ h => h), h4⟩
theorem RJ.drewN (h : RJ w g s) (n : Nat) : RJ (w.drewN n) g s := h
theorem RJ.keepBody {A : Option Addr} {l : List Int} {off : Nat} {u : Value} (h : RdS w (fun b => b ≠ g) .u8 A l) : RdS (w.setCell ⟨g, off, none⟩ u) (fun b => b ≠ g) .u8 A l :=
  h.keep (mod_put (M := (· = g)) (Mod.refl _ _) (fun _ => rfl)) (fun b hb _ => hb)
theorem RJ.nxt (h : RJ w g s) {n : Int} (h0 : 0 ≤ n) (h1 : n ≤ 9223372036854775807) : RJ (w.setCell ⟨g, 0, none⟩ (.int .i64 n)) g ⟨n, s.begun, s.body, s.broken⟩ := by
  obtain ⟨A, c, k1, k2, k3, k4⟩ := h
  exact ⟨A, c, k1.set_ 0 _, k2, RJ.keepBody k3, h0, h1, k4.k0, k4.len, k4.bytes⟩
theorem RJ.beg (h : RJ w g s) (b : Bool) : RJ (w.setCell ⟨g, 1, none⟩ (.bool b)) g ⟨s.next, b, s.body, s.broken⟩ := by
  obtain ⟨A, c, k1, k2, k3, k4⟩ := h
  exact ⟨A, c, k1.set_ 1 _, k2, RJ.keepBody k3, k4.n0, k4.n1, k4.k0, k4.len, k4.bytes⟩
theorem RJ.clr (h : RJ w g s) : RJ (w.setCell ⟨g, 2, none⟩ (.slice none 0 0)) g ⟨s.next, s.begun, [], s.broken⟩ := by
  obtain ⟨A, c, k1, k2, k3, k4⟩ := h
  exact ⟨none, 0, k1.set_ 2 _, Nat.le_refl _, RdS.nil_, k4.n0, k4.n1, k4.k0, Nat.zero_le _, byteB.nil_⟩
theorem RJ.bod (h : RJ w g s) {A : Option Addr} {c : Nat} {l : List Int} (hr : RdS w (fun b => b ≠ g) .u8 A l) (hc : l.length ≤ c) (hl : l.length ≤ 70000) (hb : byteB l) : RJ (w.setCell ⟨g, 2, none⟩ (.slice A l.length c)) g ⟨s.next, s.begun, l, s.broken⟩ := by
  obtain ⟨A0, c0, k1, k2, k3, k4⟩ := h
  exact ⟨A, c, k1.set_ 2 _, hc, RJ.keepBody hr, k4.n0, k4.n1, k4.k0, hl, hb⟩
theorem RJ.cells (h : RJ w g s) : ∃ A c, w.cell? ⟨g, 0, none⟩ = some (.int .i64 s.next) ∧ w.cell? ⟨g, 1, none⟩ = some (.bool s.begun) ∧ w.cell? ⟨g, 2, none⟩ = some (.slice A s.body.length c) ∧ w.cell? ⟨g, 3, none⟩ = some (.int .i64 s.broken) ∧
    (w.frozen? ⟨g, 0, none⟩ = false ∧ w.frozen? ⟨g, 1, none⟩ = false ∧ w.frozen? ⟨g, 2, none⟩ = false ∧ w.frozen? ⟨g, 3, none⟩ = false) ∧ s.body.length ≤ c ∧ RdS w (fun b => b ≠ g) .u8 A s.body ∧ s.wf := by
  obtain ⟨A, c, k1, k2, k3, k4⟩ := h
  exact ⟨A, c, k1.cell 0, k1.cell 1, k1.cell 2, k1.cell 3, ⟨k1.frozen 0, k1.frozen 1, k1.frozen 2, k1.frozen 3⟩, k2, k3, k4⟩
end
theorem rjnew_any (n : Int) (h0 : 0 ≤ n) (h1 : n ≤ 9223372036854775807) (w : World) :
    Calls Try.prog 17 #[.int .i64 n] w fun e w' => e = .returned (.pointer (some ⟨w.heap.size, 0, none⟩)) ∧ RJ w' w.heap.size ⟨n, false, [], 0⟩ ∧ Below w.heap.size w w' := by
  have hm := Lib.hid (show max n 0 = n by omega)
  go_enter Try.func17, Try.ntmps17
  go_wp2
  all_goals
    go_ret
    exact ⟨rfl, ⟨none, 0, Blk.new _ _ _, Nat.le_refl _, RdS.nil_, h0, h1, by simp, by simp, byteB.nil_⟩, (by repeat (first | exact Below.refl _ _ | assumption | refine Below.drew ?_ | refine below_drewN ?_ _ | refine below_alloc ?_ _))⟩
theorem rbreaks_any {w : World} {g : Nat} {s : Jn} (h : RJ w g s) (hb : s.begun = false) :
    Calls Try.prog 38 #[.pointer (some ⟨g, 0, none⟩)] w fun e w' => e = .returned (.tuple #[]) ∧ RJ w' g ⟨s.next, false, [], s.broken⟩ ∧ Mod (· = g) w w' := by
  obtain ⟨A, c, c0, c1, c2, c3, ⟨f0, f1, f2, f3⟩, _⟩ := h.cells
  rw [hb] at c1
  have HJ := Lib.hid h
  clear hb h
  go_enter Try.func38, Try.ntmps38
  go_wp2
  go_end0
  exact ⟨rfl, (HJ.out.beg false).clr, mod_put (mod_put (Mod.refl _ _) (fun _ => rfl)) (fun _ => rfl)⟩

set_option maxHeartbeats 8000000 in
set_option maxRecDepth 100000 in
theorem rjput_deaf {w : World} {g : Nat} {s : Jn} (h : RJ w g s) (p : Pg) (A : Option Addr) (c : Nat) (hw : p.wf) (hr : RdI w w.heap.size .u8 A p.body) (hE : pgE p = 0) (hg : p.guard = false) (hseq : p.seq < s.next) :
    Calls Try.prog 18 #[.pointer (some ⟨g, 0, none⟩), p.val A c] w fun e w' => e = .returned (.tuple #[.slice none 0 0, .slice none 0 0]) ∧ RJ w' g s ∧ Below w.heap.size w w' := by
  have HB := Lib.hid (fun W (hW : Below w.heap.size w W) => rpgbytes_any p A c hw W (RdI.more (RdI.below hr hW (Nat.le_refl _)) hW.size))
  rw [hE] at HB
  have HJ := Lib.hid h
  have hgl := h.lt
  clear h hr hE
  obtain ⟨seq, first, last, guard, body⟩ := p
  simp only at hg hseq HB
  subst hg
  go_enter Try.func18, Try.ntmps18
  go_wp2_with fail
  have kb := Blk.new w 56 #[.int .i64 seq, .bool first, .bool last, .bool false, .slice A body.length c]
  have hbw : Below w.heap.size w (w.alloc (.cells #[.int .i64 seq, .bool first, .bool last, .bool false, .slice A body.length c] 56)) := below_alloc (Below.refl _ _) _
  generalize w.alloc (.cells #[.int .i64 seq, .bool first, .bool last, .bool false, .slice A body.length c] 56) = wb at *
  have hkl := kb.lt
  have z0 := kb.cell 0
  have z1 := kb.cell 1
  have z2 := kb.cell 2
  have z3 := kb.cell 3
  have z4 := kb.cell 4
  go_upto_region 2 with (first
    | (go_at_call 37; (with_reducible refine (HB.out _ hbw).mono ?_); rintro e w1 ⟨v1, rfl, _, hb1⟩))
  have bb1 := below_then hbw hb1
  have hj1 := HJ.out.below bb1
  have kp1 := kb.below hb1 hkl
  have x0 := kp1.cell 0
  have x3 := kp1.cell 3
  obtain ⟨_, _, k0, _⟩ := hj1.cells
  clear z0 z1 z2 z3 z4
  go_quiet (fail)
  go_wp2
  go_ret2
  exact ⟨rfl, hj1.drewN nq, below_drewN bb1 nq⟩

/-- What the reference's Put leaves where all is in order. -/
def RPutPost (w : World) (g : Nat) (s : Jn) (p : Pg) (e : Ending) (w' : World) : Prop :=
  ∃ A' c', e = .returned (.tuple #[.slice A' (if p.last then 1 else 0) c', .slice none 0 0]) ∧ RJ w' g (if p.last then ⟨p.seq + 1, false, [], s.broken⟩ else ⟨p.seq + 1, true, s.body ++ p.body, s.broken⟩) ∧
    (p.last = true → RdPk w' (fun b => b ≠ g) A' [openP (s.body ++ p.body)]) ∧ Mod (· = g) w w'

theorem rput_more {w w' : World} {g : Nat} {seq broken : Int} {begun first : Bool} {sbody body l : List Int} (hl : l = sbody ++ body) (h : RJ w' g ⟨seq + 1, true, l, broken⟩) (hm : Mod (· = g) w w') :
    RPutPost w g ⟨seq, begun, sbody, broken⟩ ⟨seq, first, false, false, body⟩ (.returned (.tuple #[.slice none 0 0, .slice none 0 0])) w' := by
  subst hl
  exact ⟨none, 0, rfl, h, fun h => (by cases h), hm⟩
theorem rput_last {w w' : World} {g c : Nat} {A : Option Addr} {seq broken : Int} {begun first : Bool} {sbody body : List Int} {P : Pk} (hP : P = openP (sbody ++ body)) (h : RJ w' g ⟨seq + 1, false, [], broken⟩) (hr : RdPk w' (fun b => b ≠ g) A [P]) (hm : Mod (· = g) w w') :
    RPutPost w g ⟨seq, begun, sbody, broken⟩ ⟨seq, first, true, false, body⟩ (.returned (.tuple #[.slice A 1 c, .slice none 0 0])) w' := by
  subst hP
  exact ⟨A, c, rfl, h, fun _ => hr, hm⟩

set_option maxHeartbeats 8000000 in
set_option maxRecDepth 100000 in
theorem rjput_on {w : World} {g : Nat} {s : Jn} (h : RJ w g s) (p : Pg) (A : Option Addr) (c : Nat) (hw : p.wf) {S : Nat → Prop} (hr : RdS w S .u8 A p.body) (hS : ∀ b, S b → b < w.heap.size → b ≠ g) (hE : pgE p = 0) (hg : p.guard = false) (hseq : p.seq = s.next) (hn : s.next ≤ 2147483647)
    (hf : p.first = true → s.begun = false) (hf2 : p.first = false → s.begun = true) (hb : s.begun = false → s.body = []) (hlen : s.body.length + p.body.length ≤ 65554) (ho : p.last = true → openE (s.body ++ p.body) = 0) :
    Calls Try.prog 18 #[.pointer (some ⟨g, 0, none⟩), p.val A c] w (RPutPost w g s p) := by
  have HB := Lib.hid (fun W (hW : Below w.heap.size w W) => rpgbytes_any p A c hw W (RdI.more (RdI.below (RdS.top hr) hW (Nat.le_refl _)) hW.size))
  rw [hE] at HB
  have HJ := Lib.hid h
  have hgl := h.lt
  have HR := Lib.hid hr
  have HSub := Lib.hid hS
  obtain ⟨_, _, _, _, _, hjw⟩ := h
  have hn0 := hjw.n0
  have hsb := hjw.bytes
  have hbw' : byteB p.body := hw.bytes
  clear hr hE hjw hS
  obtain ⟨seq, first, last, guard, body⟩ := p
  obtain ⟨next, begun, sbody, broken⟩ := s
  simp only at hg hseq HB hf hf2 hb hlen ho hn hn0 hsb hbw'
  subst hg hseq
  have HF := Lib.hid hf
  have HF2 := Lib.hid hf2
  have HBn := Lib.hid hb
  have HOp := Lib.hid ho
  clear hf hf2 hb ho
  go_enter Try.func18, Try.ntmps18
  go_wp2_with fail
  have kb := Blk.new w 56 #[.int .i64 seq, .bool first, .bool last, .bool false, .slice A body.length c]
  have hbw : Below w.heap.size w (w.alloc (.cells #[.int .i64 seq, .bool first, .bool last, .bool false, .slice A body.length c] 56)) := below_alloc (Below.refl _ _) _
  generalize w.alloc (.cells #[.int .i64 seq, .bool first, .bool last, .bool false, .slice A body.length c] 56) = wb at *
  have hkl := kb.lt
  have z0 := kb.cell 0
  have z1 := kb.cell 1
  have z2 := kb.cell 2
  have z3 := kb.cell 3
  have z4 := kb.cell 4
  go_upto_region 2 with (first
    | (go_at_call 37; (with_reducible refine (HB.out _ hbw).mono ?_); rintro e w1 ⟨v1, rfl, _, hb1⟩))
  have bb1 := below_then hbw hb1
  have hj1 := HJ.out.below bb1
  have kp1 := kb.below hb1 hkl
  have x0 := kp1.cell 0
  have x3 := kp1.cell 3
  obtain ⟨_, _, k0, _⟩ := hj1.cells
  clear z0 z1 z2 z3 z4
  dsimp only at k0
  go_quiet (fail)
  have bb2 := below_drewN bb1 nq
  have hj2 := hj1.drewN nq
  have kp2 := kp1.drewN nq
  clear x0 x3 k0
  generalize w1.drewN nq = w2 at *
  have x0 := kp2.cell 0
  obtain ⟨_, _, k0, _⟩ := hj2.cells
  dsimp only at k0
  go_upto_region 5 with fail
  go_quiet (fail)
  have bb3 := below_drewN bb2 nq
  have hj3 := hj2.drewN nq
  have kp3 := kp2.drewN nq
  clear x0 k0
  generalize w2.drewN nq = w3 at *
  have x0 := kp3.cell 0
  have x1 := kp3.cell 1
  obtain ⟨_, _, k0, _, _, _, ⟨f0, _⟩, _⟩ := hj3.cells
  dsimp only at k0
  have hgne : g ≠ w.heap.size := by omega
  go_upto_region 9 with fail
  have hj4 := hj3.nxt (n := seq + 1) (by omega) (by omega)
  have hm4 : Mod (· = g) w (w3.setCell ⟨g, 0, none⟩ (.int .i64 (seq + 1))) := mod_put (Mod.of_fresh bb3) (fun _ => rfl)
  have kp4 := kp3.far (p := ⟨g, 0, none⟩) (fun e => hgne e.symm) (.int .i64 (seq + 1))
  clear x0 x1 k0 f0
  generalize w3.setCell ⟨g, 0, none⟩ (.int .i64 (seq + 1)) = w4 at *
  dsimp only at hj4
  have hkl4 := kp4.lt
  have x1 := kp4.cell 1
  go_upto_if 55 with (fail)
  go_cut [8] (fun v wc => v = .slice none 0 0 ∧ RJ wc g ⟨seq + 1, true, sbody, broken⟩ ∧ Mod (· = g) w4 wc)
  case first =>
    cases first with
    | true =>
      have hbg := HF.out rfl
      have hbd := HBn.out hbg
      subst hbg hbd
      go_wp2_with (first
        | (go_at_call 38; (with_reducible refine (rbreaks_any hj4 rfl).mono ?_); rintro e w5 ⟨rfl, hj5, hm5⟩; dsimp only at hj5; obtain ⟨_, _, _, c1, _, _, ⟨_, f1, _⟩, _⟩ := hj5.cells; dsimp only at c1))
      go_meet
      exact ⟨rfl, hj5.beg true, mod_put hm5 (fun _ => rfl)⟩
    | false =>
      have hbg := HF2.out rfl
      subst hbg
      go_wp2
      go_meet
      exact ⟨rfl, hj4, Mod.refl _ _⟩
  case rest =>
  obtain ⟨rfl, hj5, hm45⟩ := hcut
  have hm5 := hm4.then_ hm45
  have kp5 := kp4.mod hm45 (fun e => hgne e.symm)
  clear x1 hj4 kp4 kp3 kp2 kp1 kb hj3 hj2 hj1
  have hrp : RdS wc (fun b => b ≠ g) .u8 A body := RdS.keep (HR.out.weak (S' := fun b => b ≠ g) (fun b hb hl => HSub.out b hb hl)) hm5 (fun b hb _ => hb)
  obtain ⟨Aj, cj, c0, c1, c2, c3, ⟨f0, f1, f2, f3⟩, hcj, hrj, hjw5⟩ := hj5.cells
  dsimp only at c0 c1 c2 c3 hcj hrj hjw5
  have hs5 := hm5.size
  have hgl5 := hj5.lt
  have x4 := kp5.cell 4
  have x2 := kp5.cell 2
  go_upto_region 14 with fail
  have bl : Below wc.heap.size wc (wc.alloc (.cells #[] 5)).drew := (below_alloc (Below.refl _ _) _).drew
  have oe : OwnI (wc.alloc (.cells #[] 5)).drew wc.heap.size 5 .u8 (.slice (some ⟨wc.heap.size, 0, none⟩) 0 0) [] := OwnI.empty wc wc.heap.size 5 .u8 (Nat.le_refl _)
  have hra : RdI (wc.alloc (.cells #[] 5)).drew wc.heap.size .u8 Aj sbody := hrj.top.below bl (Nat.le_refl _)
  have hrb : RdI (wc.alloc (.cells #[] 5)).drew wc.heap.size .u8 A body := hrp.top.below bl (Nat.le_refl _)
  have hsl : (wc.alloc (.cells #[] 5)).drew.heap.size = wc.heap.size + 1 := by simp
  have kl := kp5.below bl kp5.lt
  have xl4 := kl.cell 4
  have gl2 := (bl.cell (p := ⟨g, 2, none⟩) hgl5).trans c2
  have hkl5 := kp5.lt
  refine wp_region_last (S := (fun w' => w'.cell? ⟨w.heap.size, 4, none⟩ = some (.slice A body.length c) ∧ w'.cell? ⟨g, 2, none⟩ = some (.slice Aj sbody.length cj))) 12 _ (by simp only [List.pop_toArray, List.dropLast_cons_cons, List.dropLast_singleton]; rfl) (by kernel_rfl) (by kernel_rfl) (by kernel_rfl) (by kernel_rfl) (by kernel_rfl) ?_ (fun hHeld => ?_)
  focus exact ⟨x4, c2⟩
  refine wpAnyH_take (i := 0) (v := ?_) rfl (by kernel_rfl) (by kernel_rfl) (by kernel_rfl) (fun _ _ _ h => h) (Or.inl ⟨by kernel_rfl, ?_⟩) (by assumption) ?_
  rotate_left
  focus
    intro w9 hSw
    (try dsimp only at hSw)
    go_simp
    (try with_reducible rfl)
  (try simp only [Act.put, List.getElem_toArray, List.getElem_cons_succ, List.getElem_cons_zero, List.setIfInBounds_toArray, List.set_cons_zero, List.set_cons_succ])
  refine wpAnyH_take (i := 2) (v := ?_) rfl (by kernel_rfl) (by kernel_rfl) (by kernel_rfl) (fun _ _ _ h => h) (Or.inl ⟨by kernel_rfl, ?_⟩) (by assumption) ?_
  rotate_left
  focus
    intro w9 hSw
    (try dsimp only at hSw)
    go_simp
    (try with_reducible rfl)
  (try simp only [Act.put, List.getElem_toArray, List.getElem_cons_succ, List.getElem_cons_zero, List.setIfInBounds_toArray, List.set_cons_zero, List.set_cons_succ])
  refine wpAnyH_take (i := 3) (v := ?_) rfl (by kernel_rfl) (by kernel_rfl) (by kernel_rfl) (fun _ _ _ h => h) (Or.inl ⟨by kernel_rfl, ?_⟩) (by assumption) ?_
  rotate_left
  focus
    intro w9 hSw
    (try dsimp only at hSw)
    go_simp
    (try with_reducible rfl)
  (try simp only [Act.put, List.getElem_toArray, List.getElem_cons_succ, List.getElem_cons_zero, List.setIfInBounds_toArray, List.set_cons_zero, List.set_cons_succ])
  refine wpAnyH_take (i := 4) (v := ?_) rfl (by kernel_rfl) (by kernel_rfl) (by kernel_rfl) (fun _ _ _ h => h) (Or.inl ⟨by kernel_rfl, ?_⟩) (by assumption) ?_
  rotate_left
  focus
    intro w9 hSw
    (try dsimp only at hSw)
    go_simp
    (try with_reducible rfl)
  (try simp only [Act.put, List.getElem_toArray, List.getElem_cons_succ, List.getElem_cons_zero, List.setIfInBounds_toArray, List.set_cons_zero, List.set_cons_succ])
  refine wpAnyH_take (i := 5) (v := ?_) rfl (by kernel_rfl) (by kernel_rfl) (by kernel_rfl) (fun _ _ _ h => h) (Or.inl ⟨by kernel_rfl, ?_⟩) (by assumption) ?_
  rotate_left
  focus
    intro w9 hSw
    (try dsimp only at hSw)
    go_simp
    (try with_reducible rfl)
  (try simp only [Act.put, List.getElem_toArray, List.getElem_cons_succ, List.getElem_cons_zero, List.setIfInBounds_toArray, List.set_cons_zero, List.set_cons_succ])
  refine wpAnyH_take (i := 7) (v := ?_) rfl (by kernel_rfl) (by kernel_rfl) (by kernel_rfl) (fun _ _ _ h => h) (Or.inl ⟨by kernel_rfl, ?_⟩) (by assumption) ?_
  rotate_left
  focus
    intro w9 hSw
    (try dsimp only at hSw)
    go_simp
    (try with_reducible rfl)
  (try simp only [Act.put, List.getElem_toArray, List.getElem_cons_succ, List.getElem_cons_zero, List.setIfInBounds_toArray, List.set_cons_zero, List.set_cons_succ])
  refine wpAnyH_take (i := 8) (v := ?_) rfl (by kernel_rfl) (by kernel_rfl) (by kernel_rfl) (fun _ _ _ h => h) (Or.inl ⟨by kernel_rfl, ?_⟩) (by assumption) ?_
  rotate_left
  focus
    intro w9 hSw
    (try dsimp only at hSw)
    go_simp
    (try with_reducible rfl)
  (try simp only [Act.put, List.getElem_toArray, List.getElem_cons_succ, List.getElem_cons_zero, List.setIfInBounds_toArray, List.set_cons_zero, List.set_cons_succ])
  refine wpAnyH_ready (rs := [1]) (by kernel_rfl) (by simp) (AllReadyH.cons rfl (fun K hK => ?_) AllReadyH.nil)
  go_simp
  refine hK.out _ _ ?_ (fun hHeld => ?_)
  focus exact ⟨xl4, gl2⟩
  clear hK K
  (try simp only [Act.put, List.getElem_toArray, List.getElem_cons_succ, List.getElem_cons_zero, List.setIfInBounds_toArray, List.set_cons_zero, List.set_cons_succ])
  generalize (wc.alloc (.cells #[] 5)).drew = w6 at *
  refine wpAnyH_ready (rs := [6]) (by kernel_rfl) (by simp) (AllReadyH.cons rfl (fun K hK => ?_) AllReadyH.nil)
  refine step_append_int _ (by rfl) (.tmp 68) (.tmp 72) _ (by rfl) w6 wc.heap.size wc.heap.size 5 .u8 1 Try.underlying27 info_u8 _ [] (by rfl) (by exact oe) _ Aj _ cj sbody (by rfl) (by rfl) (by exact hra) (by simp; omega) (by omega) (by exact Below.refl _ _) (Nat.le_refl _) (by omega) ?_
  intro v7 w7 ow7 bw7 hg7 _
  rw [List.nil_append] at ow7
  have xm4 := (bw7.cell (p := ⟨w.heap.size, 4, none⟩) hkl5).trans xl4
  have gm2 := (bw7.cell (p := ⟨g, 2, none⟩) hgl5).trans gl2
  have hrb7 := hrb.below bw7 (Nat.le_refl _)
  have hs7 := bw7.size
  refine hK.out _ _ ?_ (fun hHeld => ?_)
  focus exact ⟨xm4, gm2⟩
  clear hK K
  (try simp only [Act.put, List.getElem_toArray, List.getElem_cons_succ, List.getElem_cons_zero, List.setIfInBounds_toArray, List.set_cons_zero, List.set_cons_succ])
  refine wpAnyH_ready (rs := [9]) (by kernel_rfl) (by simp) (AllReadyH.cons rfl (fun K hK => ?_) AllReadyH.nil)
  refine step_append_int _ (by rfl) (.tmp 73) (.tmp 75) _ (by rfl) w7 wc.heap.size wc.heap.size 5 .u8 1 Try.underlying27 info_u8 _ sbody (by rfl) (by exact ow7) _ A _ c body (by rfl) (by rfl) (by exact hrb7) (by omega) (by omega) (by exact Below.refl _ _) (Nat.le_refl _) (by omega) ?_
  intro v8 w8 ow8 bw8 hg8 _
  obtain ⟨A8, c8, rfl, hc8, _, _⟩ := ow8.form
  obtain ⟨_, _, hr8⟩ := ow8.rds
  have xn4 := (bw8.cell (p := ⟨w.heap.size, 4, none⟩) hkl5).trans xm4
  have gn2 := (bw8.cell (p := ⟨g, 2, none⟩) hgl5).trans gm2
  have bz8 : Below wc.heap.size wc w8 := bl.trans (bw7.trans bw8)
  have fn2 : w8.frozen? ⟨g, 2, none⟩ = false := (World.frozen?_of_block (bz8.block g hgl5)).trans f2
  refine hK.out _ _ ?_ (fun hHeld => ?_)
  focus exact ⟨xn4, gn2⟩
  clear hK K
  (try simp only [Act.put, List.getElem_toArray, List.getElem_cons_succ, List.getElem_cons_zero, List.setIfInBounds_toArray, List.set_cons_zero, List.set_cons_succ])
  refine wpAnyH_take (i := 10) (v := ?_) rfl (by kernel_rfl) (by kernel_rfl) (by kernel_rfl) (fun _ _ _ h => h) (Or.inl ⟨by kernel_rfl, ?_⟩) (by assumption) ?_
  rotate_left
  focus
    intro w9 hSw
    (try dsimp only at hSw)
    go_simp
    (try with_reducible rfl)
  (try simp only [Act.put, List.getElem_toArray, List.getElem_cons_succ, List.getElem_cons_zero, List.setIfInBounds_toArray, List.set_cons_zero, List.set_cons_succ])
  refine wpAnyH_take (i := 11) (v := ?_) rfl (by kernel_rfl) (by kernel_rfl) (by kernel_rfl) (fun _ _ _ h => h) (Or.inl ⟨by kernel_rfl, ?_⟩) (by assumption) ?_
  rotate_left
  focus
    intro w9 hSw
    (try dsimp only at hSw)
    go_simp
    (try with_reducible rfl)
  (try simp only [Act.put, List.getElem_toArray, List.getElem_cons_succ, List.getElem_cons_zero, List.setIfInBounds_toArray, List.set_cons_zero, List.set_cons_succ])
  refine wpAnyH_done (by kernel_rfl) (lastQ_step rfl (fun K hK => ?_)) _
  go_simp
  refine hK _ _ ?_
  clear hK K
  rw [← List.length_append]
  have hj8 := (hj5.below bz8).bod (A := A8) (c := c8) (l := sbody ++ body) (hr8.weak (fun b hb _ => by have := hb.1; omega)) hc8 (by simp; omega) (hsb.append hbw')
  have hm8 : Mod (· = g) w (w8.setCell ⟨g, 2, none⟩ (.slice A8 (sbody ++ body).length c8)) := mod_put (hm5.then_ (Mod.of_fresh bz8)) (fun _ => rfl)
  have kp8 := (kp5.below bz8 hkl5).far (p := ⟨g, 2, none⟩) (fun e => hgne e.symm) (.slice A8 (sbody ++ body).length c8)
  dsimp only at hj8
  generalize w8.setCell ⟨g, 2, none⟩ (.slice A8 (sbody ++ body).length c8) = w9 at *
  clear hj5 hm5 hm45 kp5 c0 c1 c2 c3 f0 f1 f2 f3 x4 x2 hra hrb hrb7 oe ow7 ow8 xl4 gl2 xm4 gm2 xn4 gn2 fn2 hr8 bw7 bw8 bz8 bl kl hrp hrj
  have hl9 : (sbody ++ body).length ≤ 65554 := by rw [List.length_append]; exact hlen
  have hlb := hsb.append hbw'
  have x2 := kp8.cell 2
  have hs9 := hm8.size
  obtain ⟨A9, c9, k0, k1, k2, k3, ⟨f0, f1, f2, f3⟩, hc9, hr9, _⟩ := hj8.cells
  dsimp only at k0 k1 k2 k3 hc9 hr9
  obtain ⟨l0, hl0⟩ : ∃ l0, l0 = sbody ++ body := ⟨_, rfl⟩
  rw [← hl0] at hj8 k2 hc9 hr9 hl9 hlb HOp ⊢
  have HL := Lib.hid hl0
  clear hl0
  cases last with
  | false =>
    clear HOp
    go_wp2
    go_ret2
    exact rput_more HL.out hj8 hm8
  | true =>
    have hoE := HOp.out rfl
    have HQ := Lib.hid (show openP l0 = openP (sbody ++ body) by rw [HL.out])
    have HO := Lib.hid (ropen_any (c := c9) hr9.top (Nat.le_refl _) hlb hc9 (by omega))
    rw [hoE] at HO
    have hPw := openP_wf hlb (by omega)
    clear hoE HOp
    generalize openP l0 = P at *
    obtain ⟨p1, p2, p3, p4, p5, p6⟩ := P
    simp only [Pk.val] at HO
    go_upto_region 21 with (first
      | (go_at_call 39; (with_reducible refine HO.out.mono ?_); rintro e w10 ⟨A10, c10, rfl, ho10, hb10⟩))
    obtain ⟨_, hc10, hr10⟩ := ho10.rds
    have kx := Blk.new w10 47 #[.int .i64 p1, .int .i64 p2, .int .i64 p3, .bool p4, .bool p5, .slice A10 p6.length c10]
    have bx : Below w10.heap.size w10 (w10.alloc (.cells #[.int .i64 p1, .int .i64 p2, .int .i64 p3, .bool p4, .bool p5, .slice A10 p6.length c10] 47)) := below_alloc (Below.refl _ _) _
    generalize w10.alloc (.cells #[.int .i64 p1, .int .i64 p2, .int .i64 p3, .bool p4, .bool p5, .slice A10 p6.length c10] 47) = w11 at *
    have b9 := below_then hb10 bx
    have hs10 := hb10.size
    have hj11 := hj8.below b9
    have hm11 := hm8.then_ (Mod.of_fresh b9)
    have hr11 := RdS.keep (M := fun _ => False) hr10 (Mod.of_fresh bx) (fun _ _ _ h => h)
    have hg9 := hj8.lt
    obtain ⟨_, _, y0, y1, y2, y3, ⟨e0, e1, e2, e3⟩, _⟩ := hj11.cells
    clear k0 k1 k2 k3 f0 f1 f2 f3
    have hgx : g ≠ w10.heap.size := by omega
    go_upto_region 25 with fail
    have hj12 := (hj11.beg false).clr
    have hm12 : Mod (· = g) w11 ((w11.setCell ⟨g, 1, none⟩ (.bool false)).setCell ⟨g, 2, none⟩ (.slice none 0 0)) := mod_put (mod_put (Mod.refl _ _) (fun _ => rfl)) (fun _ => rfl)
    have kx12 := kx.mod hm12 (fun e => hgx e.symm)
    have hr12 := RdS.keep hr11 hm12 (fun b hb _ => (show ¬ b = g by have := hb.1; omega))
    dsimp only at hj12
    generalize (w11.setCell ⟨g, 1, none⟩ (.bool false)).setCell ⟨g, 2, none⟩ (.slice none 0 0) = w12 at *
    have v0 := kx12.cell 0
    have v1 := kx12.cell 1
    have v2 := kx12.cell 2
    have v3 := kx12.cell 3
    have v4 := kx12.cell 4
    have v5 := kx12.cell 5
    clear y0 y1 y2 y3 e0 e1 e2 e3
    have hpr : PkR w12 (fun b => b ≠ g) [.int .i64 p1, .int .i64 p2, .int .i64 p3, .bool p4, .bool p5, .slice A10 p6.length c10] ⟨p1, p2, p3, p4, p5, p6⟩ := ⟨A10, c10, rfl, hc10, hr12.weak (fun b hb _ => by have := hb.1; omega), hPw⟩
    have hre := (RdG.one_ PkR.good w12 hpr 47).weak PkR.good (S' := fun b => b ≠ g) (fun b hb _ => by
      rcases hb with hb | hb
      · exact hb.1
      · have := hj12.lt; omega)
    have bz := below_alloc (Below.refl w12.heap.size w12) (.cells #[.int .i64 p1, .int .i64 p2, .int .i64 p3, .bool p4, .bool p5, .slice A10 p6.length c10] 47)
    go_wp2
    go_ret2
    exact rput_last HQ.out (hj12.below bz) hre ((hm11.then_ hm12).then_ (Mod.of_fresh bz))
end Go.Proofs.Ytaimjlnhdobgeaa
