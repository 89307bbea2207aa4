/- known() of chapter 32. -/
import Derived.Test.YtkgenjgomnalpaaSched
import Derived.Test.YtkgenjgomnalpaaPgRead
import Derived.Test.YtkgenjgomnalpaaPgSplit
import Derived.Test.YtkgenjgomnalpaaJnPut
import Derived.Test.YtkgenjgomnalpaaPgSame
import Derived.Test.YtkgenjgomnalpaaHoSame
import Derived.Test.YtkgenjgomnalpaaPgLaws
import Derived.Lib.SlBytesConst
import Derived.Outline
set_option linter.unusedSimpArgs false
set_option linter.unusedVariables false
namespace Go.Proofs.Ytkgenjgomnalpaa
open Go.RowKit

theorem RdI.litF (w : World) (k : IntKind) (l : List Int) (cs : Array Value) (e : TypeId) (fr : Nat × Nat) (h : cs.toList = ic k l) : RdI (w.alloc (.cells cs e fr)) (w.heap.size + 1) k (some ⟨w.heap.size, 0, none⟩) l := by
  refine ⟨by rw [ic_length]; omega, fun _ => ⟨_, rfl, by simp, fun j u hu => ?_⟩⟩
  rw [add_mk, cell_of_row _ w.heap.size (0 + j) cs e fr (heap_alloc_new w _), Nat.zero_add, ← hu, ← h]
  simp
def kp : Pk := ⟨1, 258, 0, true, false, [120]⟩
def kb : List Int := [1, 1, 0, 0, 0, 0, 0, 0, 1, 2, 0, 0, 0, 0, 0, 0, 0, 0, 120]
def kg : Pg := ⟨7, true, true, false, kb⟩
theorem kp_E : layE kp = 0 := by decide +kernel
theorem kp_bytes : kp.bytes = kb := by decide +kernel
theorem kp_B : layB kp = kb := by rw [layB, if_pos kp_E, kp_bytes]
theorem kp_wf : kp.wf := ⟨by simp [kp, i64B], by simp [kp, i64B], by simp [kp, i64B], by simp [kp], fun x hx => by simp [kp] at hx; omega⟩
theorem kb_byte : byteB kb := by rw [← kp_bytes]; exact bytes_byte kp_E kp_wf
theorem k_all : pagesAll 7 ([kp].map Pk.bytes) = [kg] := by rw [List.map_cons, List.map_nil, kp_bytes]; decide +kernel
theorem k_bad : layBad [kp] = 0 := layBad_none fun p hp => by rw [List.mem_singleton] at hp; rw [hp]; exact kp_E
theorem k_E : splitE [kp] 7 = 0 := by rw [splitE, if_neg (by omega), if_neg (by rw [k_bad]; simp), k_all, if_neg (by simp)]
theorem k_P : splitP [kp] 7 = [kg] := by rw [splitP, if_pos k_E, k_all]
theorem kg_ok : pgOk kg = true := by decide +kernel
theorem kg_E : pgE kg = 0 := by rw [pgE, if_pos kg_ok]
theorem kg_B : pgB kg = pgBytes kg := by rw [pgB, if_pos kg_E]
theorem kg_wf : kg.wf := ⟨by simp [kg, i64B], by simp [kg, kb], kb_byte⟩
theorem kg_head : (pgBytes kg).take 8 = [75, 80, 3, 0, 0, 0, 7, 19] := by decide +kernel
theorem kg_len : (pgBytes kg).length = 31 := by decide +kernel
theorem kg_rd : rdE (pgBytes kg) = 0 ∧ rdP (pgBytes kg) = kg ∧ rdL (pgBytes kg) = 31 := by
  have := rd_back kg_ok []
  rw [List.append_nil] at this
  exact this
theorem kj_put : Jn.put ⟨7, false, [], 0⟩ kg = (⟨8, false, [], 0⟩, [kp], []) := by
  have hd : Jn.deaf ⟨7, false, [], 0⟩ kg = false := by rw [Jn.deaf, kg_E]; decide +kernel
  have hb : ((Jn.start ⟨7, false, [], 0⟩ kg).body ++ kg.body) = kb := by decide +kernel
  have ho := open_back kp_E
  rw [kp_bytes] at ho
  rw [put_ok hd (by decide +kernel) (by rw [hb]; decide +kernel) (by decide +kernel) (by rw [hb]; exact ho.1), hb, ho.2]
  have h1 : gaps ⟨7, false, [], 0⟩ kg = [] := by decide +kernel
  have h2 : (Jn.full ⟨7, false, [], 0⟩ kg).next = 8 ∧ (Jn.full ⟨7, false, [], 0⟩ kg).broken = 0 := by decide +kernel
  rw [h1, h2.1, h2.2]
theorem kLay (W : World) (A : Option Addr) (c : Nat) (hr : RdI W W.heap.size .u8 A [120]) :
    Calls Try.prog 11 #[.agg #[.int .i64 1, .int .i64 258, .int .i64 0, .bool true, .bool false, .slice A 1 c]] W fun e w' => ∃ A' c', e = .returned (.tuple #[.slice A' 19 c', .int .i64 0]) ∧ RdI w' w'.heap.size .u8 A' kb ∧ 19 ≤ c' ∧ Below W.heap.size W w' := by
  have h := lay_any kp A c kp_wf W hr
  rw [kp_E, kp_B] at h
  refine h.mono ?_
  rintro e w' ⟨v, rfl, ho, hb⟩
  obtain ⟨A', c', rfl, hc, hr, _⟩ := ho.form
  exact ⟨A', c', rfl, hr, hc, hb⟩
theorem kSplit (W : World) {A : Option Addr} {c : Nat} {S : Nat → Prop} (hr : RdPk W S A [kp]) :
    Calls Try.prog 24 #[.slice A 1 c, .int .i64 7] W fun e w' => ∃ A' c', e = .returned (.tuple #[.slice A' 1 c', .int .i64 0]) ∧ RdPg w' (fun b => W.heap.size ≤ b) A' [kg] ∧ Below W.heap.size W w' := by
  have h := split_any (c := c) hr (by simp) 7 (by omega) (by omega)
  rw [k_E, k_P] at h
  refine h.mono ?_
  rintro e w' ⟨v, rfl, ho, hb⟩
  obtain ⟨A', c', rfl, hc, hr⟩ := ho.reads PgR.good (S := fun b => W.heap.size ≤ b) (fun b hb _ => by rcases hb with hb | hb; exact hb.1; exact (ho.own_ge b hb).1)
  exact ⟨A', c', rfl, hr, hb⟩
theorem kBytes (W : World) (A : Option Addr) (c : Nat) (hr : RdI W W.heap.size .u8 A kb) :
    Calls Try.prog 17 #[.agg #[.int .i64 7, .bool true, .bool true, .bool false, .slice A 19 c]] W fun e w' => ∃ A' c', e = .returned (.tuple #[.slice A' 31 c', .int .i64 0]) ∧ RdS w' (fun b => W.heap.size ≤ b) .u8 A' (pgBytes kg) ∧ 31 ≤ c' ∧ Below W.heap.size W w' := by
  have h := pgbytes_any kg A c kg_wf W hr
  rw [kg_E, kg_B] at h
  refine h.mono ?_
  rintro e w' ⟨v, rfl, ho, hb⟩
  obtain ⟨A', c', rfl, hc, hr, _⟩ := ho.form
  obtain ⟨_, _, hrs⟩ := ho.rds
  rw [kg_len] at hc
  exact ⟨A', c', by rw [kg_len], hrs.weak (fun b hb _ => hb.1), hc, hb⟩
theorem kg_byte : byteB (pgBytes kg) := (pgHead_bytes kg_ok kb_byte).append (bg_bytes _ _)
theorem kRead (W : World) (A : Option Addr) (c : Nat) (hr : RdI W W.heap.size .u8 A (pgBytes kg)) (hc : 31 ≤ c) :
    Calls Try.prog 20 #[.slice A 31 c, .int .i64 0] W fun e w' => ∃ A' c', e = .returned (.tuple #[.agg #[.int .i64 7, .bool true, .bool true, .bool false, .slice A' 19 c'], .int .i64 31, .int .i64 0]) ∧ RdS w' (fun b => W.heap.size ≤ b) .u8 A' kb ∧ Below W.heap.size W w' := by
  have h := read_any (at_ := 0) (c := c) hr (Nat.le_refl _) kg_byte (by rw [kg_len]; exact hc) (by rw [kg_len]; omega) (Nat.zero_le _)
  rw [List.drop_zero, kg_rd.1, kg_rd.2.1, kg_rd.2.2, kg_len] at h
  refine h.mono ?_
  rintro e w' ⟨A', c', rfl, ho, hb⟩
  obtain ⟨A2, c2, hv, hc2, hr2, _⟩ := ho.form
  simp only [Value.slice.injEq] at hv
  obtain ⟨rfl, _, _⟩ := hv
  obtain ⟨_, _, hrs⟩ := ho.rds
  exact ⟨A', c', rfl, hrs.weak (fun b hb _ => hb.1), hb⟩
theorem kPut {W : World} {g : Nat} (h : JnR W g none ⟨7, false, [], 0⟩) (A : Option Addr) (c : Nat) {S : Nat → Prop} (hr : RdS W S .u8 A kb) (hS : ∀ b, S b → b < W.heap.size → b ≠ g) (hc : 19 ≤ c) :
    Calls Try.prog 26 #[.pointer (some ⟨g, 0, none⟩), .agg #[.int .i64 7, .bool true, .bool true, .bool false, .slice A 19 c]] W fun e w' => ∃ A' c' A2 c2 ob, e = .returned (.tuple #[.slice A' 1 c', .slice A2 0 c2]) ∧ JnR w' g ob ⟨8, false, [], 0⟩ ∧ RdPk w' (fun b => W.heap.size ≤ b) A' [kp] ∧ Mod (· = g) W w' := by
  have h := jput_any h (by simp) (by simp) kg A c kg_wf hr (fun b h1 h2 => ⟨hS b h1 h2, by simp⟩) hc
  rw [kj_put] at h
  refine h.mono ?_
  rintro e w' ⟨A', c', A2, c2, ob, rfl, _, _, hj, hp, _, hm, _⟩
  exact ⟨A', c', A2, c2, ob, rfl, hj, hp.weak PkR.good (fun b hb _ => hb.1), hm.mono (fun b hb _ => by rcases hb with hb | hb; exact hb; cases hb)⟩

theorem kgAt {w : World} {S : Nat → Prop} {A : Option Addr} (h : RdPg w S A [kg]) : ∃ ad Aj cj, A = some ad ∧ S ad.block ∧ w.cell? ad = some (.int .i64 7) ∧ w.cell? ⟨ad.block, ad.off + 1, none⟩ = some (.bool true) ∧ w.cell? ⟨ad.block, ad.off + 2, none⟩ = some (.bool true) ∧ w.cell? ⟨ad.block, ad.off + 3, none⟩ = some (.bool false) ∧
    w.cell? ⟨ad.block, ad.off + 4, none⟩ = some (.slice Aj 19 cj) ∧ 19 ≤ cj ∧ RdS w S .u8 Aj kb ∧ ad.block < w.heap.size := by
  obtain ⟨ad, p, Aj, cj, rfl, hS, hp, y0, y1, y2, y3, y4, hc, hr, _⟩ := RdPg.at_ h (j := 0) (by simp)
  have : p = ad := by rw [← hp]; simp [Addr.add]
  subst this
  exact ⟨p, Aj, cj, rfl, hS, y0, y1, y2, y3, y4, hc, hr, World.block_lt_of_cell? w _ y0⟩
theorem kSamePg (W : World) (A A' : Option Addr) (c c' : Nat) (ha : RdI W W.heap.size .u8 A kb) (hb : RdI W W.heap.size .u8 A' kb) :
    Calls Try.prog 37 #[.agg #[.int .i64 7, .bool true, .bool true, .bool false, .slice A 19 c], .agg #[.int .i64 7, .bool true, .bool true, .bool false, .slice A' 19 c']] W fun e w' => e = .returned (.bool true) ∧ Below W.heap.size W w' := by
  have h := samepg_any kg kg A A' c c' W ha hb kb_byte kb_byte
  rw [decide_eq_true rfl] at h
  exact h
theorem kSamePks (W : World) {A A' : Option Addr} (c c' : Nat) {S S' : Nat → Prop} (ha : RdPk W S A [kp]) (hb : RdPk W S' A' [kp]) :
    Calls Try.prog 27 #[.slice A 1 c, .slice A' 1 c'] W fun e w' => e = .returned (.bool true) ∧ Below W.heap.size W w' := by
  have h := samepks_any c c' ha hb (by simp) (by simp)
  rw [decide_eq_true rfl] at h
  exact h
theorem k_s10 : str (kb.take 10) = ⟨#[1, 1, 0, 0, 0, 0, 0, 0, 1, 2]⟩ := by kernel_rfl
theorem k_s8 : str ((pgBytes kg).take 8) = ⟨#[75, 80, 3, 0, 0, 0, 7, 19]⟩ := by rw [kg_head]; kernel_rfl
theorem kNew (W : World) : Calls Try.prog 25 #[.int .i64 7] W fun e w' => e = .returned (.pointer (some ⟨W.heap.size, 0, none⟩)) ∧ JnR w' W.heap.size none ⟨7, false, [], 0⟩ ∧ Below W.heap.size W w' := jnew_any 7 (by omega) (by omega) W

set_option maxHeartbeats 8000000 in
set_option maxRecDepth 100000 in
theorem known_any (w : World) : Calls Try.prog 16 #[] w fun e w' => e = .returned (.bool true) ∧ Below w.heap.size w w' := by
  have HLay := Lib.hid kLay
  have HSpl := Lib.hid (fun W (A : Option Addr) (c : Nat) (S : Nat → Prop) (hr : RdPk W S A [kp]) => kSplit W (c := c) hr)
  have HBy := Lib.hid kBytes
  have HRd := Lib.hid kRead
  have HNew := Lib.hid kNew
  have kc := fun (w : World) (C : Array Value) (n c : Nat) => Lib.run_convert_bytes_const (P := Try.prog) w 23 5 C n c Try.underlying23 Try.underlying5
  go_enter Try.func16, Try.ntmps16
  go_wp2_with fail
  clear kc
  have k0 := RdI.litF w .u8 [120] #[.int .u8 120] 5 (1, 2) rfl
  have b0 : Below w.heap.size w (w.alloc (.cells #[.int .u8 120] 5 (1, 2))) := below_alloc (Below.refl _ _) _
  have hs0 : (w.alloc (.cells #[.int .u8 120] 5 (1, 2))).heap.size = w.heap.size + 1 := by simp
  generalize w.alloc (.cells #[.int .u8 120] 5 (1, 2)) = w0 at *
  have kbP := Blk.new w0 25 #[.int .i64 1, .int .i64 258, .int .i64 0, .bool true, .bool false, .slice (some ⟨w.heap.size, 0, none⟩) 1 1]
  have b1 := below_then b0 (below_alloc (Below.refl w0.heap.size w0) (.cells #[.int .i64 1, .int .i64 258, .int .i64 0, .bool true, .bool false, .slice (some ⟨w.heap.size, 0, none⟩) 1 1] 25))
  have k1 := RdI.alloc k0 (Nat.le_of_eq hs0.symm) (.cells #[.int .i64 1, .int .i64 258, .int .i64 0, .bool true, .bool false, .slice (some ⟨w.heap.size, 0, none⟩) 1 1] 25)
  rw [hs0] at kbP
  generalize w0.alloc (.cells #[.int .i64 1, .int .i64 258, .int .i64 0, .bool true, .bool false, .slice (some ⟨w.heap.size, 0, none⟩) 1 1] 25) = wp at *
  have hlp := kbP.lt
  clear hs0 k0 b0
  have HPk : ∀ W, Below wp.heap.size wp W → PkR W (· < wp.heap.size) [.int .i64 1, .int .i64 258, .int .i64 0, .bool true, .bool false, .slice (some ⟨w.heap.size, 0, none⟩) 1 1] kp := fun W hW => ⟨some ⟨w.heap.size, 0, none⟩, 1, rfl, by simp [kp], RdS.weak (RdI.rds (RdI.below k1 hW (by omega))) (fun b hb _ => by omega), kp_wf⟩
  replace HPk := Lib.hid HPk
  have k2 := RdI.more k1 (show w.heap.size + 1 ≤ wp.heap.size by omega)
  go_wp2_with (first
    | (go_at_call 11; (with_reducible refine (HLay.out _ _ _ k2).mono ?_); rintro e w1 ⟨A1, c1, rfl, hr1, hc1, hb1⟩; have kb1 := kbP.below hb1 hlp; have x0 := kb1.cell 0; have x1 := kb1.cell 1; have x2 := kb1.cell 2; have x3 := kb1.cell 3; have x4 := kb1.cell 4; have x5 := kb1.cell 5)
    | (go_at_call 24; (with_reducible refine (HSpl.out _ _ _ _ (RdG.one_ PkR.good w1 (HPk.out _ hb1) 25)).mono ?_); rintro e w2 ⟨A2, c2, rfl, hg2, hb2⟩)
    | (go_at_call 25; (with_reducible refine (HNew.out _).mono ?_); rintro e w3 ⟨rfl, hj3, hb3⟩; have hg3 := (hg2.weak PgR.good (S' := fun b => b < w2.heap.size) (fun b _ hl => hl)).below PgR.good hb3; obtain ⟨ad, Aj, cj, rfl, hSp, y0, y1, y2, y3, y4, hcj, hrj, hal⟩ := kgAt hg3)
    | (go_at_call 17; (with_reducible refine (HBy.out _ _ _ hrj.top).mono ?_); rintro e w4 ⟨A4, c4, rfl, hr4, hc4, hb4⟩)
    | (go_at_call 20; (with_reducible refine (HRd.out _ _ _ hr4.top hc4).mono ?_); rintro e w5 ⟨A5, c5, rfl, hr5, hb5⟩; have hb35 := below_then hb4 hb5; have v0 := (hb35.cell (p := ad) hal).trans y0; have v1 := (hb35.cell (p := ⟨ad.block, ad.off + 1, none⟩) hal).trans y1; have v2 := (hb35.cell (p := ⟨ad.block, ad.off + 2, none⟩) hal).trans y2; have v3 := (hb35.cell (p := ⟨ad.block, ad.off + 3, none⟩) hal).trans y3; have v4 := (hb35.cell (p := ⟨ad.block, ad.off + 4, none⟩) hal).trans y4; have hal5 : ad.block < w5.heap.size := Nat.lt_of_lt_of_le hal hb35.size; have hne5 : ad.block ≠ w5.heap.size := Nat.ne_of_lt hal5))
  have kbG := Blk.new w5 43 #[.int .i64 7, .bool true, .bool true, .bool false, .slice A5 19 c5]
  have bq := below_alloc (Below.refl w5.heap.size w5) (.cells #[.int .i64 7, .bool true, .bool true, .bool false, .slice A5 19 c5] 43)
  have q3 := below_then hb35 bq
  have q4 := below_then hb5 bq
  generalize w5.alloc (.cells #[.int .i64 7, .bool true, .bool true, .bool false, .slice A5 19 c5] 43) = wq at *
  have q2 := below_then hb3 q3
  have q1 : Below w1.heap.size w1 wq := (below_alloc (Below.refl w1.heap.size w1) _).trans ((hb2.mono (by simp)).trans (q2.mono (by have := hb2.size; simp at this; omega)))
  have qp := below_then hb1 q1
  have hg23 : w2.heap.size < w3.heap.size := hj3.lt
  have hg12 : w1.heap.size < w2.heap.size := by have := hb2.size; simp at this; omega
  have hp1 : wp.heap.size ≤ w1.heap.size := hb1.size
  have hg34 := hb4.size
  have hg45 := hb5.size
  have HJ := Lib.hid (hj3.below q3)
  have hrq := RdS.keep (M := fun _ => False) hrj (Mod.of_fresh q3) (fun _ _ _ h => h)
  have HPut := Lib.hid (kPut HJ.out Aj cj hrq (fun b hb _ => by omega) hcj)
  have z0 := (q3.cell (p := ad) hal).trans y0
  have z1 := (q3.cell (p := ⟨ad.block, ad.off + 1, none⟩) hal).trans y1
  have z2 := (q3.cell (p := ⟨ad.block, ad.off + 2, none⟩) hal).trans y2
  have z3 := (q3.cell (p := ⟨ad.block, ad.off + 3, none⟩) hal).trans y3
  have z4 := (q3.cell (p := ⟨ad.block, ad.off + 4, none⟩) hal).trans y4
  have s1 := (RdI.below hr1 q1 (Nat.le_refl _)).rds
  have s4 := RdS.keep (M := fun _ => False) hr4 (Mod.of_fresh q4) (fun _ _ _ h => h)
  have s5 := RdS.keep (M := fun _ => False) hr5 (Mod.of_fresh bq) (fun _ _ _ h => h)
  have kPq := kbP.below qp hlp
  have HPk6 := HPk.out _ qp
  clear v0 v1 v2 v3 v4 y0 y1 y2 y3 y4 x0 x1 x2 x3 x4 x5 hne5 hal5 HLay HSpl HBy HRd HNew hr1 hr4 hr5 HPk
  have hsub : ad.block ≠ w2.heap.size := by omega
  have r10 : ∀ W, Mod (· = w2.heap.size) wq W → (convert 23 9 (.slice A1 10 c1)).run Try.prog W = .ok (.string ⟨#[1, 1, 0, 0, 0, 0, 0, 0, 1, 2]⟩) W := fun W hW => by
    have h := RdI.take (RdS.rdI (B := w1.heap.size) (RdS.keep s1 hW (fun b hb _ => by omega)) (fun b hb _ => hb)) (n := 10) (by decide)
    have r := run_str (P := Try.prog) Try.underlying23 Try.underlying5 Try.underlying9 h c1
    rw [k_s10] at r
    exact r
  have r8 : ∀ W, Mod (· = w2.heap.size) wq W → (convert 23 9 (.slice A4 8 c4)).run Try.prog W = .ok (.string ⟨#[75, 80, 3, 0, 0, 0, 7, 19]⟩) W := fun W hW => by
    have h := RdI.take (RdS.top (RdS.keep s4 hW (fun b hb _ => by omega))) (n := 8) (by rw [kg_len]; omega)
    have r := run_str (P := Try.prog) Try.underlying23 Try.underlying5 Try.underlying9 h c4
    rw [k_s8, kg_head] at r
    exact r
  have R10 := Lib.hid r10
  have R8 := Lib.hid r8
  clear r10 r8
  go_wp2_with (first
    | (go_at_call 26; (with_reducible refine HPut.out.mono ?_); rintro e w6 ⟨A6, c6, A7, c7, ob, rfl, hj6, hp6, hm6⟩; have u0 := hm6.cell z0 hsub; have u1 := hm6.cell z1 hsub; have u2 := hm6.cell z2 hsub; have u3 := hm6.cell z3 hsub; have u4 := hm6.cell z4 hsub; have g10 := R10.out _ hm6; have g8 := R8.out _ hm6; have kG6 := kbG.mod hm6 (show ¬ w5.heap.size = w2.heap.size by omega); have t0 := kG6.cell 0; have t1 := kG6.cell 1; have t2 := kG6.cell 2; have t3 := kG6.cell 3; have t4 := kG6.cell 4; have rA := (RdS.keep hrq hm6 (fun b hb _ => (show ¬ b = w2.heap.size by omega))).top; have rB := (RdS.keep s5 hm6 (fun b hb _ => (show ¬ b = w2.heap.size by omega))).top))
  have G10 := Lib.hid (fun W (hW : Below w6.heap.size w6 W) => R10.out W (hm6.then_ (Mod.of_fresh hW)))
  have G8 := Lib.hid (fun W (hW : Below w6.heap.size w6 W) => R8.out W (hm6.then_ (Mod.of_fresh hW)))
  have kP6 := kPq.mod hm6 (show ¬ w.heap.size + 1 = w2.heap.size by omega)
  have p0 := kP6.cell 0
  have p1 := kP6.cell 1
  have p2 := kP6.cell 2
  have p3 := kP6.cell 3
  have p4 := kP6.cell 4
  have p5 := kP6.cell 5
  have HPk7 := Lib.hid (PkR.good.keep HPk6 hm6 (fun b hb _ => (show ¬ b = w2.heap.size by omega)))
  have hszq : wp.heap.size ≤ w6.heap.size := Nat.le_trans qp.size hm6.size
  have q06 : Below w.heap.size w w6 := (below_then b1 qp).trans (hm6.below (B := w.heap.size) (Nat.le_trans b1.size qp.size) (fun b hb => by have := b1.size; omega))
  clear g10 g8 z0 z1 z2 z3 z4
  have hc1i : (10 : Int) ≤ ↑c1 := (by omega)
  have hc4i : (8 : Int) ≤ ↑c4 := (by omega)
  refine wp_region_sched (S := (fun w' => Below w6.heap.size w6 w')) [(0, 1), (1, 1), (2, 1), (3, 1), (4, 1), (5, 1), (6, 1), (7, 1), (8, 1), (9, 1), (10, 1), (11, 1), (12, 1), (13, 1), (14, 1), (15, 1), (16, 1), (17, 1), (18, 1), (19, 1), (20, 1), (21, 1), (22, 1), (23, 1), (24, 1), (25, 1), (26, 1), (27, 1), (28, 1), (29, 1), (30, 1), (31, 1), (32, 1), (33, 1), (34, 1), (35, 1), (36, 1), (37, 1), (38, 1), (39, 1), (40, 1), (41, 1), (42, 1), (43, 1), (44, 1), (45, 1), (46, 1), (47, 1), (48, 1), (49, 1), (50, 1), (51, 1), (52, 1), (53, 1), (54, 1), (55, 1), (56, 1), (57, 1), (58, 1), (59, 1), (60, 2), (61, 1), (62, 1), (63, 1), (64, 0), (65, 1), (66, 1), (67, 2), (68, 1), (69, 0), (70, 0), (71, 1), (72, 1), (73, 1), (74, 1), (75, 1), (76, 1), (77, 1), (78, 1), (79, 0), (80, 1), (81, 1), (82, 1), (83, 1), (84, 0), (85, 1), (86, 1), (87, 1)] (by kernel_rfl) (by kernel_rfl) (by kernel_rfl) (fun _ _ d _ _ h => by cases d <;> exact h) ?_ (fun hHeld opsV hOps => ?_)
  focus exact (Below.refl _ _).drew
  simp only [List.append_eq, List.cons_append, List.nil_append] at hOps
  refine wpSched_take (v := ?_) hOps rfl (Or.inl ⟨by kernel_rfl, ?_⟩) ?_
  rotate_left
  focus
    intro w9 hSw'
    (try dsimp only at hSw')
    have zK : ∀ {a9 : Addr} {u9 : Value}, w6.cell? a9 = some u9 → w9.cell? a9 = some u9 := fun {a9} {u9} h9 => (hSw'.cell (World.block_lt_of_cell? w6 a9 h9)).trans h9
    have z0 := zK u0
    clear zK hSw'
    go_simp
    (try with_reducible rfl)
  (try simp only [Act.put, List.getElem_toArray, List.getElem_cons_succ, List.getElem_cons_zero, List.setIfInBounds_toArray, List.set_cons_zero, List.set_cons_succ])
  refine wpSched_take (v := ?_) hOps rfl (Or.inl ⟨by kernel_rfl, ?_⟩) ?_
  rotate_left
  focus
    intro w9 hSw'
    (try dsimp only at hSw')
    have zK : ∀ {a9 : Addr} {u9 : Value}, w6.cell? a9 = some u9 → w9.cell? a9 = some u9 := fun {a9} {u9} h9 => (hSw'.cell (World.block_lt_of_cell? w6 a9 h9)).trans h9
    have z0 := zK u0
    clear zK hSw'
    go_simp
    (try with_reducible rfl)
  (try simp only [Act.put, List.getElem_toArray, List.getElem_cons_succ, List.getElem_cons_zero, List.setIfInBounds_toArray, List.set_cons_zero, List.set_cons_succ])
  refine wpSched_take (v := ?_) hOps rfl (Or.inl ⟨by kernel_rfl, ?_⟩) ?_
  rotate_left
  focus
    intro w9 hSw'
    (try dsimp only at hSw')
    have zK : ∀ {a9 : Addr} {u9 : Value}, w6.cell? a9 = some u9 → w9.cell? a9 = some u9 := fun {a9} {u9} h9 => (hSw'.cell (World.block_lt_of_cell? w6 a9 h9)).trans h9
    have z0 := zK u0
    clear zK hSw'
    go_simp
    (try with_reducible rfl)
  (try simp only [Act.put, List.getElem_toArray, List.getElem_cons_succ, List.getElem_cons_zero, List.setIfInBounds_toArray, List.set_cons_zero, List.set_cons_succ])
  refine wpSched_take (v := ?_) hOps rfl (Or.inl ⟨by kernel_rfl, ?_⟩) ?_
  rotate_left
  focus
    intro w9 hSw'
    (try dsimp only at hSw')
    have zK : ∀ {a9 : Addr} {u9 : Value}, w6.cell? a9 = some u9 → w9.cell? a9 = some u9 := fun {a9} {u9} h9 => (hSw'.cell (World.block_lt_of_cell? w6 a9 h9)).trans h9
    have z0 := zK u0
    clear zK hSw'
    go_simp
    (try with_reducible rfl)
  (try simp only [Act.put, List.getElem_toArray, List.getElem_cons_succ, List.getElem_cons_zero, List.setIfInBounds_toArray, List.set_cons_zero, List.set_cons_succ])
  refine wpSched_take (v := ?_) hOps rfl (Or.inl ⟨by kernel_rfl, ?_⟩) ?_
  rotate_left
  focus
    intro w9 hSw'
    (try dsimp only at hSw')
    have zK : ∀ {a9 : Addr} {u9 : Value}, w6.cell? a9 = some u9 → w9.cell? a9 = some u9 := fun {a9} {u9} h9 => (hSw'.cell (World.block_lt_of_cell? w6 a9 h9)).trans h9
    have z0 := zK u0
    clear zK hSw'
    go_simp
    (try with_reducible rfl)
  (try simp only [Act.put, List.getElem_toArray, List.getElem_cons_succ, List.getElem_cons_zero, List.setIfInBounds_toArray, List.set_cons_zero, List.set_cons_succ])
  refine wpSched_take (v := ?_) hOps rfl (Or.inl ⟨by kernel_rfl, ?_⟩) ?_
  rotate_left
  focus
    intro w9 hSw'
    (try dsimp only at hSw')
    have zK : ∀ {a9 : Addr} {u9 : Value}, w6.cell? a9 = some u9 → w9.cell? a9 = some u9 := fun {a9} {u9} h9 => (hSw'.cell (World.block_lt_of_cell? w6 a9 h9)).trans h9
    have z0 := zK u0
    clear zK hSw'
    go_simp
    (try with_reducible rfl)
  (try simp only [Act.put, List.getElem_toArray, List.getElem_cons_succ, List.getElem_cons_zero, List.setIfInBounds_toArray, List.set_cons_zero, List.set_cons_succ])
  refine wpSched_take (v := ?_) hOps rfl (Or.inl ⟨by kernel_rfl, ?_⟩) ?_
  rotate_left
  focus
    intro w9 hSw'
    (try dsimp only at hSw')
    have zK : ∀ {a9 : Addr} {u9 : Value}, w6.cell? a9 = some u9 → w9.cell? a9 = some u9 := fun {a9} {u9} h9 => (hSw'.cell (World.block_lt_of_cell? w6 a9 h9)).trans h9
    have z0 := zK u0
    clear zK hSw'
    go_simp
    (try with_reducible rfl)
  (try simp only [Act.put, List.getElem_toArray, List.getElem_cons_succ, List.getElem_cons_zero, List.setIfInBounds_toArray, List.set_cons_zero, List.set_cons_succ])
  refine wpSched_take (v := ?_) hOps rfl (Or.inl ⟨by kernel_rfl, ?_⟩) ?_
  rotate_left
  focus
    intro w9 hSw'
    (try dsimp only at hSw')
    have zK : ∀ {a9 : Addr} {u9 : Value}, w6.cell? a9 = some u9 → w9.cell? a9 = some u9 := fun {a9} {u9} h9 => (hSw'.cell (World.block_lt_of_cell? w6 a9 h9)).trans h9
    have z0 := zK u0
    clear zK hSw'
    go_simp
    (try with_reducible rfl)
  (try simp only [Act.put, List.getElem_toArray, List.getElem_cons_succ, List.getElem_cons_zero, List.setIfInBounds_toArray, List.set_cons_zero, List.set_cons_succ])
  refine wpSched_take (v := ?_) hOps rfl (Or.inl ⟨by kernel_rfl, ?_⟩) ?_
  rotate_left
  focus
    intro w9 hSw'
    (try dsimp only at hSw')
    have zK : ∀ {a9 : Addr} {u9 : Value}, w6.cell? a9 = some u9 → w9.cell? a9 = some u9 := fun {a9} {u9} h9 => (hSw'.cell (World.block_lt_of_cell? w6 a9 h9)).trans h9
    have z0 := zK u0
    clear zK hSw'
    go_simp
    (try with_reducible rfl)
  (try simp only [Act.put, List.getElem_toArray, List.getElem_cons_succ, List.getElem_cons_zero, List.setIfInBounds_toArray, List.set_cons_zero, List.set_cons_succ])
  refine wpSched_take (v := ?_) hOps rfl (Or.inl ⟨by kernel_rfl, ?_⟩) ?_
  rotate_left
  focus
    intro w9 hSw'
    (try dsimp only at hSw')
    have zK : ∀ {a9 : Addr} {u9 : Value}, w6.cell? a9 = some u9 → w9.cell? a9 = some u9 := fun {a9} {u9} h9 => (hSw'.cell (World.block_lt_of_cell? w6 a9 h9)).trans h9
    have z0 := zK u0
    clear zK hSw'
    go_simp
    (try with_reducible rfl)
  (try simp only [Act.put, List.getElem_toArray, List.getElem_cons_succ, List.getElem_cons_zero, List.setIfInBounds_toArray, List.set_cons_zero, List.set_cons_succ])
  refine wpSched_take (v := ?_) hOps rfl (Or.inl ⟨by kernel_rfl, ?_⟩) ?_
  rotate_left
  focus
    intro w9 hSw'
    (try dsimp only at hSw')
    have zr := G10.out w9 hSw'
    clear hSw'
    go_simp
    (try with_reducible rfl)
  (try simp only [Act.put, List.getElem_toArray, List.getElem_cons_succ, List.getElem_cons_zero, List.setIfInBounds_toArray, List.set_cons_zero, List.set_cons_succ])
  refine wpSched_take (v := ?_) hOps rfl (Or.inl ⟨by kernel_rfl, ?_⟩) ?_
  rotate_left
  focus
    intro w9 hSw'
    (try dsimp only at hSw')
    have zK : ∀ {a9 : Addr} {u9 : Value}, w6.cell? a9 = some u9 → w9.cell? a9 = some u9 := fun {a9} {u9} h9 => (hSw'.cell (World.block_lt_of_cell? w6 a9 h9)).trans h9
    have z0 := zK u0
    have z1 := zK u1
    have z2 := zK u2
    clear zK hSw'
    go_simp
    (try with_reducible rfl)
  (try simp only [Act.put, List.getElem_toArray, List.getElem_cons_succ, List.getElem_cons_zero, List.setIfInBounds_toArray, List.set_cons_zero, List.set_cons_succ])
  refine wpSched_take (v := ?_) hOps rfl (Or.inl ⟨by kernel_rfl, ?_⟩) ?_
  rotate_left
  focus
    intro w9 hSw'
    (try dsimp only at hSw')
    have zK : ∀ {a9 : Addr} {u9 : Value}, w6.cell? a9 = some u9 → w9.cell? a9 = some u9 := fun {a9} {u9} h9 => (hSw'.cell (World.block_lt_of_cell? w6 a9 h9)).trans h9
    have z0 := zK u0
    have z1 := zK u1
    have z2 := zK u2
    clear zK hSw'
    go_simp
    (try with_reducible rfl)
  (try simp only [Act.put, List.getElem_toArray, List.getElem_cons_succ, List.getElem_cons_zero, List.setIfInBounds_toArray, List.set_cons_zero, List.set_cons_succ])
  refine wpSched_take (v := ?_) hOps rfl (Or.inl ⟨by kernel_rfl, ?_⟩) ?_
  rotate_left
  focus
    intro w9 hSw'
    (try dsimp only at hSw')
    have zK : ∀ {a9 : Addr} {u9 : Value}, w6.cell? a9 = some u9 → w9.cell? a9 = some u9 := fun {a9} {u9} h9 => (hSw'.cell (World.block_lt_of_cell? w6 a9 h9)).trans h9
    have z0 := zK u0
    have z1 := zK u1
    have z2 := zK u2
    clear zK hSw'
    go_simp
    (try with_reducible rfl)
  (try simp only [Act.put, List.getElem_toArray, List.getElem_cons_succ, List.getElem_cons_zero, List.setIfInBounds_toArray, List.set_cons_zero, List.set_cons_succ])
  refine wpSched_take (v := ?_) hOps rfl (Or.inl ⟨by kernel_rfl, ?_⟩) ?_
  rotate_left
  focus
    intro w9 hSw'
    (try dsimp only at hSw')
    have zK : ∀ {a9 : Addr} {u9 : Value}, w6.cell? a9 = some u9 → w9.cell? a9 = some u9 := fun {a9} {u9} h9 => (hSw'.cell (World.block_lt_of_cell? w6 a9 h9)).trans h9
    have z0 := zK u0
    have z1 := zK u1
    have z2 := zK u2
    clear zK hSw'
    go_simp
    (try with_reducible rfl)
  (try simp only [Act.put, List.getElem_toArray, List.getElem_cons_succ, List.getElem_cons_zero, List.setIfInBounds_toArray, List.set_cons_zero, List.set_cons_succ])
  refine wpSched_take (v := ?_) hOps rfl (Or.inl ⟨by kernel_rfl, ?_⟩) ?_
  rotate_left
  focus
    intro w9 hSw'
    (try dsimp only at hSw')
    have zK : ∀ {a9 : Addr} {u9 : Value}, w6.cell? a9 = some u9 → w9.cell? a9 = some u9 := fun {a9} {u9} h9 => (hSw'.cell (World.block_lt_of_cell? w6 a9 h9)).trans h9
    have z0 := zK u0
    have z1 := zK u1
    have z2 := zK u2
    clear zK hSw'
    go_simp
    (try with_reducible rfl)
  (try simp only [Act.put, List.getElem_toArray, List.getElem_cons_succ, List.getElem_cons_zero, List.setIfInBounds_toArray, List.set_cons_zero, List.set_cons_succ])
  refine wpSched_take (v := ?_) hOps rfl (Or.inl ⟨by kernel_rfl, ?_⟩) ?_
  rotate_left
  focus
    intro w9 hSw'
    (try dsimp only at hSw')
    have zK : ∀ {a9 : Addr} {u9 : Value}, w6.cell? a9 = some u9 → w9.cell? a9 = some u9 := fun {a9} {u9} h9 => (hSw'.cell (World.block_lt_of_cell? w6 a9 h9)).trans h9
    have z0 := zK u0
    have z1 := zK u1
    have z2 := zK u2
    clear zK hSw'
    go_simp
    (try with_reducible rfl)
  (try simp only [Act.put, List.getElem_toArray, List.getElem_cons_succ, List.getElem_cons_zero, List.setIfInBounds_toArray, List.set_cons_zero, List.set_cons_succ])
  refine wpSched_take (v := ?_) hOps rfl (Or.inl ⟨by kernel_rfl, ?_⟩) ?_
  rotate_left
  focus
    intro w9 hSw'
    (try dsimp only at hSw')
    have zK : ∀ {a9 : Addr} {u9 : Value}, w6.cell? a9 = some u9 → w9.cell? a9 = some u9 := fun {a9} {u9} h9 => (hSw'.cell (World.block_lt_of_cell? w6 a9 h9)).trans h9
    have z0 := zK u0
    have z1 := zK u1
    have z2 := zK u2
    clear zK hSw'
    go_simp
    (try with_reducible rfl)
  (try simp only [Act.put, List.getElem_toArray, List.getElem_cons_succ, List.getElem_cons_zero, List.setIfInBounds_toArray, List.set_cons_zero, List.set_cons_succ])
  refine wpSched_take (v := ?_) hOps rfl (Or.inl ⟨by kernel_rfl, ?_⟩) ?_
  rotate_left
  focus
    intro w9 hSw'
    (try dsimp only at hSw')
    have zK : ∀ {a9 : Addr} {u9 : Value}, w6.cell? a9 = some u9 → w9.cell? a9 = some u9 := fun {a9} {u9} h9 => (hSw'.cell (World.block_lt_of_cell? w6 a9 h9)).trans h9
    have z0 := zK u0
    have z1 := zK u1
    have z2 := zK u2
    clear zK hSw'
    go_simp
    (try with_reducible rfl)
  (try simp only [Act.put, List.getElem_toArray, List.getElem_cons_succ, List.getElem_cons_zero, List.setIfInBounds_toArray, List.set_cons_zero, List.set_cons_succ])
  refine wpSched_take (v := ?_) hOps rfl (Or.inl ⟨by kernel_rfl, ?_⟩) ?_
  rotate_left
  focus
    intro w9 hSw'
    (try dsimp only at hSw')
    have zK : ∀ {a9 : Addr} {u9 : Value}, w6.cell? a9 = some u9 → w9.cell? a9 = some u9 := fun {a9} {u9} h9 => (hSw'.cell (World.block_lt_of_cell? w6 a9 h9)).trans h9
    have z0 := zK u0
    have z1 := zK u1
    have z2 := zK u2
    clear zK hSw'
    go_simp
    (try with_reducible rfl)
  (try simp only [Act.put, List.getElem_toArray, List.getElem_cons_succ, List.getElem_cons_zero, List.setIfInBounds_toArray, List.set_cons_zero, List.set_cons_succ])
  refine wpSched_take (v := ?_) hOps rfl (Or.inl ⟨by kernel_rfl, ?_⟩) ?_
  rotate_left
  focus
    intro w9 hSw'
    (try dsimp only at hSw')
    have zK : ∀ {a9 : Addr} {u9 : Value}, w6.cell? a9 = some u9 → w9.cell? a9 = some u9 := fun {a9} {u9} h9 => (hSw'.cell (World.block_lt_of_cell? w6 a9 h9)).trans h9
    have z0 := zK u0
    have z1 := zK u1
    have z2 := zK u2
    clear zK hSw'
    go_simp
    (try with_reducible rfl)
  (try simp only [Act.put, List.getElem_toArray, List.getElem_cons_succ, List.getElem_cons_zero, List.setIfInBounds_toArray, List.set_cons_zero, List.set_cons_succ])
  refine wpSched_take (v := ?_) hOps rfl (Or.inl ⟨by kernel_rfl, ?_⟩) ?_
  rotate_left
  focus
    intro w9 hSw'
    (try dsimp only at hSw')
    have zK : ∀ {a9 : Addr} {u9 : Value}, w6.cell? a9 = some u9 → w9.cell? a9 = some u9 := fun {a9} {u9} h9 => (hSw'.cell (World.block_lt_of_cell? w6 a9 h9)).trans h9
    have z0 := zK u0
    have z1 := zK u1
    have z2 := zK u2
    clear zK hSw'
    go_simp
    (try with_reducible rfl)
  (try simp only [Act.put, List.getElem_toArray, List.getElem_cons_succ, List.getElem_cons_zero, List.setIfInBounds_toArray, List.set_cons_zero, List.set_cons_succ])
  refine wpSched_take (v := ?_) hOps rfl (Or.inl ⟨by kernel_rfl, ?_⟩) ?_
  rotate_left
  focus
    intro w9 hSw'
    (try dsimp only at hSw')
    have zK : ∀ {a9 : Addr} {u9 : Value}, w6.cell? a9 = some u9 → w9.cell? a9 = some u9 := fun {a9} {u9} h9 => (hSw'.cell (World.block_lt_of_cell? w6 a9 h9)).trans h9
    have z0 := zK u0
    have z1 := zK u1
    have z2 := zK u2
    clear zK hSw'
    go_simp
    (try with_reducible rfl)
  (try simp only [Act.put, List.getElem_toArray, List.getElem_cons_succ, List.getElem_cons_zero, List.setIfInBounds_toArray, List.set_cons_zero, List.set_cons_succ])
  refine wpSched_take (v := ?_) hOps rfl (Or.inl ⟨by kernel_rfl, ?_⟩) ?_
  rotate_left
  focus
    intro w9 hSw'
    (try dsimp only at hSw')
    have zK : ∀ {a9 : Addr} {u9 : Value}, w6.cell? a9 = some u9 → w9.cell? a9 = some u9 := fun {a9} {u9} h9 => (hSw'.cell (World.block_lt_of_cell? w6 a9 h9)).trans h9
    have z0 := zK u0
    have z1 := zK u1
    have z2 := zK u2
    clear zK hSw'
    go_simp
    (try with_reducible rfl)
  (try simp only [Act.put, List.getElem_toArray, List.getElem_cons_succ, List.getElem_cons_zero, List.setIfInBounds_toArray, List.set_cons_zero, List.set_cons_succ])
  refine wpSched_take (v := ?_) hOps rfl (Or.inl ⟨by kernel_rfl, ?_⟩) ?_
  rotate_left
  focus
    intro w9 hSw'
    (try dsimp only at hSw')
    have zK : ∀ {a9 : Addr} {u9 : Value}, w6.cell? a9 = some u9 → w9.cell? a9 = some u9 := fun {a9} {u9} h9 => (hSw'.cell (World.block_lt_of_cell? w6 a9 h9)).trans h9
    have z0 := zK u0
    have z1 := zK u1
    have z2 := zK u2
    clear zK hSw'
    go_simp
    (try with_reducible rfl)
  (try simp only [Act.put, List.getElem_toArray, List.getElem_cons_succ, List.getElem_cons_zero, List.setIfInBounds_toArray, List.set_cons_zero, List.set_cons_succ])
  refine wpSched_take (v := ?_) hOps rfl (Or.inl ⟨by kernel_rfl, ?_⟩) ?_
  rotate_left
  focus
    intro w9 hSw'
    (try dsimp only at hSw')
    have zK : ∀ {a9 : Addr} {u9 : Value}, w6.cell? a9 = some u9 → w9.cell? a9 = some u9 := fun {a9} {u9} h9 => (hSw'.cell (World.block_lt_of_cell? w6 a9 h9)).trans h9
    have z0 := zK u0
    have z1 := zK u1
    have z2 := zK u2
    clear zK hSw'
    go_simp
    (try with_reducible rfl)
  (try simp only [Act.put, List.getElem_toArray, List.getElem_cons_succ, List.getElem_cons_zero, List.setIfInBounds_toArray, List.set_cons_zero, List.set_cons_succ])
  refine wpSched_take (v := ?_) hOps rfl (Or.inl ⟨by kernel_rfl, ?_⟩) ?_
  rotate_left
  focus
    intro w9 hSw'
    (try dsimp only at hSw')
    have zK : ∀ {a9 : Addr} {u9 : Value}, w6.cell? a9 = some u9 → w9.cell? a9 = some u9 := fun {a9} {u9} h9 => (hSw'.cell (World.block_lt_of_cell? w6 a9 h9)).trans h9
    have z0 := zK u0
    have z1 := zK u1
    have z2 := zK u2
    clear zK hSw'
    go_simp
    (try with_reducible rfl)
  (try simp only [Act.put, List.getElem_toArray, List.getElem_cons_succ, List.getElem_cons_zero, List.setIfInBounds_toArray, List.set_cons_zero, List.set_cons_succ])
  refine wpSched_take (v := ?_) hOps rfl (Or.inl ⟨by kernel_rfl, ?_⟩) ?_
  rotate_left
  focus
    intro w9 hSw'
    (try dsimp only at hSw')
    have zK : ∀ {a9 : Addr} {u9 : Value}, w6.cell? a9 = some u9 → w9.cell? a9 = some u9 := fun {a9} {u9} h9 => (hSw'.cell (World.block_lt_of_cell? w6 a9 h9)).trans h9
    have z0 := zK u0
    have z1 := zK u1
    have z2 := zK u2
    clear zK hSw'
    go_simp
    (try with_reducible rfl)
  (try simp only [Act.put, List.getElem_toArray, List.getElem_cons_succ, List.getElem_cons_zero, List.setIfInBounds_toArray, List.set_cons_zero, List.set_cons_succ])
  refine wpSched_take (v := ?_) hOps rfl (Or.inl ⟨by kernel_rfl, ?_⟩) ?_
  rotate_left
  focus
    intro w9 hSw'
    (try dsimp only at hSw')
    have zK : ∀ {a9 : Addr} {u9 : Value}, w6.cell? a9 = some u9 → w9.cell? a9 = some u9 := fun {a9} {u9} h9 => (hSw'.cell (World.block_lt_of_cell? w6 a9 h9)).trans h9
    have z0 := zK u0
    have z1 := zK u1
    have z2 := zK u2
    clear zK hSw'
    go_simp
    (try with_reducible rfl)
  (try simp only [Act.put, List.getElem_toArray, List.getElem_cons_succ, List.getElem_cons_zero, List.setIfInBounds_toArray, List.set_cons_zero, List.set_cons_succ])
  refine wpSched_take (v := ?_) hOps rfl (Or.inl ⟨by kernel_rfl, ?_⟩) ?_
  rotate_left
  focus
    intro w9 hSw'
    (try dsimp only at hSw')
    have zK : ∀ {a9 : Addr} {u9 : Value}, w6.cell? a9 = some u9 → w9.cell? a9 = some u9 := fun {a9} {u9} h9 => (hSw'.cell (World.block_lt_of_cell? w6 a9 h9)).trans h9
    have z0 := zK u0
    have z1 := zK u1
    have z2 := zK u2
    clear zK hSw'
    go_simp
    (try with_reducible rfl)
  (try simp only [Act.put, List.getElem_toArray, List.getElem_cons_succ, List.getElem_cons_zero, List.setIfInBounds_toArray, List.set_cons_zero, List.set_cons_succ])
  refine wpSched_take (v := ?_) hOps rfl (Or.inl ⟨by kernel_rfl, ?_⟩) ?_
  rotate_left
  focus
    intro w9 hSw'
    (try dsimp only at hSw')
    have zK : ∀ {a9 : Addr} {u9 : Value}, w6.cell? a9 = some u9 → w9.cell? a9 = some u9 := fun {a9} {u9} h9 => (hSw'.cell (World.block_lt_of_cell? w6 a9 h9)).trans h9
    have z0 := zK u0
    have z1 := zK u1
    have z2 := zK u2
    clear zK hSw'
    go_simp
    (try with_reducible rfl)
  (try simp only [Act.put, List.getElem_toArray, List.getElem_cons_succ, List.getElem_cons_zero, List.setIfInBounds_toArray, List.set_cons_zero, List.set_cons_succ])
  refine wpSched_take (v := ?_) hOps rfl (Or.inl ⟨by kernel_rfl, ?_⟩) ?_
  rotate_left
  focus
    intro w9 hSw'
    (try dsimp only at hSw')
    have zK : ∀ {a9 : Addr} {u9 : Value}, w6.cell? a9 = some u9 → w9.cell? a9 = some u9 := fun {a9} {u9} h9 => (hSw'.cell (World.block_lt_of_cell? w6 a9 h9)).trans h9
    have z0 := zK u0
    have z1 := zK u1
    have z2 := zK u2
    clear zK hSw'
    go_simp
    (try with_reducible rfl)
  (try simp only [Act.put, List.getElem_toArray, List.getElem_cons_succ, List.getElem_cons_zero, List.setIfInBounds_toArray, List.set_cons_zero, List.set_cons_succ])
  refine wpSched_take (v := ?_) hOps rfl (Or.inl ⟨by kernel_rfl, ?_⟩) ?_
  rotate_left
  focus
    intro w9 hSw'
    (try dsimp only at hSw')
    have zK : ∀ {a9 : Addr} {u9 : Value}, w6.cell? a9 = some u9 → w9.cell? a9 = some u9 := fun {a9} {u9} h9 => (hSw'.cell (World.block_lt_of_cell? w6 a9 h9)).trans h9
    have z0 := zK u0
    have z1 := zK u1
    have z2 := zK u2
    clear zK hSw'
    go_simp
    (try with_reducible rfl)
  (try simp only [Act.put, List.getElem_toArray, List.getElem_cons_succ, List.getElem_cons_zero, List.setIfInBounds_toArray, List.set_cons_zero, List.set_cons_succ])
  refine wpSched_take (v := ?_) hOps rfl (Or.inl ⟨by kernel_rfl, ?_⟩) ?_
  rotate_left
  focus
    intro w9 hSw'
    (try dsimp only at hSw')
    have zK : ∀ {a9 : Addr} {u9 : Value}, w6.cell? a9 = some u9 → w9.cell? a9 = some u9 := fun {a9} {u9} h9 => (hSw'.cell (World.block_lt_of_cell? w6 a9 h9)).trans h9
    have z0 := zK u0
    have z1 := zK u1
    have z2 := zK u2
    clear zK hSw'
    go_simp
    (try with_reducible rfl)
  (try simp only [Act.put, List.getElem_toArray, List.getElem_cons_succ, List.getElem_cons_zero, List.setIfInBounds_toArray, List.set_cons_zero, List.set_cons_succ])
  refine wpSched_take (v := ?_) hOps rfl (Or.inl ⟨by kernel_rfl, ?_⟩) ?_
  rotate_left
  focus
    intro w9 hSw'
    (try dsimp only at hSw')
    have zK : ∀ {a9 : Addr} {u9 : Value}, w6.cell? a9 = some u9 → w9.cell? a9 = some u9 := fun {a9} {u9} h9 => (hSw'.cell (World.block_lt_of_cell? w6 a9 h9)).trans h9
    have z0 := zK u0
    have z1 := zK u1
    have z2 := zK u2
    clear zK hSw'
    go_simp
    (try with_reducible rfl)
  (try simp only [Act.put, List.getElem_toArray, List.getElem_cons_succ, List.getElem_cons_zero, List.setIfInBounds_toArray, List.set_cons_zero, List.set_cons_succ])
  refine wpSched_take (v := ?_) hOps rfl (Or.inl ⟨by kernel_rfl, ?_⟩) ?_
  rotate_left
  focus
    intro w9 hSw'
    (try dsimp only at hSw')
    have zK : ∀ {a9 : Addr} {u9 : Value}, w6.cell? a9 = some u9 → w9.cell? a9 = some u9 := fun {a9} {u9} h9 => (hSw'.cell (World.block_lt_of_cell? w6 a9 h9)).trans h9
    have z0 := zK u0
    have z1 := zK u1
    have z2 := zK u2
    clear zK hSw'
    go_simp
    (try with_reducible rfl)
  (try simp only [Act.put, List.getElem_toArray, List.getElem_cons_succ, List.getElem_cons_zero, List.setIfInBounds_toArray, List.set_cons_zero, List.set_cons_succ])
  refine wpSched_take (v := ?_) hOps rfl (Or.inl ⟨by kernel_rfl, ?_⟩) ?_
  rotate_left
  focus
    intro w9 hSw'
    (try dsimp only at hSw')
    have zK : ∀ {a9 : Addr} {u9 : Value}, w6.cell? a9 = some u9 → w9.cell? a9 = some u9 := fun {a9} {u9} h9 => (hSw'.cell (World.block_lt_of_cell? w6 a9 h9)).trans h9
    have z0 := zK u0
    have z1 := zK u1
    have z2 := zK u2
    clear zK hSw'
    go_simp
    (try with_reducible rfl)
  (try simp only [Act.put, List.getElem_toArray, List.getElem_cons_succ, List.getElem_cons_zero, List.setIfInBounds_toArray, List.set_cons_zero, List.set_cons_succ])
  refine wpSched_take (v := ?_) hOps rfl (Or.inl ⟨by kernel_rfl, ?_⟩) ?_
  rotate_left
  focus
    intro w9 hSw'
    (try dsimp only at hSw')
    have zK : ∀ {a9 : Addr} {u9 : Value}, w6.cell? a9 = some u9 → w9.cell? a9 = some u9 := fun {a9} {u9} h9 => (hSw'.cell (World.block_lt_of_cell? w6 a9 h9)).trans h9
    have z0 := zK u0
    have z1 := zK u1
    have z2 := zK u2
    clear zK hSw'
    go_simp
    (try with_reducible rfl)
  (try simp only [Act.put, List.getElem_toArray, List.getElem_cons_succ, List.getElem_cons_zero, List.setIfInBounds_toArray, List.set_cons_zero, List.set_cons_succ])
  refine wpSched_take (v := ?_) hOps rfl (Or.inl ⟨by kernel_rfl, ?_⟩) ?_
  rotate_left
  focus
    intro w9 hSw'
    (try dsimp only at hSw')
    have zK : ∀ {a9 : Addr} {u9 : Value}, w6.cell? a9 = some u9 → w9.cell? a9 = some u9 := fun {a9} {u9} h9 => (hSw'.cell (World.block_lt_of_cell? w6 a9 h9)).trans h9
    have z0 := zK u0
    have z1 := zK u1
    have z2 := zK u2
    clear zK hSw'
    go_simp
    (try with_reducible rfl)
  (try simp only [Act.put, List.getElem_toArray, List.getElem_cons_succ, List.getElem_cons_zero, List.setIfInBounds_toArray, List.set_cons_zero, List.set_cons_succ])
  refine wpSched_take (v := ?_) hOps rfl (Or.inl ⟨by kernel_rfl, ?_⟩) ?_
  rotate_left
  focus
    intro w9 hSw'
    (try dsimp only at hSw')
    have zK : ∀ {a9 : Addr} {u9 : Value}, w6.cell? a9 = some u9 → w9.cell? a9 = some u9 := fun {a9} {u9} h9 => (hSw'.cell (World.block_lt_of_cell? w6 a9 h9)).trans h9
    have z0 := zK u0
    have z1 := zK u1
    have z2 := zK u2
    clear zK hSw'
    go_simp
    (try with_reducible rfl)
  (try simp only [Act.put, List.getElem_toArray, List.getElem_cons_succ, List.getElem_cons_zero, List.setIfInBounds_toArray, List.set_cons_zero, List.set_cons_succ])
  refine wpSched_take (v := ?_) hOps rfl (Or.inl ⟨by kernel_rfl, ?_⟩) ?_
  rotate_left
  focus
    intro w9 hSw'
    (try dsimp only at hSw')
    have zK : ∀ {a9 : Addr} {u9 : Value}, w6.cell? a9 = some u9 → w9.cell? a9 = some u9 := fun {a9} {u9} h9 => (hSw'.cell (World.block_lt_of_cell? w6 a9 h9)).trans h9
    have z0 := zK u0
    have z1 := zK u1
    have z2 := zK u2
    clear zK hSw'
    go_simp
    (try with_reducible rfl)
  (try simp only [Act.put, List.getElem_toArray, List.getElem_cons_succ, List.getElem_cons_zero, List.setIfInBounds_toArray, List.set_cons_zero, List.set_cons_succ])
  refine wpSched_take (v := ?_) hOps rfl (Or.inl ⟨by kernel_rfl, ?_⟩) ?_
  rotate_left
  focus
    intro w9 hSw'
    (try dsimp only at hSw')
    have zK : ∀ {a9 : Addr} {u9 : Value}, w6.cell? a9 = some u9 → w9.cell? a9 = some u9 := fun {a9} {u9} h9 => (hSw'.cell (World.block_lt_of_cell? w6 a9 h9)).trans h9
    have z0 := zK u0
    have z1 := zK u1
    have z2 := zK u2
    clear zK hSw'
    go_simp
    (try with_reducible rfl)
  (try simp only [Act.put, List.getElem_toArray, List.getElem_cons_succ, List.getElem_cons_zero, List.setIfInBounds_toArray, List.set_cons_zero, List.set_cons_succ])
  refine wpSched_take (v := ?_) hOps rfl (Or.inl ⟨by kernel_rfl, ?_⟩) ?_
  rotate_left
  focus
    intro w9 hSw'
    (try dsimp only at hSw')
    have zK : ∀ {a9 : Addr} {u9 : Value}, w6.cell? a9 = some u9 → w9.cell? a9 = some u9 := fun {a9} {u9} h9 => (hSw'.cell (World.block_lt_of_cell? w6 a9 h9)).trans h9
    have z0 := zK u0
    have z1 := zK u1
    have z2 := zK u2
    clear zK hSw'
    go_simp
    (try with_reducible rfl)
  (try simp only [Act.put, List.getElem_toArray, List.getElem_cons_succ, List.getElem_cons_zero, List.setIfInBounds_toArray, List.set_cons_zero, List.set_cons_succ])
  refine wpSched_take (v := ?_) hOps rfl (Or.inl ⟨by kernel_rfl, ?_⟩) ?_
  rotate_left
  focus
    intro w9 hSw'
    (try dsimp only at hSw')
    have zK : ∀ {a9 : Addr} {u9 : Value}, w6.cell? a9 = some u9 → w9.cell? a9 = some u9 := fun {a9} {u9} h9 => (hSw'.cell (World.block_lt_of_cell? w6 a9 h9)).trans h9
    have z0 := zK u0
    have z1 := zK u1
    have z2 := zK u2
    clear zK hSw'
    go_simp
    (try with_reducible rfl)
  (try simp only [Act.put, List.getElem_toArray, List.getElem_cons_succ, List.getElem_cons_zero, List.setIfInBounds_toArray, List.set_cons_zero, List.set_cons_succ])
  refine wpSched_take (v := ?_) hOps rfl (Or.inl ⟨by kernel_rfl, ?_⟩) ?_
  rotate_left
  focus
    intro w9 hSw'
    (try dsimp only at hSw')
    have zK : ∀ {a9 : Addr} {u9 : Value}, w6.cell? a9 = some u9 → w9.cell? a9 = some u9 := fun {a9} {u9} h9 => (hSw'.cell (World.block_lt_of_cell? w6 a9 h9)).trans h9
    have z0 := zK u0
    have z1 := zK u1
    have z2 := zK u2
    clear zK hSw'
    go_simp
    (try with_reducible rfl)
  (try simp only [Act.put, List.getElem_toArray, List.getElem_cons_succ, List.getElem_cons_zero, List.setIfInBounds_toArray, List.set_cons_zero, List.set_cons_succ])
  refine wpSched_take (v := ?_) hOps rfl (Or.inl ⟨by kernel_rfl, ?_⟩) ?_
  rotate_left
  focus
    intro w9 hSw'
    (try dsimp only at hSw')
    have zK : ∀ {a9 : Addr} {u9 : Value}, w6.cell? a9 = some u9 → w9.cell? a9 = some u9 := fun {a9} {u9} h9 => (hSw'.cell (World.block_lt_of_cell? w6 a9 h9)).trans h9
    have z0 := zK u0
    have z1 := zK u1
    have z2 := zK u2
    clear zK hSw'
    go_simp
    (try with_reducible rfl)
  (try simp only [Act.put, List.getElem_toArray, List.getElem_cons_succ, List.getElem_cons_zero, List.setIfInBounds_toArray, List.set_cons_zero, List.set_cons_succ])
  refine wpSched_take (v := ?_) hOps rfl (Or.inl ⟨by kernel_rfl, ?_⟩) ?_
  rotate_left
  focus
    intro w9 hSw'
    (try dsimp only at hSw')
    have zK : ∀ {a9 : Addr} {u9 : Value}, w6.cell? a9 = some u9 → w9.cell? a9 = some u9 := fun {a9} {u9} h9 => (hSw'.cell (World.block_lt_of_cell? w6 a9 h9)).trans h9
    have z0 := zK u0
    have z1 := zK u1
    have z2 := zK u2
    clear zK hSw'
    go_simp
    (try with_reducible rfl)
  (try simp only [Act.put, List.getElem_toArray, List.getElem_cons_succ, List.getElem_cons_zero, List.setIfInBounds_toArray, List.set_cons_zero, List.set_cons_succ])
  refine wpSched_take (v := ?_) hOps rfl (Or.inl ⟨by kernel_rfl, ?_⟩) ?_
  rotate_left
  focus
    intro w9 hSw'
    (try dsimp only at hSw')
    have zK : ∀ {a9 : Addr} {u9 : Value}, w6.cell? a9 = some u9 → w9.cell? a9 = some u9 := fun {a9} {u9} h9 => (hSw'.cell (World.block_lt_of_cell? w6 a9 h9)).trans h9
    have z0 := zK u0
    have z1 := zK u1
    have z2 := zK u2
    clear zK hSw'
    go_simp
    (try with_reducible rfl)
  (try simp only [Act.put, List.getElem_toArray, List.getElem_cons_succ, List.getElem_cons_zero, List.setIfInBounds_toArray, List.set_cons_zero, List.set_cons_succ])
  refine wpSched_take (v := ?_) hOps rfl (Or.inl ⟨by kernel_rfl, ?_⟩) ?_
  rotate_left
  focus
    intro w9 hSw'
    (try dsimp only at hSw')
    have zr := G8.out w9 hSw'
    clear hSw'
    go_simp
    (try with_reducible rfl)
  (try simp only [Act.put, List.getElem_toArray, List.getElem_cons_succ, List.getElem_cons_zero, List.setIfInBounds_toArray, List.set_cons_zero, List.set_cons_succ])
  refine wpSched_take (v := ?_) hOps rfl (Or.inl ⟨by kernel_rfl, ?_⟩) ?_
  rotate_left
  focus
    intro w9 hSw'
    (try dsimp only at hSw')
    have zK : ∀ {a9 : Addr} {u9 : Value}, w6.cell? a9 = some u9 → w9.cell? a9 = some u9 := fun {a9} {u9} h9 => (hSw'.cell (World.block_lt_of_cell? w6 a9 h9)).trans h9
    have z0 := zK u0
    have z1 := zK u1
    have z2 := zK u2
    have z3 := zK u3
    have z4 := zK u4
    have z5 := zK t0
    have z6 := zK t1
    have z7 := zK t2
    have z8 := zK t3
    have z9 := zK t4
    clear zK hSw'
    go_simp
    (try with_reducible rfl)
  (try simp only [Act.put, List.getElem_toArray, List.getElem_cons_succ, List.getElem_cons_zero, List.setIfInBounds_toArray, List.set_cons_zero, List.set_cons_succ])
  refine wpSched_take (v := ?_) hOps rfl (Or.inl ⟨by kernel_rfl, ?_⟩) ?_
  rotate_left
  focus
    intro w9 hSw'
    (try dsimp only at hSw')
    have zK : ∀ {a9 : Addr} {u9 : Value}, w6.cell? a9 = some u9 → w9.cell? a9 = some u9 := fun {a9} {u9} h9 => (hSw'.cell (World.block_lt_of_cell? w6 a9 h9)).trans h9
    have z0 := zK u0
    have z1 := zK u1
    have z2 := zK u2
    have z3 := zK u3
    have z4 := zK u4
    have z5 := zK t0
    have z6 := zK t1
    have z7 := zK t2
    have z8 := zK t3
    have z9 := zK t4
    clear zK hSw'
    go_simp
    (try with_reducible rfl)
  (try simp only [Act.put, List.getElem_toArray, List.getElem_cons_succ, List.getElem_cons_zero, List.setIfInBounds_toArray, List.set_cons_zero, List.set_cons_succ])
  refine wpSched_take (v := ?_) hOps rfl (Or.inl ⟨by kernel_rfl, ?_⟩) ?_
  rotate_left
  focus
    intro w9 hSw'
    (try dsimp only at hSw')
    have zK : ∀ {a9 : Addr} {u9 : Value}, w6.cell? a9 = some u9 → w9.cell? a9 = some u9 := fun {a9} {u9} h9 => (hSw'.cell (World.block_lt_of_cell? w6 a9 h9)).trans h9
    have z0 := zK u0
    have z1 := zK u1
    have z2 := zK u2
    have z3 := zK u3
    have z4 := zK u4
    have z5 := zK t0
    have z6 := zK t1
    have z7 := zK t2
    have z8 := zK t3
    have z9 := zK t4
    clear zK hSw'
    go_simp
    (try with_reducible rfl)
  (try simp only [Act.put, List.getElem_toArray, List.getElem_cons_succ, List.getElem_cons_zero, List.setIfInBounds_toArray, List.set_cons_zero, List.set_cons_succ])
  refine wpSched_take (v := ?_) hOps rfl (Or.inl ⟨by kernel_rfl, ?_⟩) ?_
  rotate_left
  focus
    intro w9 hSw'
    (try dsimp only at hSw')
    have zK : ∀ {a9 : Addr} {u9 : Value}, w6.cell? a9 = some u9 → w9.cell? a9 = some u9 := fun {a9} {u9} h9 => (hSw'.cell (World.block_lt_of_cell? w6 a9 h9)).trans h9
    have z0 := zK u0
    have z1 := zK u1
    have z2 := zK u2
    have z3 := zK u3
    have z4 := zK u4
    have z5 := zK t0
    have z6 := zK t1
    have z7 := zK t2
    have z8 := zK t3
    have z9 := zK t4
    clear zK hSw'
    go_simp
    (try with_reducible rfl)
  (try simp only [Act.put, List.getElem_toArray, List.getElem_cons_succ, List.getElem_cons_zero, List.setIfInBounds_toArray, List.set_cons_zero, List.set_cons_succ])
  refine wpSched_take (v := ?_) hOps rfl (Or.inl ⟨by kernel_rfl, ?_⟩) ?_
  rotate_left
  focus
    intro w9 hSw'
    (try dsimp only at hSw')
    have zK : ∀ {a9 : Addr} {u9 : Value}, w6.cell? a9 = some u9 → w9.cell? a9 = some u9 := fun {a9} {u9} h9 => (hSw'.cell (World.block_lt_of_cell? w6 a9 h9)).trans h9
    have z0 := zK u0
    have z1 := zK u1
    have z2 := zK u2
    have z3 := zK u3
    have z4 := zK u4
    have z5 := zK t0
    have z6 := zK t1
    have z7 := zK t2
    have z8 := zK t3
    have z9 := zK t4
    clear zK hSw'
    go_simp
    (try with_reducible rfl)
  (try simp only [Act.put, List.getElem_toArray, List.getElem_cons_succ, List.getElem_cons_zero, List.setIfInBounds_toArray, List.set_cons_zero, List.set_cons_succ])
  refine wpSched_take (v := ?_) hOps rfl (Or.inl ⟨by kernel_rfl, ?_⟩) ?_
  rotate_left
  focus
    intro w9 hSw'
    (try dsimp only at hSw')
    have zK : ∀ {a9 : Addr} {u9 : Value}, w6.cell? a9 = some u9 → w9.cell? a9 = some u9 := fun {a9} {u9} h9 => (hSw'.cell (World.block_lt_of_cell? w6 a9 h9)).trans h9
    have z0 := zK u0
    have z1 := zK u1
    have z2 := zK u2
    have z3 := zK u3
    have z4 := zK u4
    have z5 := zK t0
    have z6 := zK t1
    have z7 := zK t2
    have z8 := zK t3
    have z9 := zK t4
    clear zK hSw'
    go_simp
    (try with_reducible rfl)
  (try simp only [Act.put, List.getElem_toArray, List.getElem_cons_succ, List.getElem_cons_zero, List.setIfInBounds_toArray, List.set_cons_zero, List.set_cons_succ])
  refine wpSched_take (v := ?_) hOps rfl (Or.inl ⟨by kernel_rfl, ?_⟩) ?_
  rotate_left
  focus
    intro w9 hSw'
    (try dsimp only at hSw')
    have zK : ∀ {a9 : Addr} {u9 : Value}, w6.cell? a9 = some u9 → w9.cell? a9 = some u9 := fun {a9} {u9} h9 => (hSw'.cell (World.block_lt_of_cell? w6 a9 h9)).trans h9
    have z0 := zK u0
    have z1 := zK u1
    have z2 := zK u2
    have z3 := zK u3
    have z4 := zK u4
    have z5 := zK t0
    have z6 := zK t1
    have z7 := zK t2
    have z8 := zK t3
    have z9 := zK t4
    clear zK hSw'
    go_simp
    (try with_reducible rfl)
  (try simp only [Act.put, List.getElem_toArray, List.getElem_cons_succ, List.getElem_cons_zero, List.setIfInBounds_toArray, List.set_cons_zero, List.set_cons_succ])
  refine wpSched_take (v := ?_) hOps rfl (Or.inl ⟨by kernel_rfl, ?_⟩) ?_
  rotate_left
  focus
    intro w9 hSw'
    (try dsimp only at hSw')
    have zK : ∀ {a9 : Addr} {u9 : Value}, w6.cell? a9 = some u9 → w9.cell? a9 = some u9 := fun {a9} {u9} h9 => (hSw'.cell (World.block_lt_of_cell? w6 a9 h9)).trans h9
    have z0 := zK u0
    have z1 := zK u1
    have z2 := zK u2
    have z3 := zK u3
    have z4 := zK u4
    have z5 := zK t0
    have z6 := zK t1
    have z7 := zK t2
    have z8 := zK t3
    have z9 := zK t4
    clear zK hSw'
    go_simp
    (try with_reducible rfl)
  (try simp only [Act.put, List.getElem_toArray, List.getElem_cons_succ, List.getElem_cons_zero, List.setIfInBounds_toArray, List.set_cons_zero, List.set_cons_succ])
  refine wpSched_take (v := ?_) hOps rfl (Or.inl ⟨by kernel_rfl, ?_⟩) ?_
  rotate_left
  focus
    intro w9 hSw'
    (try dsimp only at hSw')
    have zK : ∀ {a9 : Addr} {u9 : Value}, w6.cell? a9 = some u9 → w9.cell? a9 = some u9 := fun {a9} {u9} h9 => (hSw'.cell (World.block_lt_of_cell? w6 a9 h9)).trans h9
    have z0 := zK u0
    have z1 := zK u1
    have z2 := zK u2
    have z3 := zK u3
    have z4 := zK u4
    have z5 := zK t0
    have z6 := zK t1
    have z7 := zK t2
    have z8 := zK t3
    have z9 := zK t4
    clear zK hSw'
    go_simp
    (try with_reducible rfl)
  (try simp only [Act.put, List.getElem_toArray, List.getElem_cons_succ, List.getElem_cons_zero, List.setIfInBounds_toArray, List.set_cons_zero, List.set_cons_succ])
  refine wpSched_take (v := ?_) hOps rfl (Or.inl ⟨by kernel_rfl, ?_⟩) ?_
  rotate_left
  focus
    intro w9 hSw'
    (try dsimp only at hSw')
    have zK : ∀ {a9 : Addr} {u9 : Value}, w6.cell? a9 = some u9 → w9.cell? a9 = some u9 := fun {a9} {u9} h9 => (hSw'.cell (World.block_lt_of_cell? w6 a9 h9)).trans h9
    have z0 := zK u0
    have z1 := zK u1
    have z2 := zK u2
    have z3 := zK u3
    have z4 := zK u4
    have z5 := zK t0
    have z6 := zK t1
    have z7 := zK t2
    have z8 := zK t3
    have z9 := zK t4
    clear zK hSw'
    go_simp
    (try with_reducible rfl)
  (try simp only [Act.put, List.getElem_toArray, List.getElem_cons_succ, List.getElem_cons_zero, List.setIfInBounds_toArray, List.set_cons_zero, List.set_cons_succ])
  refine wpSched_take (v := ?_) hOps rfl (Or.inl ⟨by kernel_rfl, ?_⟩) ?_
  rotate_left
  focus
    intro w9 hSw'
    (try dsimp only at hSw')
    have zK : ∀ {a9 : Addr} {u9 : Value}, w6.cell? a9 = some u9 → w9.cell? a9 = some u9 := fun {a9} {u9} h9 => (hSw'.cell (World.block_lt_of_cell? w6 a9 h9)).trans h9
    have z0 := zK u0
    have z1 := zK u1
    have z2 := zK u2
    have z3 := zK u3
    have z4 := zK u4
    have z5 := zK t0
    have z6 := zK t1
    have z7 := zK t2
    have z8 := zK t3
    have z9 := zK t4
    clear zK hSw'
    go_simp
    (try with_reducible rfl)
  (try simp only [Act.put, List.getElem_toArray, List.getElem_cons_succ, List.getElem_cons_zero, List.setIfInBounds_toArray, List.set_cons_zero, List.set_cons_succ])
  refine wpSched_take (v := ?_) hOps rfl (Or.inl ⟨by kernel_rfl, ?_⟩) ?_
  rotate_left
  focus
    intro w9 hSw'
    (try dsimp only at hSw')
    have zK : ∀ {a9 : Addr} {u9 : Value}, w6.cell? a9 = some u9 → w9.cell? a9 = some u9 := fun {a9} {u9} h9 => (hSw'.cell (World.block_lt_of_cell? w6 a9 h9)).trans h9
    have z0 := zK u0
    have z1 := zK u1
    have z2 := zK u2
    have z3 := zK u3
    have z4 := zK u4
    have z5 := zK t0
    have z6 := zK t1
    have z7 := zK t2
    have z8 := zK t3
    have z9 := zK t4
    clear zK hSw'
    go_simp
    (try with_reducible rfl)
  (try simp only [Act.put, List.getElem_toArray, List.getElem_cons_succ, List.getElem_cons_zero, List.setIfInBounds_toArray, List.set_cons_zero, List.set_cons_succ])
  refine wpSched_take (v := ?_) hOps rfl (Or.inl ⟨by kernel_rfl, ?_⟩) ?_
  rotate_left
  focus
    intro w9 hSw'
    (try dsimp only at hSw')
    have zK : ∀ {a9 : Addr} {u9 : Value}, w6.cell? a9 = some u9 → w9.cell? a9 = some u9 := fun {a9} {u9} h9 => (hSw'.cell (World.block_lt_of_cell? w6 a9 h9)).trans h9
    have z0 := zK u0
    have z1 := zK u1
    have z2 := zK u2
    have z3 := zK u3
    have z4 := zK u4
    have z5 := zK t0
    have z6 := zK t1
    have z7 := zK t2
    have z8 := zK t3
    have z9 := zK t4
    clear zK hSw'
    go_simp
    (try with_reducible rfl)
  (try simp only [Act.put, List.getElem_toArray, List.getElem_cons_succ, List.getElem_cons_zero, List.setIfInBounds_toArray, List.set_cons_zero, List.set_cons_succ])
  refine wpSched_take (v := ?_) hOps rfl (Or.inl ⟨by kernel_rfl, ?_⟩) ?_
  rotate_left
  focus
    intro w9 hSw'
    (try dsimp only at hSw')
    have zK : ∀ {a9 : Addr} {u9 : Value}, w6.cell? a9 = some u9 → w9.cell? a9 = some u9 := fun {a9} {u9} h9 => (hSw'.cell (World.block_lt_of_cell? w6 a9 h9)).trans h9
    have z0 := zK u0
    have z1 := zK u1
    have z2 := zK u2
    have z3 := zK u3
    have z4 := zK u4
    have z5 := zK t0
    have z6 := zK t1
    have z7 := zK t2
    have z8 := zK t3
    have z9 := zK t4
    clear zK hSw'
    go_simp
    (try with_reducible rfl)
  (try simp only [Act.put, List.getElem_toArray, List.getElem_cons_succ, List.getElem_cons_zero, List.setIfInBounds_toArray, List.set_cons_zero, List.set_cons_succ])
  refine wpSched_take (v := ?_) hOps rfl (Or.inl ⟨by kernel_rfl, ?_⟩) ?_
  rotate_left
  focus
    intro w9 hSw'
    (try dsimp only at hSw')
    have zK : ∀ {a9 : Addr} {u9 : Value}, w6.cell? a9 = some u9 → w9.cell? a9 = some u9 := fun {a9} {u9} h9 => (hSw'.cell (World.block_lt_of_cell? w6 a9 h9)).trans h9
    have z0 := zK u0
    have z1 := zK u1
    have z2 := zK u2
    have z3 := zK u3
    have z4 := zK u4
    have z5 := zK t0
    have z6 := zK t1
    have z7 := zK t2
    have z8 := zK t3
    have z9 := zK t4
    clear zK hSw'
    go_simp
    (try with_reducible rfl)
  (try simp only [Act.put, List.getElem_toArray, List.getElem_cons_succ, List.getElem_cons_zero, List.setIfInBounds_toArray, List.set_cons_zero, List.set_cons_succ])
  refine wpSched_step hOps rfl (fun K hK => ?_)
  go_simp
  go_at_call 37
  with_reducible refine (kSamePg w6.drew A5 Aj c5 cj (RdI.below rB (Below.refl _ _).drew (Nat.le_refl _)) (RdI.below rA (Below.refl _ _).drew (Nat.le_refl _))).mono ?_
  rintro e w7 ⟨rfl, hb7⟩
  have H7 := below_then (Below.refl w6.heap.size w6).drew hb7
  refine hK.out _ _ ?_ (fun hHeld => ?_)
  focus exact H7
  clear hK K
  (try simp only [Act.put, List.getElem_toArray, List.getElem_cons_succ, List.getElem_cons_zero, List.setIfInBounds_toArray, List.set_cons_zero, List.set_cons_succ])
  refine wpSched_take (v := ?_) hOps rfl (Or.inl ⟨by kernel_rfl, ?_⟩) ?_
  rotate_left
  focus
    intro w9 hSw'
    (try dsimp only at hSw')
    have zK : ∀ {a9 : Addr} {u9 : Value}, w6.cell? a9 = some u9 → w9.cell? a9 = some u9 := fun {a9} {u9} h9 => (hSw'.cell (World.block_lt_of_cell? w6 a9 h9)).trans h9
    have z0 := zK p0
    have z1 := zK p1
    have z2 := zK p2
    have z3 := zK p3
    have z4 := zK p4
    have z5 := zK p5
    clear zK hSw'
    go_simp
    (try with_reducible rfl)
  (try simp only [Act.put, List.getElem_toArray, List.getElem_cons_succ, List.getElem_cons_zero, List.setIfInBounds_toArray, List.set_cons_zero, List.set_cons_succ])
  refine wpSched_take (v := ?_) hOps rfl (Or.inl ⟨by kernel_rfl, ?_⟩) ?_
  rotate_left
  focus
    intro w9 hSw'
    (try dsimp only at hSw')
    have zK : ∀ {a9 : Addr} {u9 : Value}, w6.cell? a9 = some u9 → w9.cell? a9 = some u9 := fun {a9} {u9} h9 => (hSw'.cell (World.block_lt_of_cell? w6 a9 h9)).trans h9
    have z0 := zK p0
    have z1 := zK p1
    have z2 := zK p2
    have z3 := zK p3
    have z4 := zK p4
    have z5 := zK p5
    clear zK hSw'
    go_simp
    (try with_reducible rfl)
  (try simp only [Act.put, List.getElem_toArray, List.getElem_cons_succ, List.getElem_cons_zero, List.setIfInBounds_toArray, List.set_cons_zero, List.set_cons_succ])
  refine wpSched_take (v := ?_) hOps rfl (Or.inl ⟨by kernel_rfl, ?_⟩) ?_
  rotate_left
  focus
    intro w9 hSw'
    (try dsimp only at hSw')
    have zK : ∀ {a9 : Addr} {u9 : Value}, w6.cell? a9 = some u9 → w9.cell? a9 = some u9 := fun {a9} {u9} h9 => (hSw'.cell (World.block_lt_of_cell? w6 a9 h9)).trans h9
    have z0 := zK p0
    have z1 := zK p1
    have z2 := zK p2
    have z3 := zK p3
    have z4 := zK p4
    have z5 := zK p5
    clear zK hSw'
    go_simp
    (try with_reducible rfl)
  (try simp only [Act.put, List.getElem_toArray, List.getElem_cons_succ, List.getElem_cons_zero, List.setIfInBounds_toArray, List.set_cons_zero, List.set_cons_succ])
  refine wpSched_take (v := ?_) hOps rfl (Or.inl ⟨by kernel_rfl, ?_⟩) ?_
  rotate_left
  focus
    intro w9 hSw'
    (try dsimp only at hSw')
    have zK : ∀ {a9 : Addr} {u9 : Value}, w6.cell? a9 = some u9 → w9.cell? a9 = some u9 := fun {a9} {u9} h9 => (hSw'.cell (World.block_lt_of_cell? w6 a9 h9)).trans h9
    have z0 := zK p0
    have z1 := zK p1
    have z2 := zK p2
    have z3 := zK p3
    have z4 := zK p4
    have z5 := zK p5
    clear zK hSw'
    go_simp
    (try with_reducible rfl)
  (try simp only [Act.put, List.getElem_toArray, List.getElem_cons_succ, List.getElem_cons_zero, List.setIfInBounds_toArray, List.set_cons_zero, List.set_cons_succ])
  refine wpSched_step hOps rfl (fun K hK => ?_)
  go_simp
  have HP7 : PkR w7 (· < wp.heap.size) [.int .i64 1, .int .i64 258, .int .i64 0, .bool true, .bool false, .slice (some ⟨w.heap.size, 0, none⟩) 1 1] kp := PkR.good.keep HPk7.out (Mod.of_fresh H7) (fun _ _ _ h => h)
  refine hK.out _ _ ?_ (fun hHeld => ?_)
  focus exact (below_then H7 (below_alloc (Below.refl w7.heap.size w7) _))
  clear hK K
  (try simp only [Act.put, List.getElem_toArray, List.getElem_cons_succ, List.getElem_cons_zero, List.setIfInBounds_toArray, List.set_cons_zero, List.set_cons_succ])
  have hA := hHeld
  refine wpSched_step hOps rfl (fun K hK => ?_)
  go_simp
  go_at_call 27
  with_reducible refine (kSamePks _ c6 1 (RdG.below PkR.good hp6 hA) (RdG.one_ PkR.good w7 HP7 25)).mono ?_
  rintro e w8 ⟨rfl, hb8⟩
  have H8 := below_then hA hb8
  have hj8 := hj6.below H8
  refine hK.out _ _ ?_ (fun hHeld => ?_)
  focus exact H8
  clear hK K
  (try simp only [Act.put, List.getElem_toArray, List.getElem_cons_succ, List.getElem_cons_zero, List.setIfInBounds_toArray, List.set_cons_zero, List.set_cons_succ])
  refine wpSched_take (v := ?_) hOps rfl (Or.inl ⟨by kernel_rfl, ?_⟩) ?_
  rotate_left
  focus
    intro w9 hSw'
    (try dsimp only at hSw')
    have zK : ∀ {a9 : Addr} {u9 : Value}, w6.cell? a9 = some u9 → w9.cell? a9 = some u9 := fun {a9} {u9} h9 => (hSw'.cell (World.block_lt_of_cell? w6 a9 h9)).trans h9
    have z0 := zK u0
    clear zK hSw'
    go_simp
    (try with_reducible rfl)
  (try simp only [Act.put, List.getElem_toArray, List.getElem_cons_succ, List.getElem_cons_zero, List.setIfInBounds_toArray, List.set_cons_zero, List.set_cons_succ])
  refine wpSched_take (v := ?_) hOps rfl (Or.inl ⟨by kernel_rfl, ?_⟩) ?_
  rotate_left
  focus
    intro w9 hSw'
    (try dsimp only at hSw')
    have zK : ∀ {a9 : Addr} {u9 : Value}, w6.cell? a9 = some u9 → w9.cell? a9 = some u9 := fun {a9} {u9} h9 => (hSw'.cell (World.block_lt_of_cell? w6 a9 h9)).trans h9
    have z0 := zK u0
    clear zK hSw'
    go_simp
    (try with_reducible rfl)
  (try simp only [Act.put, List.getElem_toArray, List.getElem_cons_succ, List.getElem_cons_zero, List.setIfInBounds_toArray, List.set_cons_zero, List.set_cons_succ])
  refine wpSched_take (v := ?_) hOps rfl (Or.inl ⟨by kernel_rfl, ?_⟩) ?_
  rotate_left
  focus
    intro w9 hSw'
    (try dsimp only at hSw')
    have zK : ∀ {a9 : Addr} {u9 : Value}, w6.cell? a9 = some u9 → w9.cell? a9 = some u9 := fun {a9} {u9} h9 => (hSw'.cell (World.block_lt_of_cell? w6 a9 h9)).trans h9
    have z0 := zK u0
    clear zK hSw'
    go_simp
    (try with_reducible rfl)
  (try simp only [Act.put, List.getElem_toArray, List.getElem_cons_succ, List.getElem_cons_zero, List.setIfInBounds_toArray, List.set_cons_zero, List.set_cons_succ])
  refine wpSched_take (v := ?_) hOps rfl (Or.inl ⟨by kernel_rfl, ?_⟩) ?_
  rotate_left
  focus
    intro w9 hSw'
    (try dsimp only at hSw')
    have zK : ∀ {a9 : Addr} {u9 : Value}, w6.cell? a9 = some u9 → w9.cell? a9 = some u9 := fun {a9} {u9} h9 => (hSw'.cell (World.block_lt_of_cell? w6 a9 h9)).trans h9
    have z0 := zK u0
    clear zK hSw'
    go_simp
    (try with_reducible rfl)
  (try simp only [Act.put, List.getElem_toArray, List.getElem_cons_succ, List.getElem_cons_zero, List.setIfInBounds_toArray, List.set_cons_zero, List.set_cons_succ])
  refine wpSched_take (v := ?_) hOps rfl (Or.inl ⟨by kernel_rfl, ?_⟩) ?_
  rotate_left
  focus
    intro w9 hSw'
    (try dsimp only at hSw')
    have zK : ∀ {a9 : Addr} {u9 : Value}, w6.cell? a9 = some u9 → w9.cell? a9 = some u9 := fun {a9} {u9} h9 => (hSw'.cell (World.block_lt_of_cell? w6 a9 h9)).trans h9
    have z0 := zK u0
    clear zK hSw'
    go_simp
    (try with_reducible rfl)
  (try simp only [Act.put, List.getElem_toArray, List.getElem_cons_succ, List.getElem_cons_zero, List.setIfInBounds_toArray, List.set_cons_zero, List.set_cons_succ])
  refine wpSched_take (v := ?_) hOps rfl (Or.inl ⟨by kernel_rfl, ?_⟩) ?_
  rotate_left
  focus
    intro w9 hSw'
    (try dsimp only at hSw')
    have zK : ∀ {a9 : Addr} {u9 : Value}, w6.cell? a9 = some u9 → w9.cell? a9 = some u9 := fun {a9} {u9} h9 => (hSw'.cell (World.block_lt_of_cell? w6 a9 h9)).trans h9
    have z0 := zK u0
    clear zK hSw'
    go_simp
    (try with_reducible rfl)
  (try simp only [Act.put, List.getElem_toArray, List.getElem_cons_succ, List.getElem_cons_zero, List.setIfInBounds_toArray, List.set_cons_zero, List.set_cons_succ])
  refine wpSched_take (v := ?_) hOps rfl (Or.inl ⟨by kernel_rfl, ?_⟩) ?_
  rotate_left
  focus
    intro w9 hSw'
    (try dsimp only at hSw')
    have zK : ∀ {a9 : Addr} {u9 : Value}, w6.cell? a9 = some u9 → w9.cell? a9 = some u9 := fun {a9} {u9} h9 => (hSw'.cell (World.block_lt_of_cell? w6 a9 h9)).trans h9
    have z0 := zK u0
    clear zK hSw'
    go_simp
    (try with_reducible rfl)
  (try simp only [Act.put, List.getElem_toArray, List.getElem_cons_succ, List.getElem_cons_zero, List.setIfInBounds_toArray, List.set_cons_zero, List.set_cons_succ])
  refine wpSched_take (v := ?_) hOps rfl (Or.inl ⟨by kernel_rfl, ?_⟩) ?_
  rotate_left
  focus
    intro w9 hSw'
    (try dsimp only at hSw')
    have zK : ∀ {a9 : Addr} {u9 : Value}, w6.cell? a9 = some u9 → w9.cell? a9 = some u9 := fun {a9} {u9} h9 => (hSw'.cell (World.block_lt_of_cell? w6 a9 h9)).trans h9
    have z0 := zK u0
    clear zK hSw'
    go_simp
    (try with_reducible rfl)
  (try simp only [Act.put, List.getElem_toArray, List.getElem_cons_succ, List.getElem_cons_zero, List.setIfInBounds_toArray, List.set_cons_zero, List.set_cons_succ])
  refine wpSched_step hOps rfl (fun K hK => ?_)
  go_simp
  go_at_call 38
  with_reducible refine (jnext_any hj8).mono ?_
  rintro e w9 ⟨rfl, rfl⟩
  refine hK.out _ _ ?_ (fun hHeld => ?_)
  focus exact H8
  clear hK K
  (try simp only [Act.put, List.getElem_toArray, List.getElem_cons_succ, List.getElem_cons_zero, List.setIfInBounds_toArray, List.set_cons_zero, List.set_cons_succ])
  refine wpSched_take (v := ?_) hOps rfl (Or.inl ⟨by kernel_rfl, ?_⟩) ?_
  rotate_left
  focus
    intro w9 hSw'
    (try dsimp only at hSw')
    have zK : ∀ {a9 : Addr} {u9 : Value}, w6.cell? a9 = some u9 → w9.cell? a9 = some u9 := fun {a9} {u9} h9 => (hSw'.cell (World.block_lt_of_cell? w6 a9 h9)).trans h9
    have z0 := zK u0
    clear zK hSw'
    go_simp
    (try with_reducible rfl)
  (try simp only [Act.put, List.getElem_toArray, List.getElem_cons_succ, List.getElem_cons_zero, List.setIfInBounds_toArray, List.set_cons_zero, List.set_cons_succ])
  refine wpSched_take (v := ?_) hOps rfl (Or.inl ⟨by kernel_rfl, ?_⟩) ?_
  rotate_left
  focus
    intro w9 hSw'
    (try dsimp only at hSw')
    have zK : ∀ {a9 : Addr} {u9 : Value}, w6.cell? a9 = some u9 → w9.cell? a9 = some u9 := fun {a9} {u9} h9 => (hSw'.cell (World.block_lt_of_cell? w6 a9 h9)).trans h9
    have z0 := zK u0
    clear zK hSw'
    go_simp
    (try with_reducible rfl)
  (try simp only [Act.put, List.getElem_toArray, List.getElem_cons_succ, List.getElem_cons_zero, List.setIfInBounds_toArray, List.set_cons_zero, List.set_cons_succ])
  refine wpSched_take (v := ?_) hOps rfl (Or.inl ⟨by kernel_rfl, ?_⟩) ?_
  rotate_left
  focus
    intro w9 hSw'
    (try dsimp only at hSw')
    have zK : ∀ {a9 : Addr} {u9 : Value}, w6.cell? a9 = some u9 → w9.cell? a9 = some u9 := fun {a9} {u9} h9 => (hSw'.cell (World.block_lt_of_cell? w6 a9 h9)).trans h9
    have z0 := zK u0
    clear zK hSw'
    go_simp
    (try with_reducible rfl)
  (try simp only [Act.put, List.getElem_toArray, List.getElem_cons_succ, List.getElem_cons_zero, List.setIfInBounds_toArray, List.set_cons_zero, List.set_cons_succ])
  refine wpSched_take (v := ?_) hOps rfl (Or.inl ⟨by kernel_rfl, ?_⟩) ?_
  rotate_left
  focus
    intro w9 hSw'
    (try dsimp only at hSw')
    have zK : ∀ {a9 : Addr} {u9 : Value}, w6.cell? a9 = some u9 → w9.cell? a9 = some u9 := fun {a9} {u9} h9 => (hSw'.cell (World.block_lt_of_cell? w6 a9 h9)).trans h9
    have z0 := zK u0
    clear zK hSw'
    go_simp
    (try with_reducible rfl)
  (try simp only [Act.put, List.getElem_toArray, List.getElem_cons_succ, List.getElem_cons_zero, List.setIfInBounds_toArray, List.set_cons_zero, List.set_cons_succ])
  refine wpSched_step hOps rfl (fun K hK => ?_)
  go_simp
  go_at_call 39
  with_reducible refine (jbroken_any hj8).mono ?_
  rintro e w9 ⟨rfl, rfl⟩
  refine hK.out _ _ ?_ (fun hHeld => ?_)
  focus exact H8
  clear hK K
  (try simp only [Act.put, List.getElem_toArray, List.getElem_cons_succ, List.getElem_cons_zero, List.setIfInBounds_toArray, List.set_cons_zero, List.set_cons_succ])
  refine wpSched_take (v := ?_) hOps rfl (Or.inl ⟨by kernel_rfl, ?_⟩) ?_
  rotate_left
  focus
    intro w9 hSw'
    (try dsimp only at hSw')
    have zK : ∀ {a9 : Addr} {u9 : Value}, w6.cell? a9 = some u9 → w9.cell? a9 = some u9 := fun {a9} {u9} h9 => (hSw'.cell (World.block_lt_of_cell? w6 a9 h9)).trans h9
    have z0 := zK u0
    clear zK hSw'
    go_simp
    (try with_reducible rfl)
  (try simp only [Act.put, List.getElem_toArray, List.getElem_cons_succ, List.getElem_cons_zero, List.setIfInBounds_toArray, List.set_cons_zero, List.set_cons_succ])
  refine wpSched_take (v := ?_) hOps rfl (Or.inl ⟨by kernel_rfl, ?_⟩) ?_
  rotate_left
  focus
    intro w9 hSw'
    (try dsimp only at hSw')
    have zK : ∀ {a9 : Addr} {u9 : Value}, w6.cell? a9 = some u9 → w9.cell? a9 = some u9 := fun {a9} {u9} h9 => (hSw'.cell (World.block_lt_of_cell? w6 a9 h9)).trans h9
    have z0 := zK u0
    clear zK hSw'
    go_simp
    (try with_reducible rfl)
  (try simp only [Act.put, List.getElem_toArray, List.getElem_cons_succ, List.getElem_cons_zero, List.setIfInBounds_toArray, List.set_cons_zero, List.set_cons_succ])
  refine wpSched_take (v := ?_) hOps rfl (Or.inl ⟨by kernel_rfl, ?_⟩) ?_
  rotate_left
  focus
    intro w9 hSw'
    (try dsimp only at hSw')
    have zK : ∀ {a9 : Addr} {u9 : Value}, w6.cell? a9 = some u9 → w9.cell? a9 = some u9 := fun {a9} {u9} h9 => (hSw'.cell (World.block_lt_of_cell? w6 a9 h9)).trans h9
    have z0 := zK u0
    clear zK hSw'
    go_simp
    (try with_reducible rfl)
  (try simp only [Act.put, List.getElem_toArray, List.getElem_cons_succ, List.getElem_cons_zero, List.setIfInBounds_toArray, List.set_cons_zero, List.set_cons_succ])
  refine wpSched_nil ?_
  (try simp only [Act.put, List.getElem_toArray, List.getElem_cons_succ, List.getElem_cons_zero, List.setIfInBounds_toArray, List.set_cons_zero, List.set_cons_succ])
  go_wp2
  go_ret
  exact ⟨rfl, below_then q06 H8⟩
end Go.Proofs.Ytkgenjgomnalpaa
