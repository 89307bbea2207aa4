/- disk: Recover, where the pages are there. -/
import Derived.Test.YtdlbjilbdbjadaaDkW4
import Derived.Test.YtdlbjilbdbjadaaBigW
import Derived.Test.YtdlbjilbdbjadaaPkLayL
import Derived.Test.YtdlbjilbdbjadaaPgLaws
import Derived.Lib.SlBytesConst
import Derived.Test.YtdlbjilbdbjadaaPgRead
set_option linter.unusedSimpArgs false
set_option linter.unusedVariables false
namespace Go.Proofs.Ytdlbjilbdbjadaa
open Go.RowKit

theorem RdI.litG (w : World) (k : IntKind) (l : List Int) (cs : Array Value) (e : TypeId) (fr : Nat × Nat) (h : cs.toList = ic k l) : RdI (w.alloc (.cells cs e fr)) (w.heap.size + 1) k (some ⟨w.heap.size, 0, none⟩) l := by
  refine ⟨by rw [ic_length]; omega, fun _ => ⟨_, rfl, by simp, fun j u hu => ?_⟩⟩
  rw [add_mk, cell_of_row _ w.heap.size (0 + j) cs e fr (heap_alloc_new w _), Nat.zero_add, ← hu, ← h]
  simp
theorem equal_any {a b : List Int} {A A' : Option Addr} {w : World} (c c' : Nat) (ha : RdI w w.heap.size .u8 A a) (hb : RdI w w.heap.size .u8 A' b) (wa : byteB a) (wb : byteB b) :
    Calls Try.prog 52 #[.slice A a.length c, .slice A' b.length c'] w fun e w' => e = .returned (.bool (decide (a = b))) ∧ w = w' := by
  have r1 := run_str (P := Try.prog) Try.underlying36 Try.underlying5 Try.underlying9 ha c
  have r2 := run_str (P := Try.prog) Try.underlying36 Try.underlying5 Try.underlying9 hb c'
  have rq := str_beq wa wb
  clear wa wb ha hb
  go_enter Try.func52, Try.ntmps52
  go_wp2
  go_ret
  exact ⟨by simp [*], rfl⟩
theorem hasprefix_any {a b : List Int} {A A' : Option Addr} {w : World} (c c' : Nat) (ha : RdI w w.heap.size .u8 A a) (hb : RdI w w.heap.size .u8 A' b) (wa : byteB a) (wb : byteB b) (hl : b.length ≤ a.length) (hc : a.length ≤ c) :
    Calls Try.prog 43 #[.slice A a.length c, .slice A' b.length c'] w fun e w' => e = .returned (.bool (decide (a.take b.length = b))) ∧ w = w' := by
  obtain ⟨A1, hrun, hr1, _⟩ := ha.slice_h Try.underlying36 info_u8 (hh := b.length) (c := c) hl hc
  have hE := equal_any c c' hr1 hb (fun x hx => wa x (List.mem_of_mem_take hx)) wb
  rw [List.length_take, Nat.min_eq_left hl] at hE
  replace hE := Lib.hid hE
  have g1 : decide ((b.length : Int) ≤ (a.length : Int)) = true := decide_eq_true (by omega)
  have g2 : decide (b.length ≤ a.length) = true := decide_eq_true hl
  clear ha hb wa wb hr1
  go_enter Try.func43, Try.ntmps43
  go_wp2_with (first
    | (go_at_call 52; (with_reducible refine hE.out.mono ?_); rintro e w1 ⟨rfl, rfl⟩))
  go_ret
  exact ⟨rfl, rfl⟩
/-- What sector 0 says. -/
def Hdr (see : List Int) (P U : Nat) : Prop := (see.take 12 = [75, 82, 69, 67] ++ bg (P : Int) 4 ++ bg (U : Int) 4 ∧ P < 4294967296 ∧ U < 4294967296) ∨ (see.take 4 ≠ [75, 82, 69, 67] ∧ P = 0 ∧ U = 1)
theorem DkM.sec0 {w : World} {base gd gs ge : Nat} {vq : Value} {s : Dk} (h : DkM w base gd gs ge vq s) : RdI w w.heap.size .u8 (some ⟨ge, 0, none⟩) (s.see.take 64) ∧ (s.see.take 64).length = 64 := by
  have hl := h.ok.l2
  have hn := h.ok.n0
  refine ⟨⟨by rw [ic_length]; omega, fun _ => ⟨_, rfl, h.be.lt, fun j u hu => ?_⟩⟩, by rw [List.length_take]; omega⟩
  have h1 := h.be.seg 0 64 j u
  rw [ic_seg] at h1
  exact h1 hu
theorem rb4 {w : World} {lo hi g at_ : Nat} {l : List Int} (h : Rdr w 109 lo hi g ⟨l, at_, 0⟩) (ha : at_ + 4 ≤ l.length) {n : Int} (hn : big ((l.drop at_).take 4) = n) :
    Calls Try.prog 45 #[.pointer (some ⟨g, 0, none⟩), .int .i64 4] w fun e w' => e = .returned (.int .u64 n) ∧ Rdr w' 109 lo hi g ⟨l, at_ + 4, 0⟩ ∧ w.grownBy w' (some g) := by
  have h1 := rbig_any h 4 (by omega) (by omega)
  rw [show min (4 : Int).toNat 8 = 4 from rfl, take_ok ha] at h1
  simp only [hn] at h1
  exact h1
set_option maxHeartbeats 2000000 in
set_option maxRecDepth 100000 in
theorem durable_any {w : World} {base gd gs ge : Nat} {vq : Value} {s : Dk} (h : DkM w base gd gs ge vq s) {P U : Nat} (hh : Hdr s.see P U) :
    Calls Try.prog 29 #[.pointer (some ⟨gd, 0, none⟩)] w fun e w' => e = .returned (.tuple #[.int .i64 (P : Int), .int .i64 (U : Int)]) ∧ Below w.heap.size w w' := by
  obtain ⟨hr, hl64⟩ := h.sec0
  have hby : byteB (s.see.take 64) := fun x hx => h.ok.b2 x (List.mem_of_mem_take hx)
  have c0 := h.bd.cell 0
  have c1 := h.bd.cell 1
  have hn2 : (2 : Int) ≤ (s.n : Int) := by have := h.ok.n0; omega
  have hlen := h.ok.l2
  have HP := hasprefix_any (w := w.alloc (.cells #[.int .u8 75, .int .u8 82, .int .u8 69, .int .u8 67] 5 (4, 5))) 64 4 ((hr.alloc (Nat.le_refl _) _).more (by simp)) (RdI.more (RdI.litG w .u8 [75, 82, 69, 67] #[.int .u8 75, .int .u8 82, .int .u8 69, .int .u8 67] 5 (4, 5) rfl) (by simp)) hby (fun x hx => by simp at hx; omega) (by rw [hl64]; simp) (by omega)
  rw [hl64, show ([75, 82, 69, 67] : List Int).length = 4 from rfl, List.take_take, show min 4 64 = 4 from rfl] at HP
  have bw1 := below_alloc (Below.refl w.heap.size w) (.cells #[.int .u8 75, .int .u8 82, .int .u8 69, .int .u8 67] 5 (4, 5))
  rcases hh with ⟨h12, hP, hU⟩ | ⟨hno, rfl, rfl⟩
  · have h4 : s.see.take 4 = [75, 82, 69, 67] := by
      have := congrArg (List.take 4) h12
      rw [List.take_take, show min 4 12 = 4 from rfl] at this
      rw [this]; simp
    rw [decide_eq_true h4] at HP
    replace HP := Lib.hid HP
    have hl60 : ((s.see.take 64).drop 4).length = 60 := by rw [List.length_drop, hl64]
    have hr4 : RdI w w.heap.size .u8 (some ⟨ge, 4, none⟩) ((s.see.take 64).drop 4) := ⟨by rw [ic_length]; omega, fun _ => ⟨_, rfl, h.be.lt, fun j u hu => by
      have h1 := h.be.seg 4 60 j u
      rw [ic_seg] at h1
      rw [List.drop_take] at hu
      exact h1 hu⟩⟩
    have hb1 : big ((((s.see.take 64).drop 4).drop 0).take 4) = (P : Int) := by
      have e : (((s.see.take 64).drop 4).drop 0).take 4 = bg (P : Int) 4 := by
        have := congrArg (fun l => (List.drop 4 l).take 4) h12
        simp only [List.append_assoc] at this
        rw [List.drop_take, List.take_take] at this
        rw [List.drop_zero, List.drop_take, List.take_take]
        rw [show min 4 (64 - 4) = min 4 (12 - 4) from rfl, this]
        have hbl := bg_len (P : Int) 4
        simp [List.take_append_of_le_length, hbl]
      rw [e, big_bg _ _ (by omega) (by simp; omega)]
    have hb2 : big ((((s.see.take 64).drop 4).drop 4).take 4) = (U : Int) := by
      have e : (((s.see.take 64).drop 4).drop 4).take 4 = bg (U : Int) 4 := by
        have := congrArg (fun l => (List.drop 8 l).take 4) h12
        simp only [List.append_assoc] at this
        rw [List.drop_take, List.take_take] at this
        rw [List.drop_drop, List.drop_take, List.take_take]
        rw [show min 4 (64 - (4 + 4)) = min 4 (12 - 8) from rfl, this]
        have hbl := bg_len (P : Int) 4
        have hbl2 := bg_len (U : Int) 4
        rw [show (8 : Nat) = ([75, 82, 69, 67] : List Int).length + (bg (P : Int) 4).length by rw [hbl]; rfl, ← List.append_assoc, ← List.length_append, List.drop_left, List.take_of_length_le (by omega)]
      rw [e, big_bg _ _ (by omega) (by simp; omega)]
    have HN := fun W (hW : Below w.heap.size w W) => new_any (some ⟨ge, 4, none⟩) 60 ((s.see.take 64).drop 4) (fun x hx => hby x (List.mem_of_mem_drop hx)) (by omega) W w.heap.size (hr4.below hW (Nat.le_refl _))
    rw [hl60] at HN
    replace HN := Lib.hid HN
    have hl60' := Lib.hid hl60
    have HB1 := Lib.hid hb1
    have HB2 := Lib.hid hb2
    have wP : IntKind.i64.wrap (P : Int) = (P : Int) := IntWalk.i64_in _ (by omega)
    have wU : IntKind.i64.wrap (U : Int) = (U : Int) := IntWalk.i64_in _ (by omega)
    clear hl60 hr4 hb1 hb2 hr hl64 h12 h4 hlen
    have kc := fun (w : World) (C : Array Value) (n c : Nat) => Lib.run_convert_bytes_const (P := Try.prog) w 36 5 C n c Try.underlying36 Try.underlying5
    go_enter Try.func29, Try.ntmps29
    go_wp2_with (first
      | (go_at_call 43; (with_reducible refine HP.out.mono ?_); rintro e w1 ⟨rfl, rfl⟩)
      | (go_at_call 44; (with_reducible refine (HN.out _ bw1).mono ?_); rintro e w2 ⟨g, rfl, hg, hR, hb2⟩)
      | (go_at_call 45; (with_reducible refine (rb4 hR (by rw [hl60'.out]; omega) HB1.out).mono ?_); rintro e w3 ⟨rfl, hR3, hg3⟩)
      | (go_at_call 45; (with_reducible refine (rb4 hR3 (by rw [hl60'.out]; omega) HB2.out).mono ?_); rintro e w4 ⟨rfl, hR4, hg4⟩))
    go_ret2
    have hs1 := bw1.size
    exact ⟨rfl, below_one (below_one (below_then bw1 hb2) hg3 (by omega)) hg4 (by omega)⟩
  · rw [decide_eq_false hno] at HP
    replace HP := Lib.hid HP
    clear hr hl64 hlen
    have kc := fun (w : World) (C : Array Value) (n c : Nat) => Lib.run_convert_bytes_const (P := Try.prog) w 36 5 C n c Try.underlying36 Try.underlying5
    go_enter Try.func29, Try.ntmps29
    go_wp2_with (first
      | (go_at_call 43; (with_reducible refine HP.out.mono ?_); rintro e w1 ⟨rfl, rfl⟩))
    go_ret2
    exact ⟨rfl, bw1⟩
end Go.Proofs.Ytdlbjilbdbjadaa

namespace Go.Proofs.Ytdlbjilbdbjadaa
open Go.RowKit

/-- The pages lie in the bytes from o on, numbered from k on, each one where the one before ends, or where a sector begins. -/
inductive Lies (b : List Int) : Nat → Nat → List Pg → Prop
  | done (o k : Nat) : Lies b o k []
  | skip {o k : Nat} {p : Pg} {P : List Pg} : o < b.length → rdE (b.drop o) ≠ 0 → Lies b ((o / 64 + 1) * 64) k (p :: P) → Lies b o k (p :: P)
  | page {o k : Nat} {p : Pg} {P : List Pg} : o < b.length → rdE (b.drop o) = 0 → rdP (b.drop o) = p → p.seq = (k : Int) → rdL (b.drop o) = (p.body.length : Int) + 12 → o + p.body.length + 12 ≤ b.length → p.wf → Lies b (o + p.body.length + 12) (k + 1) P → Lies b o k (p :: P)
theorem Lies.cons {b : List Int} {o k : Nat} {p : Pg} {P : List Pg} (h : Lies b o k (p :: P)) : o < b.length ∧ ((rdE (b.drop o) ≠ 0 ∧ Lies b ((o / 64 + 1) * 64) k (p :: P)) ∨ (rdE (b.drop o) = 0 ∧ rdP (b.drop o) = p ∧ p.seq = (k : Int) ∧ rdL (b.drop o) = (p.body.length : Int) + 12 ∧ o + p.body.length + 12 ≤ b.length ∧ p.wf ∧ Lies b (o + p.body.length + 12) (k + 1) P)) := by
  cases h with
  | skip h1 h2 h3 => exact ⟨h1, .inl ⟨h2, h3⟩⟩
  | page h1 h2 h3 h4 h5 h6 h7 h8 => exact ⟨h1, .inr ⟨h2, h3, h4, h5, h6, h7, h8⟩⟩
theorem sect_step {l : List Int} {k : Nat} : (l.drop 64).take (64 * k) ++ (l.drop (64 * (k + 1))).take 64 = (l.drop 64).take (64 * (k + 1)) := by
  rw [show 64 * (k + 1) = 64 * k + 64 by omega, List.take_add, List.drop_drop]
  congr 3
  omega
def natOf : Value → Nat
  | .int _ n => n.toNat
  | _ => 0

set_option maxHeartbeats 8000000 in
set_option maxRecDepth 100000 in
theorem recover_any {w : World} {base gd gs ge : Nat} {vq : Value} {s : Dk} (h : DkM w base gd gs ge vq s) {ps : List Pg} {U : Nat} (hh : Hdr s.see ps.length U) (hU1 : 1 ≤ U) (hU : U ≤ s.n)
    (hL : Lies ((s.see.drop 64).take (64 * (U - 1))) 0 0 ps) (hpl : ps.length ≤ 100000) :
    Calls Try.prog 15 #[.pointer (some ⟨gd, 0, none⟩)] w fun e w' => ∃ v, e = .returned (.tuple #[v, .int .i64 0]) ∧ OwnG PgR 5 38 w' w.heap.size (fun b => w.heap.size ≤ b ∧ b < w'.heap.size) v ps ∧ Below w.heap.size w w' := by
  have HDu := Lib.hid (durable_any h hh)
  have HD := Lib.hid h
  have HL := Lib.hid hL
  have hn1 := h.ok.n1
  have hl2 := h.ok.l2
  have hby := Lib.hid h.ok.b2
  have HS := Lib.hid (fun (W : World) (hW : Below w.heap.size w W) (k : Nat) (hk : k < s.n) => (show RdI W w.heap.size .u8 (some ⟨ge, k * 64, none⟩) ((s.see.drop (64 * k)).take 64) ∧ ((s.see.drop (64 * k)).take 64).length = 64 from by
    have hD' := h.below hW
    have hl : ((s.see.drop (64 * k)).take 64).length = 64 := by rw [List.length_take, List.length_drop]; omega
    refine ⟨⟨by rw [ic_length]; omega, fun _ => ⟨_, rfl, h.be.lt, fun j u hu => ?_⟩⟩, hl⟩
    have h1 := hD'.be.seg (k * 64) 64 j u
    rw [ic_seg, Nat.mul_comm k 64] at h1
    rw [Nat.mul_comm k 64]
    exact h1 hu))
  have HC := Lib.hid (fun (W : World) (hW : Below w.heap.size w W) => (h.below hW).bd.cell 1)
  have g1 : decide ((U : Int) < 1) = false := decide_eq_false (by omega)
  have g2 : decide ((s.n : Int) < (U : Int)) = false := decide_eq_false (by omega)
  have g3 : decide (s.n < U) = false := decide_eq_false (by omega)
  replace hl2 := Lib.hid hl2
  clear h hh hL
  go_enter Try.func15, Try.ntmps15
  go_upto_region 2 with (first
    | (go_at_call 29; (with_reducible refine HDu.out.mono ?_); rintro e w1 ⟨rfl, hb1⟩))
  have c1 := HC.out w1 hb1
  go_wp2_with (fail)
  clear c1 g1 g2 g3 HDu
  go_loopw [6, 7] (fun bv iv wr => ∃ (m : Nat), 1 ≤ m ∧ m ≤ U ∧ iv = .int .i64 (m : Int) ∧ OwnI wr w.heap.size 5 .u8 bv ((s.see.drop 64).take (64 * (m - 1))) ∧ Below w.heap.size w wr) (fun _ iv _ => U - natOf iv)
  case atStart => exact ⟨1, by omega, by omega, rfl, by simpa using OwnI.nil_ _ _ _ _, hb1⟩
  case round =>
    obtain ⟨m, hm1, hmU, rfl, hown, hb⟩ := hrel
    have hlm : ((s.see.drop 64).take (64 * (m - 1))).length ≤ 65536 := by rw [List.length_take]; omega
    by_cases hlt : m < U
    · have c1 := HC.out wr hb
      obtain ⟨hrs, hl64⟩ := HS.out wr hb m (by omega)
      have hst := sect_step (l := s.see) (k := m - 1)
      rw [show m - 1 + 1 = m by omega] at hst
      obtain ⟨A0, c0, rfl, hc0, _, _⟩ := hown.form
      have hml : (m : Int) < (s.n : Int) := by omega
      have HSt := Lib.hid hst
      have HO := Lib.hid hown
      have HL64 := Lib.hid hl64
      clear hst hown hl64
      go_wp2_with (first
        | (at_builtin; (refine wpList_append_int _ rfl (.tmp 34) (.tmp 41) _ rfl w w.heap.size w.heap.size 5 .u8 1 Try.underlying36 info_u8 _ ((s.see.drop 64).take (64 * (m - 1))) rfl HO.out w.heap.size (some ⟨ge, m * 64, none⟩) 64 64 ((s.see.drop (64 * m)).take 64) rfl HL64.out.symm hrs (by rw [HL64.out]; omega) (by omega) hb (Nat.le_refl _) hb.size ?_); intro v2 w2 hown2 hb2))
      rw [HSt.out] at hown2
      go_roundw
      case rel => exact ⟨m + 1, by omega, by omega, by go_num, hown2, hb2⟩
      case measure => simp [natOf]; omega
    · obtain rfl : m = U := by omega
      obtain ⟨A6, c6, rfl, hc6, hr6, ho6⟩ := hown.form
      have hbl : ((s.see.drop 64).take (64 * (m - 1))).length = 64 * (m - 1) := by rw [List.length_take, List.length_drop, hl2.out]; omega
      have hbb : byteB ((s.see.drop 64).take (64 * (m - 1))) := fun x hx => hby.out x (List.mem_of_mem_drop (List.mem_of_mem_take hx))
      generalize hbe : (s.see.drop 64).take (64 * (m - 1)) = b at *
      have HR := Lib.hid (fun (W : World) (hW : Below wr.heap.size wr W) (o : Nat) (ho : o ≤ b.length) => read_any (c := c6) (hr6.below hW (Nat.le_refl _)) hW.size hbb hc6 (by omega) ho)
      replace hbe := Lib.hid hbe
      have hbl9 : b.length ≤ 65536 := by omega
      replace hbl := Lib.hid hbl
      have hbs := hb.size
      clear hr6 ho6 hbb HS HC HD hlt hown
      go_wp2_with (fail)
      obtain ⟨wo, rfl⟩ : ∃ wo : World, wo = wr := ⟨_, rfl⟩
      go_loopw [8, 9] (fun ov av wq => ∃ (k o : Nat), k ≤ ps.length ∧ av = .int .i64 (o : Int) ∧ o ≤ b.length ∧ Lies b o k (ps.drop k) ∧ OwnG PgR 5 38 wq wo.heap.size (fun x => wo.heap.size ≤ x ∧ x < wq.heap.size) ov (ps.take k) ∧ Below wo.heap.size wo wq) (fun _ av _ => b.length - natOf av)
      case atStart => exact ⟨0, 0, Nat.zero_le _, rfl, Nat.zero_le _, by simpa using HL.out, by simpa using OwnG.nil_ _ _ _ _ _ _, Below.refl _ _⟩
      case round =>
        obtain ⟨k, o, hk, rfl, ho, hli, hout, hbq⟩ := hrel
        obtain ⟨Ao, co, hvo, hco, _, hoo⟩ := hout.form PgR.good
        rw [List.length_take, Nat.min_eq_left hk] at hvo
        subst hvo
        by_cases hkp : k < ps.length
        · rw [List.drop_eq_getElem_cons hkp] at hli
          obtain ⟨hol, hcase⟩ := hli.cons
          have hRd := HR.out wr hbq o ho
          have gk : decide ((k : Int) < (ps.length : Int)) = true := decide_eq_true (by omega)
          have HO := Lib.hid hout
          have g12 : decide ((b.length : Int) ≤ (o : Int)) = false := decide_eq_false (by omega)
          have g13 : decide (b.length ≤ o) = false := decide_eq_false (by omega)
          rcases hcase with ⟨hE, hL2⟩ | ⟨hE, hP, hseq, hLn, hend, hwf, hL2⟩
          · have HL2 := Lib.hid hL2
            clear hli hL2 hout
            generalize rdP (b.drop o) = pg at *
            generalize rdL (b.drop o) = rl at *
            generalize rdE (b.drop o) = E at *
            obtain ⟨p1, p2, p3, p4, p5⟩ := pg
            simp only [Pg.val] at hRd
            have hEe : (E != 0) = true := by rw [bne_iff_ne]; exact hE
            replace hRd := Lib.hid hRd
            clear hE
            go_upto_region 16 with (first
              | (go_at_call 35; (with_reducible refine hRd.out.mono ?_); rintro e w7 ⟨A7, c7, rfl, ho7, hb7⟩))
            have hout7 := HO.out.keep PgR.good (M := fun _ => False) (Mod.of_fresh hb7) (fun _ _ _ h => h) (fun _ _ h => h)
            have hbx := below_alloc hb7 (.cells #[.int .i64 p1, .bool p2, .bool p3, .bool p4, .slice A7 p5.length c7] 38)
            have hs7 := hb7.size
            obtain ⟨nn, hnn⟩ : ∃ nn : Nat, o / 64 = nn := ⟨_, rfl⟩
            have q0 : (o : Int).tdiv 64 = (nn : Int) := by rw [Int.tdiv_eq_ediv_of_nonneg (by omega)]; omega
            have q1 : IntKind.i64.wrap (nn : Int) = (nn : Int) := IntWalk.i64_in _ (by omega)
            have q2 : IntKind.i64.wrap ((nn : Int) + 1) = (nn : Int) + 1 := IntWalk.i64_in _ (by omega)
            have q3 : IntKind.i64.wrap (((nn : Int) + 1) * 64) = ((nn : Int) + 1) * 64 := IntWalk.i64_in _ (by omega)
            have hHnn := Lib.hid hnn
            have hle : (nn + 1) * 64 ≤ b.length := by have := hbl.out; omega
            clear hnn
            go_wp2_with (fail)
            go_roundw
            case rel =>
              have hl2 := HL2.out
              rw [hHnn.out, ← List.drop_eq_getElem_cons hkp] at hl2
              exact ⟨k, (nn + 1) * 64, hk, by first | rfl | (simp; done) | go_num, hle, hl2, (hout7.keep PgR.good (M := fun _ => False) (Mod.of_fresh (below_alloc (Below.refl _ _) _)) (fun _ _ _ h => h) (fun _ _ h => h)).weak PgR.good (fun x hx _ => ⟨hx.1, by have := hx.2; simp; omega⟩), below_then hbq (by simpa using hbx)⟩
            case measure => have := hHnn.out; simp [natOf]; omega
          · have HL2 := Lib.hid hL2
            have htk : ps.take (k + 1) = ps.take k ++ [ps[k]] := by rw [List.take_succ_eq_append_getElem hkp]
            rw [hE, hP, hLn] at hRd
            have HTk := Lib.hid htk
            clear hli hL2 hout hE hP hLn htk
            generalize ps[k] = pg at *
            obtain ⟨p1, p2, p3, p4, p5⟩ := pg
            simp only at hseq hend hRd HL2
            subst hseq
            simp only [Pg.val] at hRd
            replace hRd := Lib.hid hRd
            go_upto_region 17 with (first
              | (go_at_call 35; (with_reducible refine hRd.out.mono ?_); rintro e w7 ⟨A7, c7, rfl, ho7, hb7⟩))
            obtain ⟨_, hc7, hr7⟩ := ho7.rds
            have hs7 := hb7.size
            have bx := below_alloc (Below.refl w7.heap.size w7) (.cells #[.int .i64 (k : Int), .bool p2, .bool p3, .bool p4, .slice A7 p5.length c7] 38)
            have kx := Blk.new w7 38 #[.int .i64 (k : Int), .bool p2, .bool p3, .bool p4, .slice A7 p5.length c7]
            have hsx : (w7.alloc (.cells #[.int .i64 (k : Int), .bool p2, .bool p3, .bool p4, .slice A7 p5.length c7] 38)).heap.size ≥ w7.heap.size + 1 := by simp
            generalize w7.alloc (.cells #[.int .i64 (k : Int), .bool p2, .bool p3, .bool p4, .slice A7 p5.length c7] 38) = wx at *
            have hbx := below_then hb7 bx
            have houtx := HO.out.keep PgR.good (M := fun _ => False) (Mod.of_fresh hbx) (fun _ _ _ h => h) (fun _ _ h => h)
            have hrx : RdS wx (fun x => wr.heap.size ≤ x ∧ x < wx.heap.size) .u8 A7 p5 := (hr7.keep (M := fun _ => False) (Mod.of_fresh bx) (fun _ _ _ h => h)).weak (fun x hx hl => ⟨hx.1, hl⟩)
            have z0 := kx.cell 0
            have z1 := kx.cell 1
            have z2 := kx.cell 2
            have z3 := kx.cell 3
            have z4 := kx.cell 4
            have q1 : IntKind.i64.wrap ((o : Int) + ((p5.length : Int) + 12)) = (o : Int) + ((p5.length : Int) + 12) := IntWalk.i64_in _ (by omega)
            have hboq := hbq.size
            have hHc7 := Lib.hid hc7
            have hHwf := Lib.hid hwf
            clear ho7 hr7 hb7 bx hRd hc7 hwf
            go_wp2_with (first
              | (at_builtin; (refine wpList_push_G (v := .slice Ao k co) rfl (.tmp 69) (.tmp 71) _ rfl PgR.good wx (.agg #[.int .i64 0, .bool false, .bool false, .bool false, .slice none 0 0]) 40 Try.underlying30 info_pg rfl (by omega) rfl houtx (fun x => wr.heap.size ≤ x ∧ x < wx.heap.size) _ 1 [.int .i64 (k : Int), .bool p2, .bool p3, .bool p4, .slice A7 p5.length c7] ⟨(k : Int), p2, p3, p4, p5⟩ rfl rfl (show PgR _ _ _ _ from ⟨A7, c7, rfl, hHc7.out, hrx, hHwf.out⟩) (fun x => wo.heap.size ≤ x ∧ x ≤ wx.heap.size) (fun x hx _ => ⟨hx.1, by have := hx.2; omega⟩) (fun x hx _ => ⟨by have := hx.1; omega, by have := hx.2; omega⟩) (fun x hx h => by have h9 := (hoo x hx).2; have h8 := h.1; omega) (fun x hx => hx.2) ⟨by omega, Nat.le_refl _⟩ (by rw [List.length_take]; omega) (by omega) ?_); intro v6 w6 ow6 hg6 hv6))
            have hs6 := hg6.size
            simp at hs6
            have hM6 : Mod (fun x => (Value.slice Ao k co).ownBlock = some x) wx w6 := ((Mod.refl _ _).alloc _).then_ (Mod.of_grown hg6 (fun x e _ => e))
            go_roundw
            case rel =>
              have hl2 := HL2.out
              rw [← HTk.out] at ow6
              exact ⟨k + 1, o + p5.length + 12, by omega, by first | (simp; omega) | go_num, by omega, hl2, ow6.weak PgR.good (fun x hx hl => ⟨hx.1, hl⟩), (below_then hbq hbx).trans (hM6.below (by omega) (fun x hx => (hoo x hx).1))⟩
            case measure => simp [natOf]; omega
        · obtain rfl : k = ps.length := by omega
          go_wp2_with (fail)
          go_ret2
          rw [List.take_length] at hout
          exact ⟨_, rfl, (hout.base_ hbs).weak PgR.good (fun x hx hl => ⟨by have := hx.1; omega, hl⟩), hb.trans (hbq.mono hbs)⟩
end Go.Proofs.Ytdlbjilbdbjadaa
