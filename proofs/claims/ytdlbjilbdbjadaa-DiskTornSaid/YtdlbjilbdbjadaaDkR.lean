/- disk: durable. bytes.HasPrefix. -/
import Derived.Test.YtdlbjilbdbjadaaDkW4
import Derived.Test.YtdlbjilbdbjadaaBigW
import Derived.Test.YtdlbjilbdbjadaaPkLayL
import Derived.Test.YtdlbjilbdbjadaaPgLaws
import Derived.Lib.SlBytesConst
set_option linter.unusedSimpArgs false
set_option linter.unusedVariables false
namespace Go.Proofs.Ytdlbjilbdbjadaa
open Go.RowKit

theorem RdI.litG (w : World) (k : IntKind) (l : List Int) (cs : Array Value) (e : TypeId) (fr : Nat × Nat) (h : cs.toList = ic k l) : RdI (w.alloc (.cells cs e fr)) (w.heap.size + 1) k (some ⟨w.heap.size, 0, none⟩) l := by
  refine ⟨by rw [ic_length]; omega, fun _ => ⟨_, rfl, by simp, fun j u hu => ?_⟩⟩
  rw [add_mk, cell_of_row _ w.heap.size (0 + j) cs e fr (heap_alloc_new w _), Nat.zero_add, ← hu, ← h]
  simp
theorem equal_any {a b : List Int} {A A' : Option Addr} {w : World} (c c' : Nat) (ha : RdI w w.heap.size .u8 A a) (hb : RdI w w.heap.size .u8 A' b) (wa : byteB a) (wb : byteB b) :
    Calls Try.prog 52 #[.slice A a.length c, .slice A' b.length c'] w fun e w' => e = .returned (.bool (decide (a = b))) ∧ w = w' := by
  have r1 := run_str (P := Try.prog) Try.underlying36 Try.underlying5 Try.underlying9 ha c
  have r2 := run_str (P := Try.prog) Try.underlying36 Try.underlying5 Try.underlying9 hb c'
  have rq := str_beq wa wb
  clear wa wb ha hb
  go_enter Try.func52, Try.ntmps52
  go_wp2
  go_ret
  exact ⟨by simp [*], rfl⟩
theorem hasprefix_any {a b : List Int} {A A' : Option Addr} {w : World} (c c' : Nat) (ha : RdI w w.heap.size .u8 A a) (hb : RdI w w.heap.size .u8 A' b) (wa : byteB a) (wb : byteB b) (hl : b.length ≤ a.length) (hc : a.length ≤ c) :
    Calls Try.prog 43 #[.slice A a.length c, .slice A' b.length c'] w fun e w' => e = .returned (.bool (decide (a.take b.length = b))) ∧ w = w' := by
  obtain ⟨A1, hrun, hr1, _⟩ := ha.slice_h Try.underlying36 info_u8 (hh := b.length) (c := c) hl hc
  have hE := equal_any c c' hr1 hb (fun x hx => wa x (List.mem_of_mem_take hx)) wb
  rw [List.length_take, Nat.min_eq_left hl] at hE
  replace hE := Lib.hid hE
  have g1 : decide ((b.length : Int) ≤ (a.length : Int)) = true := decide_eq_true (by omega)
  have g2 : decide (b.length ≤ a.length) = true := decide_eq_true hl
  clear ha hb wa wb hr1
  go_enter Try.func43, Try.ntmps43
  go_wp2_with (first
    | (go_at_call 52; (with_reducible refine hE.out.mono ?_); rintro e w1 ⟨rfl, rfl⟩))
  go_ret
  exact ⟨rfl, rfl⟩
/-- What sector 0 says. -/
def Hdr (see : List Int) (P U : Nat) : Prop := (see.take 12 = [75, 82, 69, 67] ++ bg (P : Int) 4 ++ bg (U : Int) 4 ∧ P < 4294967296 ∧ U < 4294967296) ∨ (see.take 4 ≠ [75, 82, 69, 67] ∧ P = 0 ∧ U = 1)
theorem DkM.sec0 {w : World} {base gd gs ge : Nat} {vq : Value} {s : Dk} (h : DkM w base gd gs ge vq s) : RdI w w.heap.size .u8 (some ⟨ge, 0, none⟩) (s.see.take 64) ∧ (s.see.take 64).length = 64 := by
  have hl := h.ok.l2
  have hn := h.ok.n0
  refine ⟨⟨by rw [ic_length]; omega, fun _ => ⟨_, rfl, h.be.lt, fun j u hu => ?_⟩⟩, by rw [List.length_take]; omega⟩
  have h1 := h.be.seg 0 64 j u
  rw [ic_seg] at h1
  exact h1 hu
theorem rb4 {w : World} {lo hi g at_ : Nat} {l : List Int} (h : Rdr w 109 lo hi g ⟨l, at_, 0⟩) (ha : at_ + 4 ≤ l.length) {n : Int} (hn : big ((l.drop at_).take 4) = n) :
    Calls Try.prog 45 #[.pointer (some ⟨g, 0, none⟩), .int .i64 4] w fun e w' => e = .returned (.int .u64 n) ∧ Rdr w' 109 lo hi g ⟨l, at_ + 4, 0⟩ ∧ w.grownBy w' (some g) := by
  have h1 := rbig_any h 4 (by omega) (by omega)
  rw [show min (4 : Int).toNat 8 = 4 from rfl, take_ok ha] at h1
  simp only [hn] at h1
  exact h1
set_option maxHeartbeats 2000000 in
set_option maxRecDepth 100000 in
theorem durable_any {w : World} {base gd gs ge : Nat} {vq : Value} {s : Dk} (h : DkM w base gd gs ge vq s) {P U : Nat} (hh : Hdr s.see P U) :
    Calls Try.prog 29 #[.pointer (some ⟨gd, 0, none⟩)] w fun e w' => e = .returned (.tuple #[.int .i64 (P : Int), .int .i64 (U : Int)]) ∧ Below w.heap.size w w' := by
  obtain ⟨hr, hl64⟩ := h.sec0
  have hby : byteB (s.see.take 64) := fun x hx => h.ok.b2 x (List.mem_of_mem_take hx)
  have c0 := h.bd.cell 0
  have c1 := h.bd.cell 1
  have hn2 : (2 : Int) ≤ (s.n : Int) := by have := h.ok.n0; omega
  have hlen := h.ok.l2
  have HP := hasprefix_any (w := w.alloc (.cells #[.int .u8 75, .int .u8 82, .int .u8 69, .int .u8 67] 5 (4, 5))) 64 4 ((hr.alloc (Nat.le_refl _) _).more (by simp)) (RdI.more (RdI.litG w .u8 [75, 82, 69, 67] #[.int .u8 75, .int .u8 82, .int .u8 69, .int .u8 67] 5 (4, 5) rfl) (by simp)) hby (fun x hx => by simp at hx; omega) (by rw [hl64]; simp) (by omega)
  rw [hl64, show ([75, 82, 69, 67] : List Int).length = 4 from rfl, List.take_take, show min 4 64 = 4 from rfl] at HP
  have bw1 := below_alloc (Below.refl w.heap.size w) (.cells #[.int .u8 75, .int .u8 82, .int .u8 69, .int .u8 67] 5 (4, 5))
  rcases hh with ⟨h12, hP, hU⟩ | ⟨hno, rfl, rfl⟩
  · have h4 : s.see.take 4 = [75, 82, 69, 67] := by
      have := congrArg (List.take 4) h12
      rw [List.take_take, show min 4 12 = 4 from rfl] at this
      rw [this]; simp
    rw [decide_eq_true h4] at HP
    replace HP := Lib.hid HP
    have hl60 : ((s.see.take 64).drop 4).length = 60 := by rw [List.length_drop, hl64]
    have hr4 : RdI w w.heap.size .u8 (some ⟨ge, 4, none⟩) ((s.see.take 64).drop 4) := ⟨by rw [ic_length]; omega, fun _ => ⟨_, rfl, h.be.lt, fun j u hu => by
      have h1 := h.be.seg 4 60 j u
      rw [ic_seg] at h1
      rw [List.drop_take] at hu
      exact h1 hu⟩⟩
    have hb1 : big ((((s.see.take 64).drop 4).drop 0).take 4) = (P : Int) := by
      have e : (((s.see.take 64).drop 4).drop 0).take 4 = bg (P : Int) 4 := by
        have := congrArg (fun l => (List.drop 4 l).take 4) h12
        simp only [List.append_assoc] at this
        rw [List.drop_take, List.take_take] at this
        rw [List.drop_zero, List.drop_take, List.take_take]
        rw [show min 4 (64 - 4) = min 4 (12 - 4) from rfl, this]
        have hbl := bg_len (P : Int) 4
        simp [List.take_append_of_le_length, hbl]
      rw [e, big_bg _ _ (by omega) (by simp; omega)]
    have hb2 : big ((((s.see.take 64).drop 4).drop 4).take 4) = (U : Int) := by
      have e : (((s.see.take 64).drop 4).drop 4).take 4 = bg (U : Int) 4 := by
        have := congrArg (fun l => (List.drop 8 l).take 4) h12
        simp only [List.append_assoc] at this
        rw [List.drop_take, List.take_take] at this
        rw [List.drop_drop, List.drop_take, List.take_take]
        rw [show min 4 (64 - (4 + 4)) = min 4 (12 - 8) from rfl, this]
        have hbl := bg_len (P : Int) 4
        have hbl2 := bg_len (U : Int) 4
        rw [show (8 : Nat) = ([75, 82, 69, 67] : List Int).length + (bg (P : Int) 4).length by rw [hbl]; rfl, ← List.append_assoc, ← List.length_append, List.drop_left, List.take_of_length_le (by omega)]
      rw [e, big_bg _ _ (by omega) (by simp; omega)]
    have HN := fun W (hW : Below w.heap.size w W) => new_any (some ⟨ge, 4, none⟩) 60 ((s.see.take 64).drop 4) (fun x hx => hby x (List.mem_of_mem_drop hx)) (by omega) W w.heap.size (hr4.below hW (Nat.le_refl _))
    rw [hl60] at HN
    replace HN := Lib.hid HN
    have hl60' := Lib.hid hl60
    have HB1 := Lib.hid hb1
    have HB2 := Lib.hid hb2
    have wP : IntKind.i64.wrap (P : Int) = (P : Int) := IntWalk.i64_in _ (by omega)
    have wU : IntKind.i64.wrap (U : Int) = (U : Int) := IntWalk.i64_in _ (by omega)
    clear hl60 hr4 hb1 hb2 hr hl64 h12 h4 hlen
    have kc := fun (w : World) (C : Array Value) (n c : Nat) => Lib.run_convert_bytes_const (P := Try.prog) w 36 5 C n c Try.underlying36 Try.underlying5
    go_enter Try.func29, Try.ntmps29
    go_wp2_with (first
      | (go_at_call 43; (with_reducible refine HP.out.mono ?_); rintro e w1 ⟨rfl, rfl⟩)
      | (go_at_call 44; (with_reducible refine (HN.out _ bw1).mono ?_); rintro e w2 ⟨g, rfl, hg, hR, hb2⟩)
      | (go_at_call 45; (with_reducible refine (rb4 hR (by rw [hl60'.out]; omega) HB1.out).mono ?_); rintro e w3 ⟨rfl, hR3, hg3⟩)
      | (go_at_call 45; (with_reducible refine (rb4 hR3 (by rw [hl60'.out]; omega) HB2.out).mono ?_); rintro e w4 ⟨rfl, hR4, hg4⟩))
    go_ret2
    have hs1 := bw1.size
    exact ⟨rfl, below_one (below_one (below_then bw1 hb2) hg3 (by omega)) hg4 (by omega)⟩
  · rw [decide_eq_false hno] at HP
    replace HP := Lib.hid HP
    clear hr hl64 hlen
    have kc := fun (w : World) (C : Array Value) (n c : Nat) => Lib.run_convert_bytes_const (P := Try.prog) w 36 5 C n c Try.underlying36 Try.underlying5
    go_enter Try.func29, Try.ntmps29
    go_wp2_with (first
      | (go_at_call 43; (with_reducible refine HP.out.mono ?_); rintro e w1 ⟨rfl, rfl⟩))
    go_ret2
    exact ⟨rfl, bw1⟩
end Go.Proofs.Ytdlbjilbdbjadaa
