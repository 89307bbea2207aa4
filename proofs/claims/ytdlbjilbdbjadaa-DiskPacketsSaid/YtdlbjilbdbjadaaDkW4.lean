/- disk: Crash. -/
import Derived.Test.YtdlbjilbdbjadaaDkW2
set_option linter.unusedSimpArgs false
set_option linter.unusedVariables false
namespace Go.Proofs.Ytdlbjilbdbjadaa
open Go.RowKit

def Dk.flush (s : Dk) : Dk := ⟨s.n, s.see, s.see, []⟩
theorem putAt_all {cur vs : List Value} (h : vs.length = cur.length) : putAt cur 0 vs = vs := by simp [putAt, h]
/-- all sectors copied from one block to another -/
theorem run_copy_all (w : World) (ty : TypeId) (g g' n : Nat) (a b : List Int) (ha : a.length = 64 * n) (hb : b.length = 64 * n) (k : Blk w g 79 (ic .u8 a).toArray) (k' : Blk w g' 79 (ic .u8 b).toArray) :
    (Builtin.copy_ #[66, 66] ty #[.slice (some ⟨g, 0, none⟩) n n, .slice (some ⟨g', 0, none⟩) n n]).run Try.prog w = .ok (goInt n) (w.setRow g (ic .u8 b).toArray) := by
  have h1 := run_copy_cells_n (P := Try.prog) w 66 66 ty 79 g 0 n n ⟨g', 0, none⟩ n n 64 _ _ (ic .u8 b) Try.underlying66 size_se k (by rw [ic_length, hb]; simp [Nat.min_def]; omega) (fun j v hv => by rw [add_mk, Nat.zero_add, k'.cell j, List.getElem?_toArray]; exact hv) (by rw [ic_length, List.size_toArray, ic_length]; omega) (ic_cell _ _)
  rw [putAt_all (by rw [ic_length, ic_length]; omega), show Nat.min n n = n from Nat.min_self n] at h1
  exact h1

set_option maxRecDepth 100000 in
theorem dflush_any {w : World} {base gd gs ge : Nat} {vq : Value} {s : Dk} (h : DkM w base gd gs ge vq s) :
    Calls Try.prog 21 #[.pointer (some ⟨gd, 0, none⟩)] w fun e w' => e = .returned (.tuple #[]) ∧ DkM w' base gd gs ge (.slice none 0 0) s.flush ∧ Mod (fun b => b = gd ∨ b = gs) w w' := by
  have c0 := h.bd.cell 0
  have c1 := h.bd.cell 1
  have hcp := fun ty => run_copy_all w.drew ty gs ge s.n s.sto s.see h.ok.l1 h.ok.l2 h.bs h.be
  go_enter Try.func21, Try.ntmps21
  go_wp2_with (fail)
  refine wp_still_tail 8 (by kernel_rfl) (by kernel_rfl) ?_
  simp only [List.take_succ_cons, List.take_zero, List.drop_succ_cons, List.drop_zero]
  repeat still_step
  refine wpStill_nil ?_
  go_upto_region 1 with (fail)
  clear hcp c0 c1
  have hm : Mod (· = gs) w (w.drew.setRow gs (ic .u8 s.see).toArray) := (Mod.refl (fun x => x = gs) w).drew.setRow (fun _ => rfl) _
  have ks : Blk (w.drew.setRow gs (ic .u8 s.see).toArray) gs 79 (ic .u8 s.see).toArray := Blk.setRow (w := w.drew) h.bs _
  generalize w.drew.setRow gs (ic .u8 s.see).toArray = w1 at *
  have kd := h.bd.mod hm h.ne.1
  have ke := h.be.mod hm (fun e => h.ne.2.2 e.symm)
  have c2 := kd.cell 2
  have f2 := kd.frozen 2
  go_wp2
  go_end0
  have hm2 : Mod (· = gd) w1 (w1.setCell ⟨gd, 2, none⟩ (.slice none 0 0)) := mod_put (Mod.refl _ _) (fun _ => rfl)
  have kd2 := kd.set_ 2 (.slice none 0 0)
  have hok := h.ok
  refine ⟨rfl, ⟨by simpa [Dk.flush] using kd2, ks.mod hm2 (fun e => h.ne.1 e.symm), ke.mod hm2 (fun e => h.ne.2.1 e.symm), OwnG.nil_ _ _ _ _ _ _, h.ne, fun b hb => (by cases hb), ⟨h.ge_.1, h.ge_.2.1, h.ge_.2.2.1, Nat.le_trans h.ge_.2.2.2 (Nat.le_trans hm.size hm2.size)⟩, ⟨hok.n0, hok.n1, hok.l2, hok.l2, hok.b2, hok.b2, fun x hx => (by cases hx)⟩⟩, ?_⟩
  exact (hm.mono (fun b h _ => .inr h)).trans (M' := (· = gd)) hm2 (fun b h _ => .inl h)
set_option maxRecDepth 100000 in
theorem dread_any {w : World} {base gd gs ge : Nat} {vq : Value} {s : Dk} (h : DkM w base gd gs ge vq s) {N : Nat} (hN : N < s.n) :
    Calls Try.prog 19 #[.pointer (some ⟨gd, 0, none⟩), .int .i64 (N : Int)] w fun e w' => ∃ v, e = .returned (.tuple #[v, .int .i64 0]) ∧ OwnI w' w.heap.size 5 .u8 v ((s.see.drop (64 * N)).take 64) ∧ Below w.heap.size w w' := by
  have c0 := h.bd.cell 0
  have c1 := h.bd.cell 1
  have g1 : decide ((N : Int) < 0) = false := decide_eq_false (by omega)
  have g2 : decide ((s.n : Int) ≤ (N : Int)) = false := decide_eq_false (by omega)
  have g3 : decide (s.n ≤ N) = false := decide_eq_false (by omega)
  have hl := h.ok.l2
  have hln : ((s.see.drop (64 * N)).take 64).length = 64 := by rw [List.length_take, List.length_drop]; omega
  have hrd : RdI w w.heap.size .u8 (some ⟨ge, N * 64, none⟩) ((s.see.drop (64 * N)).take 64) := ⟨by rw [ic_length]; omega, fun _ => ⟨_, rfl, h.be.lt, fun j u hu => by
    have h1 := h.be.seg (N * 64) 64 j u
    rw [ic_seg, Nat.mul_comm N 64] at h1
    rw [Nat.mul_comm N 64]
    exact h1 hu⟩⟩
  replace hl := Lib.hid hl
  replace hln := Lib.hid hln
  go_enter Try.func19, Try.ntmps19
  go_wp2_with (first
    | (at_builtin; (refine wpList_append_int _ rfl (.const (.slice none 0 0)) (.tmp 23) _ rfl w w.heap.size w.heap.size 5 .u8 1 Try.underlying36 info_u8 _ [] rfl (OwnI.nil_ _ _ _ _) w.heap.size (some ⟨ge, N * 64, none⟩) 64 64 ((s.see.drop (64 * N)).take 64) rfl hln.out.symm hrd (by rw [hln.out]; simp) (by omega) (by repeat (first | exact Below.refl _ _ | assumption | refine Below.drew ?_ | refine below_drewN ?_ _ | refine below_alloc ?_ _)) (Nat.le_refl _) (Nat.le_refl _) ?_); intro v1 w1 hown1 hbel1))
  go_ret2
  exact ⟨v1, rfl, hown1, hbel1⟩
end Go.Proofs.Ytdlbjilbdbjadaa

namespace Go.Proofs.Ytdlbjilbdbjadaa
open Go.RowKit

/-- What a crash keeps of the writes from number i on. -/
def crs (kept : List Int) : Nat → List (Nat × List Int) → List Int → List Int
  | _, [], sto => sto
  | i, (N, b) :: q, sto => if i < kept.length then crs kept (i + 1) q (if kept.getD i 0 = 1 then updB sto (64 * N) b else if kept.getD i 0 = 2 then updB sto (64 * N) (b.take 32) else sto) else sto
def Dk.crash (s : Dk) (kept : List Int) : Dk := ⟨s.n, crs kept 0 s.qs s.sto, crs kept 0 s.qs s.sto, []⟩

set_option maxHeartbeats 4000000 in
set_option maxRecDepth 100000 in
theorem dcrash_S {w : World} {base gd gs ge : Nat} {vq : Value} {s : Dk} (h : DkM w base gd gs ge vq s) (hq : s.qs.length ≤ 1000000) (Ak : Option Addr) (ck : Nat) (kept : List Int) (hb : ∀ x ∈ kept, i64B x) (hc : kept.length ≤ ck) {Sk : Nat → Prop} (hr : RdS w Sk .i64 Ak kept) (hSk : ∀ b, Sk b → b < w.heap.size → b ≠ gs) :
    Calls Try.prog 14 #[.pointer (some ⟨gd, 0, none⟩), .slice Ak kept.length ck] w fun e w' => e = .returned (.tuple #[]) ∧ DkM w' base gd gs ge (.slice none 0 0) (s.crash kept) ∧ Mod (fun b => b = gd ∨ b = gs ∨ b = ge) w w' := by
  obtain ⟨Aq, cq, hvq, hcq, hrq, hoq⟩ := h.oq.form WrR.good
  subst hvq
  have c2 := h.bd.cell 2
  have HD := Lib.hid h
  clear h hrq
  go_enter Try.func14, Try.ntmps14
  go_wp2_with (fail)
  go_loopw [11] (fun iv wr => ∃ (i : Nat) (sto : List Int), i ≤ s.qs.length ∧ iv = .int .i64 (i : Int) ∧ crs kept i (s.qs.drop i) sto = crs kept 0 s.qs s.sto ∧ DkM wr base gd gs ge (.slice Aq s.qs.length cq) ⟨s.n, sto, s.see, s.qs⟩ ∧ Mod (fun b => b = gs) w wr) (fun iv _ => s.qs.length - (intOf iv).toNat)
  case atStart => exact ⟨0, s.sto, Nat.zero_le _, rfl, rfl, HD.out, Mod.refl _ _⟩
  case round =>
    obtain ⟨i, sto, hi, rfl, hcr, hD, hm⟩ := hrel
    by_cases hiq : i < s.qs.length
    · have hqo := hD.ok.q _ (List.getElem_mem hiq)
      obtain ⟨A1, c1, hv1, _, hrr, _⟩ := hD.oq.form WrR.good
      simp only [Value.slice.injEq] at hv1
      obtain ⟨rfl, _, rfl⟩ := hv1
      obtain ⟨ad, cs, rfl, hSd, hR, hcc⟩ := hrr i hiq
      have hdrop := List.drop_eq_getElem_cons hiq
      rw [hdrop] at hcr
      generalize hqe : s.qs[i] = qe at *
      obtain ⟨N, b⟩ := qe
      simp only at hqo hR
      obtain ⟨hN, hb64, hbb⟩ := hqo
      obtain ⟨hcs, _⟩ := hR
      rw [show (Value.int .i64 ((N, b) : Nat × List Int).1 :: ic .u8 ((N, b) : Nat × List Int).2) = rWr N b from rfl] at hcs
      subst hcs
      have hcl : ∀ (j : Nat) (v : Value), (rWr N b)[j]? = some v → wr.cell? ((ad.add (i * 65)).add j) = some v := fun j v hv => by rw [add_add']; exact hcc j v hv
      have hst := fun W => run_storeCells_new (P := Try.prog) W 81 zWr (rWr N b).toArray (by rw [List.size_toArray, rWr_len N hb64]; exact size_wr) (by simp [zWr_size, rWr_len N hb64]) (by rw [List.all_toArray, List.all_eq_true]; exact rWr_cell N b)
      have hst : ∀ W : World, (storeCells ⟨W.heap.size, 0, none⟩ (rWr N b) 0).run Try.prog (W.alloc (.cells zWr 81)) = .ok () (W.alloc (.cells (rWr N b).toArray 81)) := hst
      have hsz : Hid ((Try.prog.info? 81).map (·.size) = some (rWr N b).length) := Lib.hid (by rw [rWr_len N hb64]; exact size_wr)
      have hz0 := zero_wr
      have hl65 := rWr_len N hb64
      have hcl := Lib.hid hcl
      have HD2 := Lib.hid hD
      have HCr := Lib.hid hcr
      have HM2 := Lib.hid hm
      have hb64' := Lib.hid hb64
      have HBd := hD.bd.lt
      have HKs := Lib.hid (fun W (hx : Below wr.heap.size wr W) => hD.below hx)
      have hqe' := Lib.hid hqe
      have hdr' := Lib.hid hdrop
      clear hD hcr hm hcc hSd hrr hdrop hb64 hqe
      go_upto_region 3 with (first
        | (refine wpList_load_any (by rfl) 81 (.tmp 14) (by rfl) (ad.add (i * 65)) (by rfl) (rWr N b) _ Try.underlying81 rfl hsz.out hcl.out ?_))
      clear hst hz0
      have k5 := Blk.new wr 81 (rWr N b).toArray
      have b5 := below_alloc (Below.refl wr.heap.size wr) (.cells (rWr N b).toArray 81)
      have hg5 : wr.heap.size < (wr.alloc (.cells (rWr N b).toArray 81)).heap.size := by simp
      generalize wr.alloc (.cells (rWr N b).toArray 81) = w5 at *
      have hD5 := HKs.out w5 b5
      have hm5 := HM2.out.trans (M' := fun _ => False) (Mod.of_fresh b5) (fun b h _ => h.elim)
      generalize wr.heap.size = g5 at *
      have hrk := (RdS.keep hr hm5 (fun b hb hl e => hSk b hb hl e)).top
      by_cases hik : i < kept.length
      · obtain ⟨ak, hAk, _, y0⟩ := RdI.at_ hrk hik
        have hcr2 := HCr.out
        rw [crs, if_pos hik] at hcr2
        generalize hkv : kept.getD i 0 = kv at *
        subst hAk
        replace hkv := Lib.hid hkv
        replace hcr2 := Lib.hid hcr2
        have hsl : sto.length = 64 * s.n := hD5.ok.l1
        have hstob : byteB sto := hD5.ok.b1
        have hD5h := Lib.hid hD5
        have c0 := hD5.bd.cell 0
        have ks5 := hD5.bs
        clear hD5 HD2 HCr HM2 HKs b5
        have hc50 : Hid (∀ (w9 : World), Blk w9 g5 81 (rWr N b).toArray → w9.cell? ⟨g5, 0, none⟩ = some (.int .i64 (N : Int))) := Lib.hid (fun w9 h9 => (h9.cell 0).trans rfl)
        have hdr : (rWr N b).drop 1 = ic .u8 b := by simp [rWr]
        have hseg : Hid (∀ (w9 : World), Blk w9 g5 81 (rWr N b).toArray → ∀ (j : Nat) (v : Value), (ic .u8 b)[j]? = some v → w9.cell? ((⟨g5, 1, none⟩ : Addr).add j) = some v) := Lib.hid (fun w9 h9 j v hv => by
          have h1 := h9.seg 1 64 j v
          rw [hdr, List.take_of_length_le (by rw [ic_length]; exact Nat.le_of_eq hb64'.out)] at h1
          exact h1 hv)
        have hsz2 : Hid ((Try.prog.info? 79).map (·.size) = some (ic .u8 b).length) := Lib.hid (by rw [ic_length, hb64'.out]; exact size_se)
        have hN9 := hN
        replace hsl := Lib.hid hsl
        have hst1 : ∀ W : World, Blk W gs 79 (ic .u8 sto).toArray → DkM W base gd gs ge (.slice (some ad) s.qs.length cq) ⟨s.n, sto, s.see, s.qs⟩ → ∀ c : List Int, c.length ≤ 64 → byteB c → DkM (W.setRow gs (ic .u8 (updB sto (64 * N) c)).toArray) base gd gs ge (.slice (some ad) s.qs.length cq) ⟨s.n, updB sto (64 * N) c, s.see, s.qs⟩ := fun W hW hDW c hc1 hc2 => by
          have hmw : Mod (· = gs) W (W.setRow gs (ic .u8 (updB sto (64 * N) c)).toArray) := (Mod.refl (fun x => x = gs) W).setRow (fun _ => rfl) _
          have hne := hDW.ne
          exact ⟨hDW.bd.mod hmw hne.1, Blk.setRow hW _, hDW.be.mod hmw (fun e => hne.2.2 e.symm), hDW.oq.keep WrR.good hmw (fun b hb _ _ => hb) (fun x hx e => (hDW.nq x hx).2.1 e), hne, hDW.nq, ⟨hDW.ge_.1, hDW.ge_.2.1, hDW.ge_.2.2.1, Nat.le_trans hDW.ge_.2.2.2 hmw.size⟩, ⟨hDW.ok.n0, hDW.ok.n1, by rw [updB_len (by have := hsl.out; omega)]; exact hDW.ok.l1, hDW.ok.l2, updB_byte hDW.ok.b1 hc2, hDW.ok.b2, hDW.ok.q⟩⟩
        replace hst1 := Lib.hid hst1
        clear hdr
        by_cases h1 : kv = 1
        · subst h1
          rw [if_pos rfl] at hcr2
          go_upto_region 6 with (fail)
          refine wp_region_last (S := (fun w' => w'.cell? ⟨gd, 0, none⟩ = some (.slice (some ⟨gs, 0, none⟩) s.n s.n) ∧ Blk w' g5 81 (rWr N b).toArray ∧ Blk w' gs 79 (ic .u8 sto).toArray)) 9 _ (by simp only [List.pop_toArray, List.dropLast_cons_cons, List.dropLast_singleton]; rfl) (by kernel_rfl) (by kernel_rfl) (by kernel_rfl) (by kernel_rfl) (by kernel_rfl) ?_ (fun hHeld => ?_)
          focus exact ⟨c0, k5, ks5⟩
          refine wpAnyH_take (i := 0) (v := ?_) rfl (by kernel_rfl) (by kernel_rfl) (by kernel_rfl) (fun _ _ _ h => h) (Or.inl ⟨by kernel_rfl, ?_⟩) (by assumption) ?_
          rotate_left
          focus
            intro w9 hSw
            (try dsimp only at hSw)
            go_simp
            (try with_reducible rfl)
          (try simp only [Act.put, List.getElem_toArray, List.getElem_cons_succ, List.getElem_cons_zero, List.setIfInBounds_toArray, List.set_cons_zero, List.set_cons_succ])
          refine wpAnyH_take (i := 1) (v := ?_) rfl (by kernel_rfl) (by kernel_rfl) (by kernel_rfl) (fun _ _ _ h => h) (Or.inl ⟨by kernel_rfl, ?_⟩) (by assumption) ?_
          rotate_left
          focus
            intro w9 hSw
            (try dsimp only at hSw)
            go_simp
            (try with_reducible rfl)
          (try simp only [Act.put, List.getElem_toArray, List.getElem_cons_succ, List.getElem_cons_zero, List.setIfInBounds_toArray, List.set_cons_zero, List.set_cons_succ])
          refine wpAnyH_take (i := 2) (v := ?_) rfl (by kernel_rfl) (by kernel_rfl) (by kernel_rfl) (fun _ _ _ h => h) (Or.inl ⟨by kernel_rfl, ?_⟩) (by assumption) ?_
          rotate_left
          focus
            intro w9 hSw
            (try dsimp only at hSw)
            go_simp
            (try with_reducible rfl)
          (try simp only [Act.put, List.getElem_toArray, List.getElem_cons_succ, List.getElem_cons_zero, List.setIfInBounds_toArray, List.set_cons_zero, List.set_cons_succ])
          refine wpAnyH_take (i := 3) (v := ?_) rfl (by kernel_rfl) (by kernel_rfl) (by kernel_rfl) (fun _ _ _ h => h) (Or.inl ⟨by kernel_rfl, ?_⟩) (by assumption) ?_
          rotate_left
          focus
            intro w9 hSw
            (try dsimp only at hSw)
            go_simp
            (try with_reducible rfl)
          (try simp only [Act.put, List.getElem_toArray, List.getElem_cons_succ, List.getElem_cons_zero, List.setIfInBounds_toArray, List.set_cons_zero, List.set_cons_succ])
          refine wpAnyH_take (i := 4) (v := ?_) rfl (by kernel_rfl) (by kernel_rfl) (by kernel_rfl) (fun _ _ _ h => h) (Or.inl ⟨by kernel_rfl, ?_⟩) (by assumption) ?_
          rotate_left
          focus
            intro w9 hSw
            (try dsimp only at hSw)
            go_simp
            (try with_reducible rfl)
          (try simp only [Act.put, List.getElem_toArray, List.getElem_cons_succ, List.getElem_cons_zero, List.setIfInBounds_toArray, List.set_cons_zero, List.set_cons_succ])
          refine wpAnyH_take (i := 5) (v := ?_) rfl (by kernel_rfl) (by kernel_rfl) (by kernel_rfl) (fun _ _ _ h => h) (Or.inl ⟨by kernel_rfl, ?_⟩) (by assumption) ?_
          rotate_left
          focus
            intro w9 hSw'
            (try dsimp only at hSw')
            have zr := (fun w9 (h9 : _ ∧ Blk w9 g5 81 (rWr N b).toArray ∧ _) => hc50.out w9 h9.2.1) w9 hSw'
            clear hSw'
            go_simp
            (try with_reducible rfl)
          (try simp only [Act.put, List.getElem_toArray, List.getElem_cons_succ, List.getElem_cons_zero, List.setIfInBounds_toArray, List.set_cons_zero, List.set_cons_succ])
          refine wpAnyH_take (i := 6) (v := ?_) rfl (by kernel_rfl) (by kernel_rfl) (by kernel_rfl) (fun _ _ _ h => h) (Or.inl ⟨by kernel_rfl, ?_⟩) (by assumption) ?_
          rotate_left
          focus
            intro w9 hSw
            (try dsimp only at hSw)
            go_simp
            (try with_reducible rfl)
          (try simp only [Act.put, List.getElem_toArray, List.getElem_cons_succ, List.getElem_cons_zero, List.setIfInBounds_toArray, List.set_cons_zero, List.set_cons_succ])
          refine wpAnyH_take (i := 7) (v := .agg (ic .u8 b).toArray) rfl (by kernel_rfl) (by kernel_rfl) (by kernel_rfl) (fun _ _ _ h => h) (Or.inl ⟨by kernel_rfl, fun w9 h9 => yields_load 79 (.tmp 32) rfl ⟨g5, 1, none⟩ rfl (ic .u8 b) _ Try.underlying79 rfl hsz2.out (hseg.out w9 h9.2.1)⟩) (by assumption) ?_
          (try simp only [Act.put, List.getElem_toArray, List.getElem_cons_succ, List.getElem_cons_zero, List.setIfInBounds_toArray, List.set_cons_zero, List.set_cons_succ])
          refine wpAnyH_take (i := 8) (v := ?_) rfl (by kernel_rfl) (by kernel_rfl) (by kernel_rfl) (fun _ _ _ h => h) (Or.inl ⟨by kernel_rfl, ?_⟩) (by assumption) ?_
          rotate_left
          focus
            intro w9 hSw
            (try dsimp only at hSw)
            go_simp
            (try with_reducible rfl)
          (try simp only [Act.put, List.getElem_toArray, List.getElem_cons_succ, List.getElem_cons_zero, List.setIfInBounds_toArray, List.set_cons_zero, List.set_cons_succ])
          refine wpAnyH_done (by kernel_rfl) (lastQ_step rfl (fun K hK => ?_)) _
          refine step_store_any (by rfl) 79 (.tmp 34) (.tmp 33) (by rfl) gs (N * 64) (by rfl) 79 (ic .u8 sto).toArray (ic .u8 b) (by rfl) ks5 hsz2.out (by rw [ic_length, hb64'.out, List.size_toArray, ic_length, hsl.out]; omega) (ic_cell _ _) ?_
          (try simp only [Act.put])
          refine hK _ _ ?_
          clear hK K
          rw [show w5.drew.setRow gs (putAt (ic .u8 sto).toArray.toList (N * 64) (ic .u8 b)).toArray = w5.drew.setRow gs (ic .u8 (updB sto (64 * N) b)).toArray by rw [List.toList_toArray, putAt_ic, Nat.mul_comm N 64]]
          have hD6 := hst1.out w5.drew ks5 (hD5h.out.drewN 1) b (Nat.le_of_eq hb64'.out) hbb
          have hm6 := (hm5.drewN 1).setRow (g := gs) (fun _ => rfl) (ic .u8 (updB sto (64 * N) b)).toArray
          change Mod (fun b => b = gs) w (w5.drew.setRow gs (ic .u8 (updB sto (64 * N) b)).toArray) at hm6
          generalize w5.drew.setRow gs (ic .u8 (updB sto (64 * N) b)).toArray = w6 at *
          clear hHeld c0 ks5 k5 y0
          go_wp2_with (fail)
          go_roundw
          case rel => exact ⟨i + 1, updB sto (64 * N) b, by omega, by go_num, hcr2.out, hD6, hm6⟩
          case measure => simp [intOf]; omega
        · by_cases h2 : kv = 2
          · subst h2
            rw [if_neg h1, if_pos rfl] at hcr2
            clear h1
            have c50 := hc50.out w5 k5
            have hcp : ∀ ty, (Builtin.copy_ #[36, 36] ty #[.slice (some ⟨gs, N * 64, none⟩) 32 64, .slice (some ⟨g5, 1, none⟩) 64 64]).run Try.prog w5.drew = .ok (goInt 32) (w5.drew.setRow gs (ic .u8 (updB sto (64 * N) (b.take 32))).toArray) := fun ty => by
              have h32 : (b.take 32).length = 32 := by rw [List.length_take, hb64'.out]; omega
              have h1 := run_copy_row Try.prog w5.drew 36 36 ty 5 gs (N * 64) 32 64 ⟨g5, 1, none⟩ 64 64 _ _ (ic .u8 (b.take 32)) Try.underlying36 (by kernel_rfl) ks5 (by rw [ic_length, h32]; rfl) (fun j v hv => by
                refine hseg.out w5 k5 j v ?_
                rw [← ic_take, List.getElem?_take] at hv
                split at hv
                · exact hv
                · cases hv) (by rw [ic_length, h32, List.size_toArray, ic_length, hsl.out]; omega) (ic_cell _ _)
              rw [ic_length, h32] at h1
              rw [h1, Nat.mul_comm 64 N]
              have e := putAt_ic .u8 sto (b.take 32) (N * 64)
              simp only [putAt, ic_length, h32] at e
              simp only [List.append_assoc] at e ⊢
              rw [e]
              rfl
            go_wp2_with (fail)
            refine wp_still_tail 10 (by kernel_rfl) (by kernel_rfl) ?_
            simp only [List.take_succ_cons, List.take_zero, List.drop_succ_cons, List.drop_zero]
            repeat still_step
            refine wpStill_nil ?_
            go_upto_region 9 with (fail)
            have hD6 := hst1.out w5.drew ks5 (hD5h.out.drewN 1) (b.take 32) (by rw [List.length_take]; omega) (fun x hx => hbb x (List.mem_of_mem_take hx))
            have hm6 := (hm5.drewN 1).setRow (g := gs) (fun _ => rfl) (ic .u8 (updB sto (64 * N) (b.take 32))).toArray
            change Mod (fun b => b = gs) w (w5.drew.setRow gs (ic .u8 (updB sto (64 * N) (b.take 32))).toArray) at hm6
            generalize w5.drew.setRow gs (ic .u8 (updB sto (64 * N) (b.take 32))).toArray = w6 at *
            clear hcp c50 c0 ks5 k5 y0
            go_wp2_with (fail)
            go_roundw
            case rel => exact ⟨i + 1, updB sto (64 * N) (b.take 32), by omega, by go_num, hcr2.out, hD6, hm6⟩
            case measure => simp [intOf]; omega
          · rw [if_neg h1, if_neg h2] at hcr2
            have e1 : (kv == 1) = false := beq_false_of_ne h1
            have e2 : (kv == 2) = false := beq_false_of_ne h2
            clear h1 h2
            go_wp2_with (fail)
            go_roundw
            case rel => exact ⟨i + 1, sto, by omega, by go_num, hcr2.out, hD5h.out, hm5⟩
            case measure => simp [intOf]; omega
      · have hcr2 := HCr.out
        rw [crs, if_neg hik] at hcr2
        replace hcr2 := Lib.hid hcr2
        have hD5h := Lib.hid hD5
        clear hD5 HD2 HCr HM2 HKs b5 hrk
        go_upto_region 10 with (fail)
        have hDf := hD5h.out
        have kse := hDf.be
        have kss := hDf.bs
        have hokf := hDf.ok
        have hcp := fun ty => run_copy_all w5.drew ty ge gs s.n s.see sto hokf.l2 hokf.l1 kse kss
        have c0 := hDf.bd.cell 0
        have c1 := hDf.bd.cell 1
        have hDfh := Lib.hid hDf
        clear hDf kse kss
        go_wp2_with (fail)
        refine wp_still_tail 8 (by kernel_rfl) (by kernel_rfl) ?_
        simp only [List.take_succ_cons, List.take_zero, List.drop_succ_cons, List.drop_zero]
        repeat still_step
        refine wpStill_nil ?_
        go_upto_region 11 with (fail)
        clear hcp c0 c1
        have hm8 : Mod (· = ge) w5 (w5.drew.setRow ge (ic .u8 sto).toArray) := (Mod.refl (fun x => x = ge) w5).drew.setRow (fun _ => rfl) _
        have ke8 : Blk (w5.drew.setRow ge (ic .u8 sto).toArray) ge 79 (ic .u8 sto).toArray := Blk.setRow (w := w5.drew) hDfh.out.be _
        generalize w5.drew.setRow ge (ic .u8 sto).toArray = w8 at *
        have hne := hDfh.out.ne
        have kd8 := hDfh.out.bd.mod hm8 hne.2.1
        have ks8 := hDfh.out.bs.mod hm8 hne.2.2
        have c2 := kd8.cell 2
        have f2 := kd8.frozen 2
        go_wp2
        go_end0
        have hm9 : Mod (· = gd) w8 (w8.setCell ⟨gd, 2, none⟩ (.slice none 0 0)) := mod_put (Mod.refl _ _) (fun _ => rfl)
        have kd9 := kd8.set_ 2 (.slice none 0 0)
        have hcrf : (s.crash kept) = ⟨s.n, sto, sto, []⟩ := by rw [Dk.crash, ← hcr2.out]
        rw [hcrf]
        have hgf := hDfh.out.ge_
        refine ⟨rfl, ⟨by simpa using kd9, ks8.mod hm9 (fun e => hne.1 e.symm), ke8.mod hm9 (fun e => hne.2.1 e.symm), OwnG.nil_ _ _ _ _ _ _, hne, fun b hb => (by cases hb), ⟨hgf.1, hgf.2.1, hgf.2.2.1, Nat.le_trans hgf.2.2.2 (Nat.le_trans hm8.size hm9.size)⟩, ⟨hokf.n0, hokf.n1, hokf.l1, hokf.l1, hokf.b1, hokf.b1, fun x hx => (by cases hx)⟩⟩, ?_⟩
        exact (((hm5.mono (fun b h _ => Or.inr (Or.inl h))).trans (M' := (· = ge)) hm8 (fun b h _ => .inr (.inr h)))).trans (M' := (· = gd)) hm9 (fun b h _ => .inl h)
    · have hie : i = s.qs.length := by omega
      rw [List.drop_eq_nil_of_le (by omega), crs] at hcr
      have hcr2 := Lib.hid hcr
      have hD5h := Lib.hid hD
      obtain ⟨A1, c1, hv1, _, _, _⟩ := hD.oq.form WrR.good
      clear hD hcr hv1
      subst hie
      go_upto_region 10 with (fail)
      have hDf := hD5h.out
      have kse := hDf.be
      have kss := hDf.bs
      have hokf := hDf.ok
      have hcp := fun ty => run_copy_all wr.drew ty ge gs s.n s.see sto hokf.l2 hokf.l1 kse kss
      have c0 := hDf.bd.cell 0
      have c1 := hDf.bd.cell 1
      have hDfh := Lib.hid hDf
      clear hDf kse kss
      go_wp2_with (fail)
      refine wp_still_tail 8 (by kernel_rfl) (by kernel_rfl) ?_
      simp only [List.take_succ_cons, List.take_zero, List.drop_succ_cons, List.drop_zero]
      repeat still_step
      refine wpStill_nil ?_
      go_upto_region 11 with (fail)
      clear hcp c0 c1
      have hm8 : Mod (· = ge) wr (wr.drew.setRow ge (ic .u8 sto).toArray) := (Mod.refl (fun x => x = ge) wr).drew.setRow (fun _ => rfl) _
      have ke8 : Blk (wr.drew.setRow ge (ic .u8 sto).toArray) ge 79 (ic .u8 sto).toArray := Blk.setRow (w := wr.drew) hDfh.out.be _
      generalize wr.drew.setRow ge (ic .u8 sto).toArray = w8 at *
      have hne := hDfh.out.ne
      have kd8 := hDfh.out.bd.mod hm8 hne.2.1
      have ks8 := hDfh.out.bs.mod hm8 hne.2.2
      have c2 := kd8.cell 2
      have f2 := kd8.frozen 2
      go_wp2
      go_end0
      have hm9 : Mod (· = gd) w8 (w8.setCell ⟨gd, 2, none⟩ (.slice none 0 0)) := mod_put (Mod.refl _ _) (fun _ => rfl)
      have kd9 := kd8.set_ 2 (.slice none 0 0)
      have hcrf : (s.crash kept) = ⟨s.n, sto, sto, []⟩ := by rw [Dk.crash, ← hcr2.out]
      rw [hcrf]
      have hgf := hDfh.out.ge_
      refine ⟨rfl, ⟨by simpa using kd9, ks8.mod hm9 (fun e => hne.1 e.symm), ke8.mod hm9 (fun e => hne.2.1 e.symm), OwnG.nil_ _ _ _ _ _ _, hne, fun b hb => (by cases hb), ⟨hgf.1, hgf.2.1, hgf.2.2.1, Nat.le_trans hgf.2.2.2 (Nat.le_trans hm8.size hm9.size)⟩, ⟨hokf.n0, hokf.n1, hokf.l1, hokf.l1, hokf.b1, hokf.b1, fun x hx => (by cases hx)⟩⟩, ?_⟩
      exact (((hm.mono (fun b h _ => Or.inr (Or.inl h))).trans (M' := (· = ge)) hm8 (fun b h _ => .inr (.inr h)))).trans (M' := (· = gd)) hm9 (fun b h _ => .inl h)
theorem dcrash_any {w : World} {base gd gs ge : Nat} {vq : Value} {s : Dk} (h : DkM w base gd gs ge vq s) (hq : s.qs.length ≤ 1000000) (Ak : Option Addr) (ck : Nat) (kept : List Int) (hb : ∀ x ∈ kept, i64B x) (hc : kept.length ≤ ck) {B : Nat} (hr : RdI w B .i64 Ak kept) (hB : B ≤ base) :
    Calls Try.prog 14 #[.pointer (some ⟨gd, 0, none⟩), .slice Ak kept.length ck] w fun e w' => e = .returned (.tuple #[]) ∧ DkM w' base gd gs ge (.slice none 0 0) (s.crash kept) ∧ Mod (fun b => b = gd ∨ b = gs ∨ b = ge) w w' :=
  dcrash_S h hq Ak ck kept hb hc hr.rds (fun b hb _ e => by have := h.ge_.2.1; omega)
end Go.Proofs.Ytdlbjilbdbjadaa
