/- mend.Guard. -/
import Derived.Test.YtdnkdjaokmibjaaMdGd
import Derived.BigQuiet
import Derived.Deep.QuietTactic
set_option linter.unusedSimpArgs false
set_option linter.unusedVariables false
namespace Go.Proofs.Ytdnkdjaokmibjaa
open Go.RowKit

def gTo (l : List Pg) (k : Nat) : List Pg := (List.range k).flatMap fun j => grp l j ++ [guardG (grp l j)]
theorem gTo_succ (l : List Pg) (k : Nat) : gTo l (k + 1) = (gTo l k ++ grp l k) ++ [guardG (grp l k)] := by
  rw [gTo, List.range_succ, List.flatMap_append, List.append_assoc]; simp [gTo]
theorem grp_len (l : List Pg) (k : Nat) : (grp l k).length = min 8 (l.length - 8 * k) := by simp [grp]
theorem gTo_len (l : List Pg) (k : Nat) : (gTo l k).length ≤ 9 * k := by
  induction k with
  | zero => simp [gTo]
  | succ k ih => rw [gTo_succ]; simp only [List.length_append, List.length_singleton, grp_len]; omega
theorem grp_mem {l : List Pg} {k : Nat} {p : Pg} (h : p ∈ grp l k) : p ∈ l := List.mem_of_mem_drop (List.mem_of_mem_take h)
theorem gOk_at {l : List Pg} {i : Nat} (h : i < l.length) : l.getD i zg = l[i] := by rw [List.getD_eq_getElem?_getD, List.getElem?_eq_getElem h]; rfl
theorem pgOk_seq {p : Pg} (h : pgOk p = true) : 0 ≤ p.seq ∧ p.seq ≤ 2147483647 := by
  have := of_decide_eq_true h
  omega

theorem flagX_bd (l : List Pg) : isByte (flagX 0 l) := by rw [flagX_eq l .zero]; exact xo_bd _ _
theorem sizeX_bd (l : List Pg) : isByte (sizeX 0 l) := by rw [sizeX_eq l .zero]; exact xo_bd _ _
theorem guardG_len (l : List Pg) : (guardG l).body.length = longest l + 3 := by
  show ([(l.length : Int) % 256, flagX 0 l, sizeX 0 l] ++ sumX [] l).length = _
  rw [List.length_append, sumX_len]; simp; omega
theorem guardG_wf {l : List Pg} (h0 : 0 < l.length) (hw : ∀ p ∈ l, p.wf) (hb : ∀ p ∈ l, p.body.length ≤ 1000) : (guardG l).wf := by
  refine ⟨?_, ?_, ?_⟩
  · show i64B (l.getD 0 zg).seq
    rw [gOk_at h0]
    exact (hw _ (List.getElem_mem h0)).seq
  · rw [guardG_len]
    have := longest_bd (l := l) (n := 1000) hb
    omega
  · show byteB ([(l.length : Int) % 256, flagX 0 l, sizeX 0 l] ++ sumX [] l)
    refine byteB.append ?_ (sumX_bytes byteB.nil_)
    exact .cons (by omega) (.cons (flagX_bd l) (.cons (sizeX_bd l) .nil_))

set_option maxHeartbeats 16000000 in
set_option maxRecDepth 100000 in
theorem mdguard_any {l : List Pg} {A : Option Addr} {c : Nat} {S : Nat → Prop} {w : World} (hr : RdPg w S A l) (hl : l.length ≤ 1000000) (hlc : l.length ≤ c) :
    Calls Try.prog 10 #[.slice A l.length c] w fun e w' => ∃ v, e = .returned (.tuple #[v, .int .i64 (guardE l)]) ∧ OwnG PgR 5 33 w' w.heap.size (fun b => w.heap.size ≤ b ∧ b < w'.heap.size) v (guardP l) ∧ Below w.heap.size w w' := by
  have hr := hr.weak PgR.good (S' := fun b => b < w.heap.size) (fun b _ h => h)
  have HR := Lib.hid (fun W (h : Below w.heap.size w W) => hr.below PgR.good h)
  have HE0 := Lib.hid (show guardE l = if gAll l = true then 0 else 1 from rfl)
  have HP0 := Lib.hid (show guardP l = if gAll l = true then guarded l else [] from rfl)
  have HBad := Lib.hid (fun i (h : i < l.length) hn => gAll_not (l := l) h hn)
  have HBe := Lib.hid (show gAll l = false → guardE l = 1 ∧ guardP l = [] from fun h => by rw [HE0.out, HP0.out, h]; exact ⟨rfl, rfl⟩)
  clear hr
  go_enter Try.func10, Try.ntmps10
  go_wp2
  go_loopw [13] (fun iv wr => ∃ i : Nat, i ≤ l.length ∧ iv = .int .i64 i ∧ (∀ j, j < i → gOk l j) ∧ Below w.heap.size w wr) (fun iv _ => l.length - (intOf iv).toNat)
  case atStart => exact ⟨0, Nat.zero_le _, rfl, fun j hj => absurd hj (by omega), Below.refl _ _⟩
  case round =>
    obtain ⟨i, hi, rfl, hok, hbr⟩ := hrel
    have HOk := Lib.hid hok
    clear hok
    have hszr := hbr.size
    by_cases hlt : i < l.length
    · obtain ⟨ad, p, Aj, cj, rfl, _, hp, e0, e1, e2, e3, e4, hcj, hrj, hwj⟩ := RdPg.at_ (HR.out _ hbr) hlt
      have HPrev := Lib.hid (show 0 < i → ∃ pp : Addr, ad.add ((i - 1) * 5) = pp ∧ wr.cell? pp = some (.int .i64 (l.getD (i - 1) zg).seq) ∧ 0 ≤ (l.getD (i - 1) zg).seq ∧ (l.getD (i - 1) zg).seq ≤ 2147483647 from fun h => by
        obtain ⟨ad2, p2, _, _, hAd2, _, hp2, z0, _⟩ := RdPg.at_ (HR.out _ hbr) (j := i - 1) (by omega)
        injection hAd2 with hAd2
        subst hAd2
        have h3 := pgOk_seq (HOk.out (i - 1) (by omega)).1
        exact ⟨p2, hp2, by rw [gOk_at (by omega)]; exact z0, h3⟩)
      have HGk := Lib.hid (show gOk l i ↔ pgOk l[i] = true ∧ l[i].guard = false ∧ (0 < i → l[i].seq = (l.getD (i - 1) zg).seq + 1) by rw [gOk, gOk_at hlt])
      have HNo := Lib.hid (show ¬ gOk l i → guardE l = 1 ∧ guardP l = [] from fun h => HBe.out (HBad.out i hlt h))
      have HYes := Lib.hid (show gOk l i → ∀ j, j < i + 1 → gOk l j from fun h j hj => by
        by_cases hji : j = i
        · subst hji; exact h
        · exact HOk.out j (by omega))
      have HAc := fun W (hb : Below wr.heap.size wr W) => accepted_any l[i] Aj cj hwj W ((RdS.top hrj).below hb (Nat.le_refl _) |>.more hb.size)
      generalize (l.getD (i - 1) zg).seq = ps at *
      generalize l[i] = q at *
      have hqs := hwj.seq
      generalize hO : pgOk q = O at *
      obtain ⟨q1, q2, q3, q4, q5⟩ := q
      simp only [Pg.val] at HAc e0 e1 e2 e3 e4 HGk hqs
      have hO' := Lib.hid hO
      clear hO
      replace HAc := Lib.hid HAc
      clear hrj hwj
      go_upto_region 4 with fail
      have bx : Below wr.heap.size wr (wr.alloc (.cells #[.int .i64 q1, .bool q2, .bool q3, .bool q4, .slice Aj q5.length cj] 33)) := below_alloc (Below.refl _ _) _
      have kx := Blk.new wr 33 #[.int .i64 q1, .bool q2, .bool q3, .bool q4, .slice Aj q5.length cj]
      generalize wr.alloc (.cells #[.int .i64 q1, .bool q2, .bool q3, .bool q4, .slice Aj q5.length cj] 33) = wx at *
      have hkl := kx.lt
      have x0 := kx.cell 0
      have x1 := kx.cell 1
      have x2 := kx.cell 2
      have x3 := kx.cell 3
      have x4 := kx.cell 4
      clear e1 e2 e3 e4
      cases O
      · have HN := Lib.hid (HNo.out (fun h => by have := (HGk.out.1 h).1; cases this))
        go_wp2_with (first
          | (go_at_call 30; (with_reducible refine (HAc.out _ bx).mono ?_); rintro e w2 ⟨rfl, hb2⟩))
        go_ret2
        exact ⟨_, by rw [HN.out.1]; rfl, by rw [HN.out.2]; exact OwnG.nil_ _ _ _ _ _ _, below_then hbr (bx.trans (hb2.mono bx.size))⟩
      · cases q4
        · by_cases h0 : i = 0
          · subst h0
            have HS := Lib.hid (HYes.out (HGk.out.2 ⟨rfl, rfl, fun h => absurd h (by omega)⟩))
            go_wp2_with (first
              | (go_at_call 30; (with_reducible refine (HAc.out _ bx).mono ?_); rintro e w2 ⟨rfl, hb2⟩; have y3 := (kx.below hb2 hkl).cell 3))
            go_quiet (fail)
            go_wp2
            go_roundw
            case rel => exact ⟨1, by omega, by go_num, HS.out, below_then hbr (below_drewN (bx.trans (hb2.mono bx.size)) _)⟩
            case measure => simp [intOf]; omega
          · obtain ⟨pp, hpp, z0, hp0, hp1⟩ := HPrev.out (by omega)
            have hpos : 0 < i := by omega
            obtain ⟨k', hk'⟩ : ∃ k', i - 1 = k' := ⟨_, rfl⟩
            rw [hk'] at hpp
            have hkz : IntKind.i64.wrap ((i : Int) - 1) = (k' : Int) := by rw [IntWalk.i64_in _ (by omega)]; omega
            have hkz2 : (i : Int) - 1 = (k' : Int) := by omega
            have hkl' : k' < l.length := by omega
            have hps : IntKind.i64.wrap (ps + 1) = ps + 1 := IntWalk.i64_in _ (by omega)
            have HZ := Lib.hid (fun W (h : Below wr.heap.size wr W) => (h.cell (World.block_lt_of_cell? wr _ z0)).trans z0)
            have HX := Lib.hid (fun W (h : Below wx.heap.size wx W) => (kx.below h hkl).cell 0)
            have hqq : 0 ≤ q1 ∧ q1 ≤ 2147483647 := pgOk_seq hO'.out
            clear z0 hk' h0 e0
            by_cases heq : q1 = ps + 1
            · have HS := Lib.hid (HYes.out (HGk.out.2 ⟨rfl, rfl, fun _ => heq⟩))
              have hne : (q1 != ps + 1) = false := by rw [heq]; simp
              clear heq
              go_wp2_with (first
                | (go_at_call 30; (with_reducible refine (HAc.out _ bx).mono ?_); rintro e w2 ⟨rfl, hb2⟩; have y3 := (kx.below hb2 hkl).cell 3; have y0 := HX.out _ hb2; have z0 := HZ.out _ (bx.trans (hb2.mono bx.size))))
              go_quiet (fail)
              go_wp2
              go_roundw
              case rel => exact ⟨i + 1, by omega, by go_num, HS.out, below_then hbr (below_drewN (bx.trans (hb2.mono bx.size)) _)⟩
              case measure => simp [intOf]; omega
            · have HN := Lib.hid (HNo.out (fun h => heq ((HGk.out.1 h).2.2 hpos)))
              have hne : (q1 != ps + 1) = true := by rw [bne_iff_ne]; exact heq
              clear heq
              go_wp2_with (first
                | (go_at_call 30; (with_reducible refine (HAc.out _ bx).mono ?_); rintro e w2 ⟨rfl, hb2⟩; have y3 := (kx.below hb2 hkl).cell 3; have y0 := HX.out _ hb2; have z0 := HZ.out _ (bx.trans (hb2.mono bx.size))))
              go_quiet (fail)
              go_wp2
              go_ret2
              exact ⟨_, by rw [HN.out.1]; rfl, by rw [HN.out.2]; exact OwnG.nil_ _ _ _ _ _ _, below_then hbr (below_drewN (bx.trans (hb2.mono bx.size)) _)⟩
        · have HN := Lib.hid (HNo.out (fun h => by have := (HGk.out.1 h).2.1; cases this))
          go_wp2_with (first
            | (go_at_call 30; (with_reducible refine (HAc.out _ bx).mono ?_); rintro e w2 ⟨rfl, hb2⟩; have y3 := (kx.below hb2 hkl).cell 3))
          go_ret2
          exact ⟨_, by rw [HN.out.1]; rfl, by rw [HN.out.2]; exact OwnG.nil_ _ _ _ _ _ _, below_then hbr (bx.trans (hb2.mono bx.size))⟩
    · have hil : i = l.length := by omega
      subst hil
      have HAll := Lib.hid (gAll_iff.2 HOk.out)
      have HG := Lib.hid (show guardE l = 0 ∧ guardP l = guarded l by rw [HE0.out, HP0.out, HAll.out]; exact ⟨rfl, rfl⟩)
      have HOk3 := Lib.hid (fun p (hp : p ∈ l) => show pgOk p = true from by
        obtain ⟨j, hj, rfl⟩ := List.getElem_of_mem hp
        have := (HOk.out j hj).1
        rwa [gOk_at hj] at this)
      clear HE0 HP0 HBad HBe HOk
      have HB0 := Lib.hid hbr
      have HR1 := Lib.hid (fun W (h : Below wr.heap.size wr W) => HR.out W (hbr.trans (h.mono hszr)))
      clear HR
      obtain ⟨w1, rfl⟩ : ∃ w1 : World, w1 = wr := ⟨_, rfl⟩
      go_wp2
      go_loopw [6, 7] (fun v iv wr => ∃ k f : Nat, f = 8 * k ∧ f ≤ l.length + 7 ∧ iv = .int .i64 f ∧ OwnG PgR 5 33 wr w1.heap.size (fun b => w1.heap.size ≤ b ∧ b < wr.heap.size) v (gTo l k) ∧ Below w1.heap.size w1 wr) (fun _ iv _ => l.length - (intOf iv).toNat)
      case atStart => exact ⟨0, 0, rfl, by omega, rfl, OwnG.nil_ _ _ _ _ _ _, Below.refl _ _⟩
      case round =>
        obtain ⟨k, f, hf, hfl, rfl, hown, hbr1⟩ := hrel
        have hsz1 := hbr1.size
        have HF := Lib.hid hf
        clear hf
        by_cases hlt : f < l.length
        · obtain ⟨hh, hhm⟩ : ∃ hh : Nat, hh = min (f + 8) l.length := ⟨_, rfl⟩
          have hh1 : f < hh := by omega
          have hh2 : hh ≤ l.length := by omega
          have hh3 : hh ≤ f + 8 := by omega
          have hmn : (if (l.length : Int) < (f : Int) + 8 then (l.length : Int) else (f : Int) + 8) = (hh : Int) := by split <;> omega
          have hwf : IntKind.i64.wrap ((f : Int) + 8) = (f : Int) + 8 := IntWalk.i64_in _ (by omega)
          obtain ⟨Ag, hsl, hrg⟩ := RdG.slice_lh (P := Try.prog) Try.underlying23 info_pg (HR1.out _ hbr1) (lo := f) (hh := hh) (c := c) (by omega) hh2 hlc
          have HGr := Lib.hid (show (l.drop f).take (hh - f) = grp l k by
            have := HF.out
            rw [grp, ← this]
            by_cases h8 : f + 8 ≤ l.length
            · rw [show hh - f = 8 by omega]
            · rw [List.take_of_length_le (by simp; omega), List.take_of_length_le (by simp; omega)])
          rw [HGr.out] at hrg
          have HGl := Lib.hid (show (grp l k).length = hh - f by rw [← HGr.out]; simp; omega)
          have HGs := Lib.hid (gTo_succ l k)
          have HOl := Lib.hid (gTo_len l k)
          have HRg := Lib.hid (fun W (h : Below w1.heap.size wr W) => hrg.keep PgR.good (Mod.of_below (M := fun b => w1.heap.size ≤ b) h (fun b h _ => h)) (fun b hb' _ h9 => by have h8 : b < w.heap.size := hb'; have h7 : w1.heap.size ≤ b := h9; omega))
          have HGo := Lib.hid (fun p (hp : p ∈ grp l k) => (pgOk_len (HOk3.out p (grp_mem hp))).2)
          clear hrg hhm
          have HOw := Lib.hid hown
          have HB1 := Lib.hid hbr1
          clear hown hbr1
          obtain ⟨w2, rfl⟩ : ∃ w2 : World, w2 = wr := ⟨_, rfl⟩
          have hhf : hh - f ≤ 8 := by omega
          obtain ⟨m, hm⟩ : ∃ m, hh - f = m := ⟨_, rfl⟩
          rw [hm] at hsl HGl hhf
          have hm1 : 1 ≤ m := by omega
          have HFm := Lib.hid (show hh = f + m by omega)
          have hfm : f + m ≤ l.length := by omega
          have HOl2 : (gTo l k).length ≤ 2000000 := by have := HOl.out; have := HF.out; omega
          have hgl : (grp l k).length ≤ m := by rw [HGl.out]; exact Nat.le_refl _
          have hgl2 : m ≤ (grp l k).length := by rw [HGl.out]; exact Nat.le_refl _
          generalize hG : gTo l k = O at *
          generalize hGg : grp l k = G at *
          clear hG hGg hm HGr HOl hh1 hh2 hh3
          go_wp2
          clear hmn hwf hsl
          go_loopw [6, 56] (fun v jv wr => ∃ j : Nat, j ≤ m ∧ jv = .int .i64 j ∧ OwnG PgR 5 33 wr w1.heap.size (fun b => w1.heap.size ≤ b ∧ b < wr.heap.size) v (O ++ G.take j) ∧ Below w1.heap.size w2 wr) (fun _ jv _ => m - (intOf jv).toNat)
          case atStart => exact ⟨0, Nat.zero_le _, rfl, by simpa using HOw.out, Below.refl _ _⟩
          case round =>
            obtain ⟨j, hj, rfl, hown, hbr⟩ := hrel
            have hszr := hbr.size
            have hb12 := HB1.out.trans hbr
            have hol : (O ++ G.take j).length ≤ 2000010 := by simp; omega
            by_cases hlt : j < m
            · obtain ⟨A0, c0, rfl, hc0, _, hob0⟩ := hown.form PgR.good
              have hjG : j < G.length := by omega
              obtain ⟨ad, p, Aj, cj, hAd, _, hp, e0, e1, e2, e3, e4, hcj, hrj, hwj⟩ := RdPg.at_ (HRg.out _ hbr) hjG
              subst hAd
              have HT := Lib.hid (show O ++ G.take (j + 1) = (O ++ G.take j) ++ [G[j]] by rw [List.take_succ_eq_append_getElem hjG, List.append_assoc])
              have HC := fun W (hb : Below wr.heap.size wr W) => copied_any G[j] Aj cj hwj (by have := HGo.out G[j] (List.getElem_mem hjG); omega) W ((RdS.top hrj).below hb (Nat.le_refl _) |>.more hb.size)
              generalize O ++ G.take j = xs at *
              generalize G[j] = q at *
              obtain ⟨q1, q2, q3, q4, q5⟩ := q
              simp only [Pg.val] at HC e0 e1 e2 e3 e4
              replace HC := Lib.hid HC
              have HWf := Lib.hid hwj
              clear hrj hwj
              go_upto_region 17 with fail
              have bx : Below wr.heap.size wr (wr.alloc (.cells #[.int .i64 q1, .bool q2, .bool q3, .bool q4, .slice Aj q5.length cj] 33)) := below_alloc (Below.refl _ _) _
              have kx := Blk.new wr 33 #[.int .i64 q1, .bool q2, .bool q3, .bool q4, .slice Aj q5.length cj]
              have how := hown.keep PgR.good (Mod.of_fresh (M := fun _ => False) bx) (fun _ _ _ h => h) (fun _ _ h => h)
              generalize wr.alloc (.cells #[.int .i64 q1, .bool q2, .bool q3, .bool q4, .slice Aj q5.length cj] 33) = wx at *
              have hkl := kx.lt
              have hsx := bx.size
              have x0 := kx.cell 0
              have x1 := kx.cell 1
              have x2 := kx.cell 2
              have x3 := kx.cell 3
              have x4 := kx.cell 4
              clear e0 e1 e2 e3 e4
              go_wp2_with (first
                | (go_at_call 31; (with_reducible refine (HC.out _ bx).mono ?_); rintro e w6 ⟨A6, c6, rfl, ho6, hb6⟩; have hs6 := hb6.size; obtain ⟨_, hc6, hr6⟩ := ho6.rds; have hown6 := how.keep PgR.good (Mod.of_fresh (M := fun _ => False) hb6) (fun _ _ _ h => h) (fun _ _ h => h); have hrx : RdS w6 (fun b => wr.heap.size ≤ b ∧ b < w6.heap.size) .u8 A6 q5 := hr6.weak (fun b hb _ => ⟨by have := hb.1; omega, hb.2.1⟩))
                | (at_builtin; (refine wpList_push_G (v := .slice A0 xs.length c0) rfl (.tmp 60) (.tmp 63) _ rfl PgR.good w6 (.agg #[.int .i64 0, .bool false, .bool false, .bool false, .slice none 0 0]) 40 Try.underlying23 info_pg rfl (by omega) rfl hown6 (fun b => wr.heap.size ≤ b ∧ b < w6.heap.size) _ 1 [.int .i64 q1, .bool q2, .bool q3, .bool q4, .slice A6 q5.length c6] ⟨q1, q2, q3, q4, q5⟩ rfl rfl (show PgR _ _ _ _ from ⟨A6, c6, rfl, hc6, hrx, HWf.out⟩) (fun b => w1.heap.size ≤ b ∧ b ≤ w6.heap.size) (fun b hb _ => ⟨hb.1, by have := hb.2; omega⟩) (fun b hb _ => ⟨by have := hb.1; omega, by have := hb.2; omega⟩) (fun b hb h => by have := (hob0 b hb).2; have := h.1; omega) (fun b hb => hb.2) ⟨by omega, Nat.le_refl _⟩ (by omega) (by omega) ?_); intro v7 w7 ow7 hg7 hv7))
              have hb78 : Below w1.heap.size w6 w7 := Below.grown (below_alloc (Below.refl w6.heap.size w6) _ |>.mono (by omega)) hg7 (by simp; omega) (fun b hb => (hob0 b hb).1)
              have hbf := hbr.trans ((bx.mono (by omega)).trans ((hb6.mono (by omega)).trans hb78))
              have hs7 := hg7.size
              simp at hs7
              go_roundw
              case rel => exact ⟨j + 1, by omega, by go_num, by rw [HT.out]; exact ow7.weak PgR.good (fun b hb hl9 => ⟨hb.1, hl9⟩), hbf⟩
              case measure => simp [intOf]; omega
            · have hjm : j = m := by omega
              subst hjm
              rw [List.take_of_length_le (by omega)] at hown
              have hol3 : (O ++ G).length ≤ 2000010 := by simp; omega
              have HGd := fun W (h : Below w1.heap.size w2 W) => guard_any (c := c - f) (HRg.out W h) (by omega) (by omega) (fun p hp => by have := HGo.out p hp; omega)
              rw [HGl.out] at HGd
              have HWf := Lib.hid (guardG_wf (l := G) (by omega) (fun p hp => by
                obtain ⟨x, hx, rfl⟩ := List.getElem_of_mem hp
                obtain ⟨_, _, _, _, _, _, _, _, _, _, _, _, _, _, hwf⟩ := RdPg.at_ (HRg.out _ hbr) hx
                exact hwf) (fun p hp => by have := HGo.out p hp; omega))
              generalize hO2 : O ++ G = xs at *
              clear hO2
              generalize guardG G = gp at *
              obtain ⟨g1, g2, g3, g4, g5⟩ := gp
              simp only [Pg.val] at HGd
              replace HGd := Lib.hid HGd
              obtain ⟨A0, c0, rfl, hc0, _, hob0⟩ := hown.form PgR.good
              have HOw2 := Lib.hid hown
              clear hown
              go_wp2_with (first
                | (go_at_call 32; (with_reducible refine (HGd.out _ hbr).mono ?_); rintro e w6 ⟨A6, c6, rfl, ho6, hb6⟩; have hs6 := hb6.size; obtain ⟨_, hc6, hr6⟩ := ho6.rds; have hown6 := HOw2.out.keep PgR.good (Mod.of_fresh (M := fun _ => False) hb6) (fun _ _ _ h => h) (fun _ _ h => h); have hrx : RdS w6 (fun b => wr.heap.size ≤ b ∧ b < w6.heap.size) .u8 A6 g5 := hr6.weak (fun b hb _ => ⟨by have := hb.1; omega, hb.2.1⟩))
                | (at_builtin; (refine wpList_push_G (v := .slice A0 xs.length c0) rfl (.tmp 66) (.tmp 69) _ rfl PgR.good w6 (.agg #[.int .i64 0, .bool false, .bool false, .bool false, .slice none 0 0]) 40 Try.underlying23 info_pg rfl (by omega) rfl hown6 (fun b => wr.heap.size ≤ b ∧ b < w6.heap.size) _ 1 [.int .i64 g1, .bool g2, .bool g3, .bool g4, .slice A6 g5.length c6] ⟨g1, g2, g3, g4, g5⟩ rfl rfl (show PgR _ _ _ _ from ⟨A6, c6, rfl, hc6, hrx, HWf.out⟩) (fun b => w1.heap.size ≤ b ∧ b ≤ w6.heap.size) (fun b hb _ => ⟨hb.1, by have := hb.2; omega⟩) (fun b hb _ => ⟨by have := hb.1; omega, by have := hb.2; omega⟩) (fun b hb h => by have := (hob0 b hb).2; have := h.1; omega) (fun b hb => hb.2) ⟨by omega, Nat.le_refl _⟩ (by omega) (by omega) ?_); intro v7 w7 ow7 hg7 hv7))
              have hb78 : Below w1.heap.size w6 w7 := Below.grown (below_alloc (Below.refl w6.heap.size w6) _ |>.mono (by omega)) hg7 (by simp; omega) (fun b hb => (hob0 b hb).1)
              have hbf := hb12.trans ((hb6.mono (by omega)).trans hb78)
              have hs7 := hg7.size
              simp at hs7
              have hw8 : IntKind.i64.wrap ((f : Int) + 8) = ((f + 8 : Nat) : Int) := by rw [IntWalk.i64_in _ (by omega)]; omega
              go_wp2
              go_roundw
              case rel => exact ⟨k + 1, f + 8, by have := HF.out; omega, by omega, by first | rfl | go_num, by rw [HGs.out]; exact ow7.weak PgR.good (fun b hb hl9 => ⟨hb.1, hl9⟩), hbf⟩
              case measure => simp [intOf]; omega
        · have hk : k = nGrp l := by have := HF.out; rw [nGrp]; omega
          have HE := Lib.hid (show gTo l k = guarded l by rw [hk]; rfl)
          clear hk
          go_wp2
          go_ret2
          refine ⟨_, by rw [HG.out.1]; rfl, ?_, HB0.out.trans (hbr1.mono hszr)⟩
          rw [HG.out.2, ← HE.out]
          exact (hown.base_ hszr).weak PgR.good (fun b hb _ => ⟨by have := hb.1; omega, hb.2⟩)
end Go.Proofs.Ytdnkdjaokmibjaa
