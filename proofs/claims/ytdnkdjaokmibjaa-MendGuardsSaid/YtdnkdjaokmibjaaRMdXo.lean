/- The reference's xored. -/
import Derived.Test.YtdnkdjaokmibjaaMdGd
import Derived.Test.YtdnkdjaokmibjaaRPgBytes
import Derived.BigQuiet
import Derived.Deep.QuietTactic
import Derived.Deep.RegionHeld3
import Derived.Test.YtdnkdjaokmibjaaPicLast
set_option linter.unusedSimpArgs false
set_option linter.unusedVariables false
namespace Go.Proofs.Ytdnkdjaokmibjaa
open Go.RowKit

/-- flags, length, body of pages, all xored -/
def xrd (l : List Pg) : List Int := [flagX 0 l, sizeX 0 l] ++ sumX [] l
/-- .. of which k bytes of one more body are xored in -/
def xrK (f s : Int) (su b : List Int) (k : Nat) : List Int := [f, s] ++ blend su (b.take k)
theorem getD_two (f s : Int) (l : List Int) (j : Nat) : ([f, s] ++ l).getD (j + 2) 0 = l.getD j 0 := rfl
theorem xrK_zero {f s : Int} {su b : List Int} (h : byteB su) : xrK f s su b 0 = [f, s] ++ su := by
  rw [xrK, List.take_zero]
  congr 1
  refine list_ext0 (by rw [blend_len]; simp) fun j _ => ?_
  rw [blend_at, show ([] : List Int).getD j 0 = 0 from rfl, xo_zero (h.at_ j)]
theorem xrK_len (f s : Int) (su b : List Int) (k : Nat) (hk : k ≤ b.length) : (xrK f s su b k).length = max su.length k + 2 := by
  rw [xrK, List.length_append, blend_len, List.length_take]; simp; omega
theorem getD_take (b : List Int) (k j : Nat) : (b.take k).getD j 0 = if j < k then b.getD j 0 else 0 := by
  rw [List.getD_eq_getElem?_getD, List.getD_eq_getElem?_getD, List.getElem?_take]
  split <;> rfl
theorem xrK_step {f s : Int} {su b : List Int} {k : Nat} (hk : k < b.length) (hs : byteB su) (cur : List Int) (hc : cur = if su.length ≤ k then xrK f s su b k ++ [0] else xrK f s su b k) :
    k + 2 < cur.length ∧ cur.getD (k + 2) 0 = su.getD k 0 ∧ cur.set (k + 2) (xo (su.getD k 0) (b.getD k 0)) = xrK f s su b (k + 1) := by
  have hl := xrK_len f s su b k (by omega)
  have hl1 := xrK_len f s su b (k + 1) (by omega)
  have hcl : cur.length = max su.length (k + 1) + 2 := by
    rw [hc]; split
    · rw [List.length_append, hl]; simp; omega
    · rw [hl]; omega
  have hbs : byteB (b.take k) ∨ True := .inr trivial
  have hat : ∀ j, (xrK f s su b k).getD (j + 2) 0 = if j < k then xo (su.getD j 0) (b.getD j 0) else su.getD j 0 := fun j => by
    rw [xrK, getD_two, blend_at, getD_take]
    split
    · rfl
    · rw [xo_zero (hs.at_ j)]
  have hcat : ∀ j, cur.getD (j + 2) 0 = if j < k then xo (su.getD j 0) (b.getD j 0) else su.getD j 0 := fun j => by
    rw [← hat j, hc]; split
    · have := getD_pad (xrK f s su b k) 1 (j + 2)
      exact this
    · rfl
  have hc0 : ∀ j, j < 2 → cur.getD j 0 = [f, s].getD j 0 := fun j hj => by
    have h2 : (xrK f s su b k).getD j 0 = [f, s].getD j 0 := by
      rw [xrK, List.getD_eq_getElem?_getD, List.getD_eq_getElem?_getD, List.getElem?_append_left (by simpa using hj)]
    rw [← h2, hc]; split
    · exact getD_pad (xrK f s su b k) 1 j
    · rfl
  refine ⟨by omega, by rw [hcat, if_neg (by omega)], ?_⟩
  refine list_ext0 (by rw [List.length_set, hcl, hl1]) fun j hj => ?_
  rw [getD_set cur (k + 2) j _ (by omega)]
  by_cases hj2 : j < 2
  · rw [if_neg (by omega), hc0 j hj2, xrK, List.getD_eq_getElem?_getD, List.getD_eq_getElem?_getD, List.getElem?_append_left (by simpa using hj2)]
  · obtain ⟨j, rfl⟩ : ∃ m, j = m + 2 := ⟨j - 2, by omega⟩
    have h9 : (xrK f s su b (k + 1)).getD (j + 2) 0 = if j < k + 1 then xo (su.getD j 0) (b.getD j 0) else su.getD j 0 := by
      rw [xrK, getD_two, blend_at, getD_take]
      split
      · rfl
      · rw [xo_zero (hs.at_ j)]
    rw [h9, hcat]
    by_cases hjk : j = k
    · subst hjk; rw [if_pos rfl, if_pos (by omega)]
    · rw [if_neg (by omega)]
      by_cases h : j < k
      · rw [if_pos h, if_pos (by omega)]
      · rw [if_neg h, if_neg (by omega)]

set_option maxHeartbeats 8000000 in
set_option maxRecDepth 100000 in
theorem rxored_any {l : List Pg} {A : Option Addr} {c : Nat} {S : Nat → Prop} {w : World} (hr : RdPg w S A l) (hl : l.length ≤ 1000) (hb : ∀ p ∈ l, p.body.length ≤ 1000) :
    Calls Try.prog 59 #[.slice A l.length c] w fun e w' => ∃ A' c', e = .returned (.slice A' (xrd l).length c') ∧ OwnI w' w.heap.size 5 .u8 (.slice A' (xrd l).length c') (xrd l) ∧ Below w.heap.size w w' := by
  have hr := hr.weak PgR.good (S' := fun b => b < w.heap.size) (fun b _ h => h)
  have HR := Lib.hid (fun W (h : Below w.heap.size w W) => hr.below PgR.good h)
  have HB := Lib.hid hb
  clear hr hb
  have hini := OwnI.lit w w.heap.size 5 .u8 [0, 0] #[.int .u8 0, .int .u8 0] rfl (Nat.le_refl _) (by simp [maxLen])
  go_enter Try.func59, Try.ntmps59
  go_wp2
  go_loopw [3, 4] (fun v iv wr => ∃ i : Nat, i ≤ l.length ∧ iv = .int .i64 i ∧ OwnI wr w.heap.size 5 .u8 v (xrd (l.take i)) ∧ Below w.heap.size w wr) (fun _ iv _ => l.length - (intOf iv).toNat)
  case atStart => exact ⟨0, Nat.zero_le _, rfl, hini, below_alloc (Below.refl _ _) _⟩
  case round =>
    obtain ⟨i, hi, rfl, hown, hbr⟩ := hrel
    have hszr := hbr.size
    by_cases hlt : i < l.length
    · obtain ⟨ad, p, Aj, cj, rfl, hS, hp, e0, e1, e2, e3, e4, hcj, hrj, hwj⟩ := RdPg.at_ (HR.out _ hbr) hlt
      have hpb : p.block < w.heap.size := hS
      have HX := Lib.hid (show xrd (l.take (i + 1)) = [xo (flagX 0 (l.take i)) (flg l[i]), xo (sizeX 0 (l.take i)) (lenB l[i])] ++ blend (sumX [] (l.take i)) l[i].body by
        rw [List.take_succ_eq_append_getElem hlt, xrd, flagX_snoc, sizeX_snoc, sumX_snoc])
      have hxr : xrd (l.take i) = [flagX 0 (l.take i), sizeX 0 (l.take i)] ++ sumX [] (l.take i) := rfl
      have hsl : (sumX [] (l.take i)).length ≤ 1000 := by
        rw [sumX_len]
        have := longest_bd (l := l.take i) (n := 1000) fun p hp => HB.out p (List.mem_of_mem_take hp)
        simp; omega
      have HBy := Lib.hid (sumX_bytes (l := l.take i) byteB.nil_)
      have hbl := HB.out l[i] (List.getElem_mem hlt)
      have HMk := fun W => pgmarks_any l[i] Aj cj W
      have hlb : IntKind.u8.wrap (l[i].body.length : Int) = lenB l[i] := by rw [IntKind.wrap_u8]; rfl
      have hfl : IntKind.u8.wrap (flg l[i]) = flg l[i] := by have := flg_bd l[i]; rw [IntKind.wrap_u8]; omega
      rw [show fl l[i].first 1 + fl l[i].last 2 = flg l[i] from rfl] at HMk
      rw [hxr] at hown
      clear hxr
      generalize flagX 0 (l.take i) = fx at *
      generalize sizeX 0 (l.take i) = sx at *
      generalize sumX [] (l.take i) = su at *
      generalize flg l[i] = fq at *
      generalize lenB l[i] = lq at *
      generalize l[i] = q at *
      obtain ⟨q1, q2, q3, q4, q5⟩ := q
      simp only [Pg.val] at HMk e0 e1 e2 e3 e4 hlb hbl hrj hcj
      obtain ⟨X, hX⟩ : ∃ X, X = [fx, sx] ++ su := ⟨_, rfl⟩
      rw [← hX] at hown
      have hX1 : 0 < X.length := by rw [hX]; simp
      have hX2 : 1 < X.length := by rw [hX]; simp
      have hX3 : (1 : Int) < (X.length : Int) := by omega
      have hX4 : (0 : Int) < (X.length : Int) := by omega
      have HXl := Lib.hid (show ∀ a b : Int, X.length = ([a, b] ++ su).length from fun a b => by rw [hX]; rfl)
      have hx0 : X.getD 0 0 = fx := by rw [hX]; rfl
      have hx1 : X.getD 1 0 = sx := by rw [hX]; rfl
      have HXs := Lib.hid (show (X.set 0 (xo fx fq)).set 1 (xo sx lq) = [xo fx fq, xo sx lq] ++ su by rw [hX]; rfl)
      obtain ⟨g, c3, hv, hbg, hgl, hc3, hcell, hfr, hset⟩ := hown.row hX1
      subst hv
      have y0 := hcell 0 hX1
      have y1 := hcell 1 hX2
      have f0 := hfr 0
      have f1 := hfr 1
      rw [hx0] at y0
      rw [hx1] at y1
      have hpg : p.block ≠ g := by omega
      have hgp : g ≠ p.block := by omega
      have HMk2 := Lib.hid HMk
      have HOw := Lib.hid hown
      clear HMk hcell hfr hset hown hX hx0 hx1
      have hxf : bits .xor .u8 fx fq = xo fx fq := rfl
      have hxs : bits .xor .u8 sx lq = xo sx lq := rfl
      -- CUTMARK
      go_upto_region 5 with fail
      go_cut [] (fun wc => OwnI wc w.heap.size 5 .u8 (.slice (some ⟨g, 0, none⟩) X.length c3) ([xo fx fq, xo sx lq] ++ su) ∧ Below w.heap.size w wc)
      case first =>
        refine wp_region_last (S := (fun w' => w'.cell? ⟨g, 1, none⟩ = some (.int .u8 sx) ∧ w'.cell? p = some (.int .i64 q1) ∧ w'.cell? ⟨p.block, p.off + 1, none⟩ = some (.bool q2) ∧ w'.cell? ⟨p.block, p.off + 2, none⟩ = some (.bool q3) ∧ w'.cell? ⟨p.block, p.off + 3, none⟩ = some (.bool q4) ∧ w'.cell? ⟨p.block, p.off + 4, none⟩ = some (.slice Aj q5.length cj))) 26 _ (by simp only [List.pop_toArray, List.dropLast_cons_cons, List.dropLast_singleton]; rfl) (by kernel_rfl) (by kernel_rfl) (by kernel_rfl) (by kernel_rfl) (by kernel_rfl) ?_ (fun hHeld => ?_)
        focus exact ⟨y1, e0, e1, e2, e3, e4⟩
        refine wpAnyH_take (i := 0) (v := ?_) rfl (by kernel_rfl) (by kernel_rfl) (by kernel_rfl) (fun _ _ _ h => h) (Or.inl ⟨by kernel_rfl, ?_⟩) (by assumption) ?_
        rotate_left
        focus
          intro w9 hSw
          (try dsimp only at hSw)
          go_simp
          (try with_reducible rfl)
        (try simp only [Act.put, List.getElem_toArray, List.getElem_cons_succ, List.getElem_cons_zero, List.setIfInBounds_toArray, List.set_cons_zero, List.set_cons_succ])
        refine wpAnyH_take (i := 1) (v := ?_) rfl (by kernel_rfl) (by kernel_rfl) (by kernel_rfl) (fun _ _ _ h => h) (Or.inl ⟨by kernel_rfl, ?_⟩) (by assumption) ?_
        rotate_left
        focus
          intro w9 hSw
          (try dsimp only at hSw)
          go_simp
          (try with_reducible rfl)
        (try simp only [Act.put, List.getElem_toArray, List.getElem_cons_succ, List.getElem_cons_zero, List.setIfInBounds_toArray, List.set_cons_zero, List.set_cons_succ])
        refine wpAnyH_take (i := 2) (v := ?_) rfl (by kernel_rfl) (by kernel_rfl) (by kernel_rfl) (fun _ _ _ h => h) (Or.inl ⟨by kernel_rfl, ?_⟩) (by assumption) ?_
        rotate_left
        focus
          intro w9 hSw
          (try dsimp only at hSw)
          go_simp
          (try with_reducible rfl)
        (try simp only [Act.put, List.getElem_toArray, List.getElem_cons_succ, List.getElem_cons_zero, List.setIfInBounds_toArray, List.set_cons_zero, List.set_cons_succ])
        refine wpAnyH_take (i := 3) (v := ?_) rfl (by kernel_rfl) (by kernel_rfl) (by kernel_rfl) (fun _ _ _ h => h) (Or.inl ⟨by kernel_rfl, ?_⟩) (by assumption) ?_
        rotate_left
        focus
          intro w9 hSw
          (try dsimp only at hSw)
          go_simp
          (try with_reducible rfl)
        (try simp only [Act.put, List.getElem_toArray, List.getElem_cons_succ, List.getElem_cons_zero, List.setIfInBounds_toArray, List.set_cons_zero, List.set_cons_succ])
        refine wpAnyH_take (i := 5) (v := ?_) rfl (by kernel_rfl) (by kernel_rfl) (by kernel_rfl) (fun _ _ _ h => h) (Or.inl ⟨by kernel_rfl, ?_⟩) (by assumption) ?_
        rotate_left
        focus
          intro w9 hSw
          (try dsimp only at hSw)
          go_simp
          (try with_reducible rfl)
        (try simp only [Act.put, List.getElem_toArray, List.getElem_cons_succ, List.getElem_cons_zero, List.setIfInBounds_toArray, List.set_cons_zero, List.set_cons_succ])
        refine wpAnyH_take (i := 6) (v := ?_) rfl (by kernel_rfl) (by kernel_rfl) (by kernel_rfl) (fun _ _ _ h => h) (Or.inl ⟨by kernel_rfl, ?_⟩) (by assumption) ?_
        rotate_left
        focus
          intro w9 hSw
          (try dsimp only at hSw)
          go_simp
          (try with_reducible rfl)
        (try simp only [Act.put, List.getElem_toArray, List.getElem_cons_succ, List.getElem_cons_zero, List.setIfInBounds_toArray, List.set_cons_zero, List.set_cons_succ])
        refine wpAnyH_take (i := 7) (v := ?_) rfl (by kernel_rfl) (by kernel_rfl) (by kernel_rfl) (fun _ _ _ h => h) (Or.inl ⟨by kernel_rfl, ?_⟩) (by assumption) ?_
        rotate_left
        focus
          intro w9 hSw
          (try dsimp only at hSw)
          go_simp
          (try with_reducible rfl)
        (try simp only [Act.put, List.getElem_toArray, List.getElem_cons_succ, List.getElem_cons_zero, List.setIfInBounds_toArray, List.set_cons_zero, List.set_cons_succ])
        refine wpAnyH_take (i := 8) (v := ?_) rfl (by kernel_rfl) (by kernel_rfl) (by kernel_rfl) (fun _ _ _ h => h) (Or.inl ⟨by kernel_rfl, ?_⟩) (by assumption) ?_
        rotate_left
        focus
          intro w9 hSw
          (try dsimp only at hSw)
          go_simp
          (try with_reducible rfl)
        (try simp only [Act.put, List.getElem_toArray, List.getElem_cons_succ, List.getElem_cons_zero, List.setIfInBounds_toArray, List.set_cons_zero, List.set_cons_succ])
        refine wpAnyH_take (i := 12) (v := ?_) rfl (by kernel_rfl) (by kernel_rfl) (by kernel_rfl) (fun _ _ _ h => h) (Or.inl ⟨by kernel_rfl, ?_⟩) (by assumption) ?_
        rotate_left
        focus
          intro w9 hSw
          (try dsimp only at hSw)
          go_simp
          (try with_reducible rfl)
        (try simp only [Act.put, List.getElem_toArray, List.getElem_cons_succ, List.getElem_cons_zero, List.setIfInBounds_toArray, List.set_cons_zero, List.set_cons_succ])
        refine wpAnyH_take (i := 13) (v := ?_) rfl (by kernel_rfl) (by kernel_rfl) (by kernel_rfl) (fun _ _ _ h => h) (Or.inl ⟨by kernel_rfl, ?_⟩) (by assumption) ?_
        rotate_left
        focus
          intro w9 hSw
          (try dsimp only at hSw)
          go_simp
          (try with_reducible rfl)
        (try simp only [Act.put, List.getElem_toArray, List.getElem_cons_succ, List.getElem_cons_zero, List.setIfInBounds_toArray, List.set_cons_zero, List.set_cons_succ])
        refine wpAnyH_take (i := 14) (v := ?_) rfl (by kernel_rfl) (by kernel_rfl) (by kernel_rfl) (fun _ _ _ h => h) (Or.inl ⟨by kernel_rfl, ?_⟩) (by assumption) ?_
        rotate_left
        focus
          intro w9 hSw
          (try dsimp only at hSw)
          go_simp
          (try with_reducible rfl)
        (try simp only [Act.put, List.getElem_toArray, List.getElem_cons_succ, List.getElem_cons_zero, List.setIfInBounds_toArray, List.set_cons_zero, List.set_cons_succ])
        refine wpAnyH_take (i := 15) (v := ?_) rfl (by kernel_rfl) (by kernel_rfl) (by kernel_rfl) (fun _ _ _ h => h) (Or.inl ⟨by kernel_rfl, ?_⟩) (by assumption) ?_
        rotate_left
        focus
          intro w9 hSw
          (try dsimp only at hSw)
          go_simp
          (try with_reducible rfl)
        (try simp only [Act.put, List.getElem_toArray, List.getElem_cons_succ, List.getElem_cons_zero, List.setIfInBounds_toArray, List.set_cons_zero, List.set_cons_succ])
        refine wpAnyH_take (i := 16) (v := ?_) rfl (by kernel_rfl) (by kernel_rfl) (by kernel_rfl) (fun _ _ _ h => h) (Or.inl ⟨by kernel_rfl, ?_⟩) (by assumption) ?_
        rotate_left
        focus
          intro w9 hSw
          (try dsimp only at hSw)
          go_simp
          (try with_reducible rfl)
        (try simp only [Act.put, List.getElem_toArray, List.getElem_cons_succ, List.getElem_cons_zero, List.setIfInBounds_toArray, List.set_cons_zero, List.set_cons_succ])
        refine wpAnyH_take (i := 17) (v := ?_) rfl (by kernel_rfl) (by kernel_rfl) (by kernel_rfl) (fun _ _ _ h => h) (Or.inl ⟨by kernel_rfl, ?_⟩) (by assumption) ?_
        rotate_left
        focus
          intro w9 hSw
          (try dsimp only at hSw)
          go_simp
          (try with_reducible rfl)
        (try simp only [Act.put, List.getElem_toArray, List.getElem_cons_succ, List.getElem_cons_zero, List.setIfInBounds_toArray, List.set_cons_zero, List.set_cons_succ])
        refine wpAnyH_take (i := 18) (v := ?_) rfl (by kernel_rfl) (by kernel_rfl) (by kernel_rfl) (fun _ _ _ h => h) (Or.inl ⟨by kernel_rfl, ?_⟩) (by assumption) ?_
        rotate_left
        focus
          intro w9 hSw
          (try dsimp only at hSw)
          go_simp
          (try with_reducible rfl)
        (try simp only [Act.put, List.getElem_toArray, List.getElem_cons_succ, List.getElem_cons_zero, List.setIfInBounds_toArray, List.set_cons_zero, List.set_cons_succ])
        refine wpAnyH_take (i := 19) (v := ?_) rfl (by kernel_rfl) (by kernel_rfl) (by kernel_rfl) (fun _ _ _ h => h) (Or.inl ⟨by kernel_rfl, ?_⟩) (by assumption) ?_
        rotate_left
        focus
          intro w9 hSw
          (try dsimp only at hSw)
          go_simp
          (try with_reducible rfl)
        (try simp only [Act.put, List.getElem_toArray, List.getElem_cons_succ, List.getElem_cons_zero, List.setIfInBounds_toArray, List.set_cons_zero, List.set_cons_succ])
        refine wpAnyH_take (i := 20) (v := ?_) rfl (by kernel_rfl) (by kernel_rfl) (by kernel_rfl) (fun _ _ _ h => h) (Or.inl ⟨by kernel_rfl, ?_⟩) (by assumption) ?_
        rotate_left
        focus
          intro w9 hSw
          (try dsimp only at hSw)
          go_simp
          (try with_reducible rfl)
        (try simp only [Act.put, List.getElem_toArray, List.getElem_cons_succ, List.getElem_cons_zero, List.setIfInBounds_toArray, List.set_cons_zero, List.set_cons_succ])
        refine wpAnyH_take (i := 21) (v := ?_) rfl (by kernel_rfl) (by kernel_rfl) (by kernel_rfl) (fun _ _ _ h => h) (Or.inl ⟨by kernel_rfl, ?_⟩) (by assumption) ?_
        rotate_left
        focus
          intro w9 hSw
          (try dsimp only at hSw)
          go_simp
          (try with_reducible rfl)
        (try simp only [Act.put, List.getElem_toArray, List.getElem_cons_succ, List.getElem_cons_zero, List.setIfInBounds_toArray, List.set_cons_zero, List.set_cons_succ])
        refine wpAnyH_take (i := 22) (v := ?_) rfl (by kernel_rfl) (by kernel_rfl) (by kernel_rfl) (fun _ _ _ h => h) (Or.inl ⟨by kernel_rfl, ?_⟩) (by assumption) ?_
        rotate_left
        focus
          intro w9 hSw
          (try dsimp only at hSw)
          go_simp
          (try with_reducible rfl)
        (try simp only [Act.put, List.getElem_toArray, List.getElem_cons_succ, List.getElem_cons_zero, List.setIfInBounds_toArray, List.set_cons_zero, List.set_cons_succ])
        refine wpAnyH_ready (rs := [4, 9]) (by kernel_rfl) (by simp) (AllReadyH.cons rfl (fun K hK => ?_) (AllReadyH.cons rfl (fun K hK => ?_) AllReadyH.nil))
        · go_simp
          refine hK.out _ _ ?_ (fun hHeld => ?_)
          focus exact ⟨y1, e0, e1, e2, e3, e4⟩
          clear hK K
          (try simp only [Act.put, List.getElem_toArray, List.getElem_cons_succ, List.getElem_cons_zero, List.setIfInBounds_toArray, List.set_cons_zero, List.set_cons_succ])
          refine wpAnyH_ready (rs := [9]) (by kernel_rfl) (by simp) (AllReadyH.cons rfl (fun K hK => ?_) AllReadyH.nil)
          go_simp
          go_at_call 77
          with_reducible refine (HMk2.out _).mono ?_
          rintro e w6 ⟨rfl, hb6'⟩
          have hb6 := below_undr hb6'
          have kc : ∀ {a9 : Addr} {u9 : Value}, wr.cell? a9 = some u9 → w6.cell? a9 = some u9 := fun {a9} {u9} h9 => (hb6.cell (World.block_lt_of_cell? wr a9 h9)).trans h9
          have z0 := kc y0
          have z1 := kc y1
          have u0 : w6.frozen? ⟨g, 0, none⟩ = false := (World.frozen?_of_block (hb6.block g hgl)).trans f0
          have u1 : w6.frozen? ⟨g, 1, none⟩ = false := (World.frozen?_of_block (hb6.block g hgl)).trans f1
          clear hb6'
          refine hK.out _ _ ?_ (fun hHeld => ?_)
          focus exact ⟨kc y1, kc e0, kc e1, kc e2, kc e3, kc e4⟩
          clear hK K
          (try simp only [Act.put, List.getElem_toArray, List.getElem_cons_succ, List.getElem_cons_zero, List.setIfInBounds_toArray, List.set_cons_zero, List.set_cons_succ])
          refine wpAnyH_take (i := 10) (v := ?_) rfl (by kernel_rfl) (by kernel_rfl) (by kernel_rfl) (fun _ _ _ h => h) (Or.inl ⟨by kernel_rfl, ?_⟩) (by assumption) ?_
          rotate_left
          focus
            intro w9 hSw
            (try dsimp only at hSw)
            go_simp
            (try with_reducible rfl)
          (try simp only [Act.put, List.getElem_toArray, List.getElem_cons_succ, List.getElem_cons_zero, List.setIfInBounds_toArray, List.set_cons_zero, List.set_cons_succ])
          refine wpAnyH_take (i := 11) (v := ?_) rfl (by kernel_rfl) (by kernel_rfl) (by kernel_rfl) (fun _ _ _ h => h) (Or.inl ⟨by kernel_rfl, ?_⟩) (by assumption) ?_
          rotate_left
          focus
            intro w9 hSw
            (try dsimp only at hSw)
            go_simp
            (try with_reducible rfl)
          (try simp only [Act.put, List.getElem_toArray, List.getElem_cons_succ, List.getElem_cons_zero, List.setIfInBounds_toArray, List.set_cons_zero, List.set_cons_succ])
          refine wpAnyH_take (i := 23) (v := ?_) rfl (by kernel_rfl) (by kernel_rfl) (by kernel_rfl) (fun _ _ _ h => h) (Or.inl ⟨by kernel_rfl, ?_⟩) (by assumption) ?_
          rotate_left
          focus
            intro w9 hSw
            (try dsimp only at hSw)
            go_simp
            (try with_reducible rfl)
          (try simp only [Act.put, List.getElem_toArray, List.getElem_cons_succ, List.getElem_cons_zero, List.setIfInBounds_toArray, List.set_cons_zero, List.set_cons_succ])
          refine wpAnyH_ready (rs := [24]) (by kernel_rfl) (by simp) (AllReadyH.cons rfl (fun K hK => ?_) AllReadyH.nil)
          go_simp
          have kd : ∀ u, (w6.setCell ⟨g, 0, none⟩ u).cell? ⟨g, 1, none⟩ = w6.cell? ⟨g, 1, none⟩ := fun u => World.cell?_setCell_other _ _ _ _ (by simp)
          refine hK.out _ _ ?_ (fun hHeld => ?_)
          focus exact ⟨(kd _).trans (kc y1), (World.cell?_setCell_far _ _ _ _ hgp).trans (kc e0), (World.cell?_setCell_far _ _ _ _ hgp).trans (kc e1), (World.cell?_setCell_far _ _ _ _ hgp).trans (kc e2), (World.cell?_setCell_far _ _ _ _ hgp).trans (kc e3), (World.cell?_setCell_far _ _ _ _ hgp).trans (kc e4)⟩
          clear hK K
          (try simp only [Act.put, List.getElem_toArray, List.getElem_cons_succ, List.getElem_cons_zero, List.setIfInBounds_toArray, List.set_cons_zero, List.set_cons_succ])
          refine wpAnyH_take (i := 25) (v := ?_) rfl (by kernel_rfl) (by kernel_rfl) (by kernel_rfl) (fun _ _ _ h => h) (Or.inl ⟨by kernel_rfl, ?_⟩) (by assumption) ?_
          rotate_left
          focus
            intro w9 hSw
            (try dsimp only at hSw)
            go_simp
            (try with_reducible rfl)
          (try simp only [Act.put, List.getElem_toArray, List.getElem_cons_succ, List.getElem_cons_zero, List.setIfInBounds_toArray, List.set_cons_zero, List.set_cons_succ])
          refine wpAnyH_done (by kernel_rfl) (lastQ_step rfl (fun K hK => ?_)) _
          go_simp
          refine hK _ _ ?_
          clear hK K
          have how6 := HOw.out.below hb6
          obtain ⟨g6, c6, hv6, _, _, _, _, _, hset6⟩ := how6.row hX1
          simp only [Value.slice.injEq, Option.some.injEq, Addr.mk.injEq, and_true] at hv6
          obtain ⟨hg6, hz6, hc6⟩ := hv6
          clear hz6
          subst hg6 hc6
          have how7 := hset6 0 (xo fx fq)
          obtain ⟨g7, c7, hv7, _, _, _, _, _, hset7⟩ := how7.row (by rw [List.length_set]; exact hX1)
          simp only [Value.slice.injEq, Option.some.injEq, Addr.mk.injEq, and_true] at hv7
          obtain ⟨hg7, hz7, hc7⟩ := hv7
          clear hz7
          subst hg7 hc7
          have how8 := hset7 1 (xo sx lq)
          rw [HXs.out] at how8
          have bw6 := below_then hbr hb6
          go_wp2
          go_meet
          exact ⟨how8, below_put (below_put bw6 hbg) hbg⟩
        · go_simp
          go_at_call 77
          with_reducible refine (HMk2.out _).mono ?_
          rintro e w6 ⟨rfl, hb6'⟩
          have hb6 := below_undr hb6'
          have kc : ∀ {a9 : Addr} {u9 : Value}, wr.cell? a9 = some u9 → w6.cell? a9 = some u9 := fun {a9} {u9} h9 => (hb6.cell (World.block_lt_of_cell? wr a9 h9)).trans h9
          have z0 := kc y0
          have z1 := kc y1
          have u0 : w6.frozen? ⟨g, 0, none⟩ = false := (World.frozen?_of_block (hb6.block g hgl)).trans f0
          have u1 : w6.frozen? ⟨g, 1, none⟩ = false := (World.frozen?_of_block (hb6.block g hgl)).trans f1
          clear hb6'
          refine hK.out _ _ ?_ (fun hHeld => ?_)
          focus exact ⟨kc y1, kc e0, kc e1, kc e2, kc e3, kc e4⟩
          clear hK K
          (try simp only [Act.put, List.getElem_toArray, List.getElem_cons_succ, List.getElem_cons_zero, List.setIfInBounds_toArray, List.set_cons_zero, List.set_cons_succ])
          refine wpAnyH_take (i := 10) (v := ?_) rfl (by kernel_rfl) (by kernel_rfl) (by kernel_rfl) (fun _ _ _ h => h) (Or.inl ⟨by kernel_rfl, ?_⟩) (by assumption) ?_
          rotate_left
          focus
            intro w9 hSw
            (try dsimp only at hSw)
            go_simp
            (try with_reducible rfl)
          (try simp only [Act.put, List.getElem_toArray, List.getElem_cons_succ, List.getElem_cons_zero, List.setIfInBounds_toArray, List.set_cons_zero, List.set_cons_succ])
          refine wpAnyH_ready (rs := [4]) (by kernel_rfl) (by simp) (AllReadyH.cons rfl (fun K hK => ?_) AllReadyH.nil)
          go_simp
          refine hK.out _ _ ?_ (fun hHeld => ?_)
          focus exact ⟨kc y1, kc e0, kc e1, kc e2, kc e3, kc e4⟩
          clear hK K
          (try simp only [Act.put, List.getElem_toArray, List.getElem_cons_succ, List.getElem_cons_zero, List.setIfInBounds_toArray, List.set_cons_zero, List.set_cons_succ])
          refine wpAnyH_take (i := 11) (v := ?_) rfl (by kernel_rfl) (by kernel_rfl) (by kernel_rfl) (fun _ _ _ h => h) (Or.inl ⟨by kernel_rfl, ?_⟩) (by assumption) ?_
          rotate_left
          focus
            intro w9 hSw
            (try dsimp only at hSw)
            go_simp
            (try with_reducible rfl)
          (try simp only [Act.put, List.getElem_toArray, List.getElem_cons_succ, List.getElem_cons_zero, List.setIfInBounds_toArray, List.set_cons_zero, List.set_cons_succ])
          refine wpAnyH_take (i := 23) (v := ?_) rfl (by kernel_rfl) (by kernel_rfl) (by kernel_rfl) (fun _ _ _ h => h) (Or.inl ⟨by kernel_rfl, ?_⟩) (by assumption) ?_
          rotate_left
          focus
            intro w9 hSw
            (try dsimp only at hSw)
            go_simp
            (try with_reducible rfl)
          (try simp only [Act.put, List.getElem_toArray, List.getElem_cons_succ, List.getElem_cons_zero, List.setIfInBounds_toArray, List.set_cons_zero, List.set_cons_succ])
          refine wpAnyH_ready (rs := [24]) (by kernel_rfl) (by simp) (AllReadyH.cons rfl (fun K hK => ?_) AllReadyH.nil)
          go_simp
          have kd : ∀ u, (w6.setCell ⟨g, 0, none⟩ u).cell? ⟨g, 1, none⟩ = w6.cell? ⟨g, 1, none⟩ := fun u => World.cell?_setCell_other _ _ _ _ (by simp)
          refine hK.out _ _ ?_ (fun hHeld => ?_)
          focus exact ⟨(kd _).trans (kc y1), (World.cell?_setCell_far _ _ _ _ hgp).trans (kc e0), (World.cell?_setCell_far _ _ _ _ hgp).trans (kc e1), (World.cell?_setCell_far _ _ _ _ hgp).trans (kc e2), (World.cell?_setCell_far _ _ _ _ hgp).trans (kc e3), (World.cell?_setCell_far _ _ _ _ hgp).trans (kc e4)⟩
          clear hK K
          (try simp only [Act.put, List.getElem_toArray, List.getElem_cons_succ, List.getElem_cons_zero, List.setIfInBounds_toArray, List.set_cons_zero, List.set_cons_succ])
          refine wpAnyH_take (i := 25) (v := ?_) rfl (by kernel_rfl) (by kernel_rfl) (by kernel_rfl) (fun _ _ _ h => h) (Or.inl ⟨by kernel_rfl, ?_⟩) (by assumption) ?_
          rotate_left
          focus
            intro w9 hSw
            (try dsimp only at hSw)
            go_simp
            (try with_reducible rfl)
          (try simp only [Act.put, List.getElem_toArray, List.getElem_cons_succ, List.getElem_cons_zero, List.setIfInBounds_toArray, List.set_cons_zero, List.set_cons_succ])
          refine wpAnyH_done (by kernel_rfl) (lastQ_step rfl (fun K hK => ?_)) _
          go_simp
          refine hK _ _ ?_
          clear hK K
          have how6 := HOw.out.below hb6
          obtain ⟨g6, c6, hv6, _, _, _, _, _, hset6⟩ := how6.row hX1
          simp only [Value.slice.injEq, Option.some.injEq, Addr.mk.injEq, and_true] at hv6
          obtain ⟨hg6, hz6, hc6⟩ := hv6
          clear hz6
          subst hg6 hc6
          have how7 := hset6 0 (xo fx fq)
          obtain ⟨g7, c7, hv7, _, _, _, _, _, hset7⟩ := how7.row (by rw [List.length_set]; exact hX1)
          simp only [Value.slice.injEq, Option.some.injEq, Addr.mk.injEq, and_true] at hv7
          obtain ⟨hg7, hz7, hc7⟩ := hv7
          clear hz7
          subst hg7 hc7
          have how8 := hset7 1 (xo sx lq)
          rw [HXs.out] at how8
          have bw6 := below_then hbr hb6
          go_wp2
          go_meet
          exact ⟨how8, below_put (below_put bw6 hbg) hbg⟩
      case rest =>
        obtain ⟨how5, hb5⟩ := hcut
        have HP4 := Lib.hid (fun W (h : Below w.heap.size w W) => ((h.cell (p := ⟨p.block, p.off + 4, none⟩) hpb).trans (hbr.cell (p := ⟨p.block, p.off + 4, none⟩) hpb).symm).trans e4)
        have hrI := hrj.rdI (B := w.heap.size) (fun b h _ => h)
        have HRj := Lib.hid (fun W (h : Below w.heap.size w W) => Rd.keep hrI (w' := W) (fun a ha => (h.cell ha).trans (hbr.cell ha).symm))
        have HZ := Lib.hid (xrK_zero (f := xo fx fq) (s := xo sx lq) (b := q5) HBy.out)
        have HSt := Lib.hid (fun k (hk : k < q5.length) cur hc => xrK_step (f := xo fx fq) (s := xo sx lq) hk HBy.out cur hc)
        have HKl := Lib.hid (fun k hk => xrK_len (xo fx fq) (xo sx lq) su q5 k hk)
        have HXe := Lib.hid (show xrK (xo fx fq) (xo sx lq) su q5 q5.length = xrd (l.take (i + 1)) by rw [HX.out, xrK, List.take_length])
        have HOw5 := Lib.hid how5
        have HB5 := Lib.hid hb5
        have hsz5 := hb5.size
        generalize xo fx fq = fz at *
        generalize xo sx lq = sz at *
        clear e0 e1 e2 e3 e4 hrj hrI HOw y0 y1 f0 f1 hwj HX how5 hb5 hxf hxs hX1 hX2 hX3 hX4 HXs HMk2
        go_wp2
        go_loopw [3, 5] (fun v kv wr => ∃ k : Nat, k ≤ q5.length ∧ kv = .int .i64 k ∧ OwnI wr w.heap.size 5 .u8 v (xrK fz sz su q5 k) ∧ Below w.heap.size w wr) (fun _ kv _ => q5.length - (intOf kv).toNat)
        case atStart => exact ⟨0, Nat.zero_le _, rfl, by rw [HZ.out]; exact HOw5.out, HB5.out⟩
        case round =>
          obtain ⟨k, hk, rfl, hown, hbk⟩ := hrel
          have hszk := hbk.size
          have z4 := HP4.out _ hbk
          by_cases hlk : k < q5.length
          · have HS := Lib.hid (HSt.out k hlk)
            have hkl := HKl.out k (by omega)
            obtain ⟨A9, c9, rfl, hc9, _, _⟩ := hown.form
            have HOk := Lib.hid hown
            clear hown
            generalize xrK fz sz su q5 k = Y at *
            obtain ⟨kk, hkk⟩ : ∃ kk : Nat, k + 2 = kk := ⟨_, rfl⟩
            rw [hkk] at HS
            have hwk : IntKind.i64.wrap ((k : Int) + 2) = (kk : Int) := by rw [IntWalk.i64_in _ (by omega)]; omega
            have hwk2 : (k : Int) + 2 = (kk : Int) := by omega
            have hwkk : IntKind.i64.wrap (kk : Int) = (kk : Int) := by rw [← hwk2]; rw [hwk, hwk2]
            have hYl1 : Y.length ≤ 100000 := by omega
            have HKK := Lib.hid (show su.length ≤ k ↔ Y.length ≤ kk by omega)
            obtain ⟨cur, hcur⟩ : ∃ cur, cur = if su.length ≤ k then Y ++ [0] else Y := ⟨_, rfl⟩
            obtain ⟨hS1, hS2, hS3⟩ := HS.out cur hcur
            clear hkl hkk
            go_upto_if 52 with (fail)
            go_cut [3] (fun v wc => OwnI wc w.heap.size 5 .u8 v cur ∧ Below w.heap.size w wc)
            case first =>
              by_cases h9 : Y.length ≤ kk
              · rw [if_pos (HKK.out.2 h9)] at hcur
                have HC := Lib.hid hcur
                have hd9 : decide ((Y.length : Int) ≤ (kk : Int)) = true := decide_eq_true (by omega)
                clear hcur hS1 hS2 hS3
                go_wp2_with (first
                  | (at_builtin; (refine wpList_push_int _ rfl (.tmp 53) (.tmp 54) _ rfl wr w.heap.size w.heap.size 5 .u8 1 Try.underlying31 info_u8 _ Y rfl HOk.out _ 1 0 rfl rfl (by omega) (by omega) (Below.refl _ _) (Nat.le_refl _) (by omega) ?_); intro v2 w2 ow2 bw2))
                go_meet
                exact ⟨by rw [HC.out]; exact ow2, hbk.trans bw2⟩
              · rw [if_neg (fun h => h9 (HKK.out.1 h))] at hcur
                have HC := Lib.hid hcur
                have hd9 : decide ((Y.length : Int) ≤ (kk : Int)) = false := decide_eq_false (by omega)
                clear hcur hS1 hS2 hS3
                go_wp2
                go_meet
                exact ⟨by rw [HC.out]; exact HOk.out, hbk⟩
            case rest =>
              obtain ⟨hwo, hwb⟩ := hcut
              clear hcur HKK HOk
              obtain ⟨g8, c8, rfl, hbg8, hgl8, hc8, hcell8, hfr8, hset8⟩ := hwo.row (by omega)
              have u0 := hcell8 kk hS1
              rw [hS2] at u0
              have u1 := hfr8 kk
              obtain ⟨ab, rfl, hab, u2⟩ := RdI.at_ (HRj.out _ hwb) hlk
              have u4 := HP4.out _ hwb
              have HN := Lib.hid (hset8 kk (xo (su.getD k 0) (q5.getD k 0)))
              rw [hS3] at HN
              have HL8 := Lib.hid (show cur.length = (xrK fz sz su q5 (k + 1)).length by rw [← hS3, List.length_set])
              have hxx : bits .xor .u8 (su.getD k 0) (q5.getD k 0) = xo (su.getD k 0) (q5.getD k 0) := rfl
              clear hcell8 hfr8 hset8 hwo hS2 hS3 HS
              generalize su.getD k 0 = sk at *
              generalize q5.getD k 0 = qk at *
              have hS1i : (kk : Int) < (cur.length : Int) := by omega
              have hlki : (k : Int) < (q5.length : Int) := by omega
              have u0d : wc.drew.cell? ⟨g8, kk, none⟩ = some (.int .u8 sk) := u0
              have u1d : wc.drew.frozen? ⟨g8, kk, none⟩ = false := u1
              have u2d : wc.drew.cell? (ab.add k) = some (.int .u8 qk) := u2
              have u4d : wc.drew.cell? ⟨p.block, p.off + 4, none⟩ = some (.slice (some ab) q5.length cj) := u4
              go_upto_region 11 with fail
              refine wp_still_tail 18 (by kernel_rfl) (by kernel_rfl) ?_
              simp only [List.take_succ_cons, List.take_zero, List.drop_succ_cons, List.drop_zero]
              repeat still_step
              refine wpStill_nil ?_
              go_wp2
              go_roundw
              case rel => exact ⟨k + 1, by omega, by go_num, HN.out.drew, (below_put hwb hbg8).drew⟩
              case measure => simp [intOf]; omega
          · have hkq : k = q5.length := by omega
            subst hkq
            rw [HXe.out] at hown
            have HOk := Lib.hid hown
            clear hown
            go_wp2
            go_roundw
            case rel => exact ⟨i + 1, by omega, by go_num, HOk.out, hbk⟩
            case measure => simp [intOf]; omega
    · have hil : i = l.length := by omega
      subst hil
      rw [List.take_length] at hown
      obtain ⟨A9, c9, rfl, _, _, _⟩ := hown.form
      have HOw := Lib.hid hown
      clear hown
      go_wp2
      go_ret
      exact ⟨_, _, rfl, HOw.out, hbr⟩
end Go.Proofs.Ytdnkdjaokmibjaa
