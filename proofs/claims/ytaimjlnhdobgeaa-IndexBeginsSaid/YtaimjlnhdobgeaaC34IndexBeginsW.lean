/- IndexBegins: the walk. -/
import Derived.Test.YtaimjlnhdobgeaaPgBackL
import Derived.Test.YtaimjlnhdobgeaaMkOf
import Derived.Test.YtaimjlnhdobgeaaMkKnown
import Derived.Test.YtaimjlnhdobgeaaRJn
import Derived.Test.YtaimjlnhdobgeaaRWvAll
import Derived.Test.YtaimjlnhdobgeaaTapePk
import Derived.Test.YtaimjlnhdobgeaaSched
import Derived.Deep.DeepCutAuto
set_option linter.unusedSimpArgs false
set_option linter.unusedVariables false
namespace Go.Proofs.Ytaimjlnhdobgeaa
open Go.RowKit

theorem page_of {bs : List (List Int)} : ∀ {i : Nat}, i < (pagesAll 0 bs).length → ∃ (n j : Nat) (hn : n < bs.length), j < nPages bs[n] ∧ i = off bs n + j := by
  intro i hi
  have key : ∀ n, n ≤ bs.length → i < off bs n → ∃ (n j : Nat) (hn : n < bs.length), j < nPages bs[n] ∧ i = off bs n + j := by
    intro n
    induction n with
    | zero => intro _ h; rw [off_zero] at h; omega
    | succ n ih =>
      intro hn h
      rw [off_succ (by omega)] at h
      by_cases h1 : i < off bs n
      · exact ih (by omega) h1
      · exact ⟨n, i - off bs n, by omega, by omega, by omega⟩
  exact key bs.length (Nat.le_refl _) (by rw [off_all]; exact hi)
theorem pageAt_ok {b : List Int} {s : Nat} {j : Nat} (hj : j < nPages b) (hs : s + j ≤ 2147483647) : pgOk (pageAt b s j) = true := by
  have h1 := nPages_lt.1 hj
  simp [pgOk, pageAt, mostB]
  omega
theorem pageAt_E {b : List Int} {s : Nat} {j : Nat} (hj : j < nPages b) (hs : s + j ≤ 2147483647) : pgE (pageAt b s j) = 0 := by rw [pgE, if_pos (pageAt_ok hj hs)]
def bare (p : Pk) : Pk := ⟨p.st, p.at_, p.ln, p.key, p.hid, []⟩
theorem bare_E {p : Pk} (h : layE p = 0) : layE (bare p) = 0 := by
  have hh := head_bd h
  have hb : (bare p).head = true := hh
  rw [layE, if_pos hb, if_neg (by simp [bare])]
theorem take18 (p : Pk) : p.bytes.take 18 = (bare p).bytes := by
  have e : p.bytes = (bare p).bytes ++ p.data := by simp [Pk.bytes, bare, Pk.flags]
  rw [e, List.take_left' (by rw [bytes_len]; rfl)]
/-- The marks of a packet's pages. -/
theorem ofM_pages {p : Pk} (h : layE p = 0) (s : Nat) (hs : s + nPages p.bytes ≤ 2147483647) : ofM (pagesOf p.bytes (s : Int)) = if p.key = true then [⟨p.st, p.at_, (s : Int)⟩] else [] := by
  have hl := bytes_len p
  have hn := nPages_pos p
  have hnil : ∀ l : List Nat, (∀ j ∈ l, 0 < j) → (l.map (pageAt p.bytes s)).filterMap markOf = [] := by
    intro l
    induction l with
    | nil => intro _; rfl
    | cons j l ih =>
      intro hj
      have h0 := hj j (List.mem_cons_self ..)
      rw [List.map_cons, List.filterMap_cons]
      have : markOf (pageAt p.bytes s j) = none := by rw [markOf, if_neg]; simp [pageAt]; omega
      rw [this]
      exact ih (fun k hk => hj k (List.mem_cons_of_mem _ hk))
  obtain ⟨m, hm⟩ : ∃ m, nPages p.bytes = m + 1 := ⟨nPages p.bytes - 1, by omega⟩
  have hE := pageAt_E (b := p.bytes) (s := s) (j := 0) (by omega) (by omega)
  have ob := open_back (bare_E h)
  have hbody : ((pageAt p.bytes s 0).body).take 18 = (bare p).bytes := by
    rw [← take18 p]
    simp only [pageAt, Nat.mul_zero, List.drop_zero, List.take_take]
    rw [Nat.min_eq_left (by omega)]
  have hbl : 18 ≤ (pageAt p.bytes s 0).body.length := by simp [pageAt]; omega
  have h0 : markOf (pageAt p.bytes s 0) = if p.key = true then some ⟨p.st, p.at_, (s : Int)⟩ else none := by
    have hf : (pageAt p.bytes s 0).first = true := rfl
    have hg : (pageAt p.bytes s 0).guard = false := rfl
    have hq : (pageAt p.bytes s 0).seq = (s : Int) := by simp [pageAt]
    rw [markOf, hbody, ob.1, ob.2, hE, hf, hg, hq]
    simp [hbl, bare]
  rw [ofM, pagesOf, hm, List.range_succ_eq_map, List.map_cons, List.filterMap_cons, h0, hnil _ (fun j hj => by
    obtain ⟨k, _, rfl⟩ := List.mem_map.1 hj; omega)]
  split <;> rename_i h1 <;> (split at h1 <;> simp_all)
theorem ofM_append (a b : List Pg) : ofM (a ++ b) = ofM a ++ ofM b := by simp [ofM]
def keysN (l : List Pk) : Nat := (l.filter Pk.key).length
theorem keysN_snoc (l : List Pk) (p : Pk) : keysN (l ++ [p]) = keysN l + (if p.key = true then 1 else 0) := by
  rw [keysN, List.filter_append, List.length_append, keysN]
  cases h : p.key <;> simp [h]
theorem keysN_le (l : List Pk) : keysN l ≤ l.length := List.length_filter_le _ _
theorem marks_all {l : List Pk} (h : ∀ p ∈ l, layE p = 0) (hl : (pagesAll 0 (l.map Pk.bytes)).length ≤ 2147483647) : ∀ n, n ≤ l.length →
    (ofM (pagesAll 0 ((l.take n).map Pk.bytes))).length = keysN (l.take n) ∧ ∀ x ∈ ofM (pagesAll 0 ((l.take n).map Pk.bytes)), ∃ (k : Nat) (hk : k < l.length), (l[k]).key = true ∧ x = ⟨(l[k]).st, (l[k]).at_, (off (l.map Pk.bytes) k : Int)⟩
  | 0, _ => by simp [pagesAll, ofM, keysN]
  | n + 1, hn => by
    obtain ⟨i1, i2⟩ := marks_all h hl n (by omega)
    have hlt : n < l.length := by omega
    have he : (pagesAll 0 ((l.take n).map Pk.bytes)).length = off (l.map Pk.bytes) n := by rw [off, List.map_take]
    have hof : off (l.map Pk.bytes) (n + 1) ≤ (pagesAll 0 (l.map Pk.bytes)).length := off_le
    rw [off_next hlt] at hof
    rw [List.take_succ_eq_append_getElem hlt, List.map_append, List.map_cons, List.map_nil, pagesAll_snoc, ofM_append, Int.zero_add, he, ofM_pages (h _ (List.getElem_mem hlt)) _ (by omega), keysN_snoc, List.length_append]
    refine ⟨by rw [i1]; split <;> simp, fun x hx => ?_⟩
    rcases List.mem_append.1 hx with hx | hx
    · exact i2 x hx
    · split at hx
      · rename_i hk
        simp only [List.mem_singleton] at hx
        exact ⟨n, hlt, hk, hx⟩
      · cases hx
theorem marks_of {l : List Pk} (h : ∀ p ∈ l, layE p = 0) (hl : (pagesAll 0 (l.map Pk.bytes)).length ≤ 2147483647) :
    (ofM (pagesAll 0 (l.map Pk.bytes))).length = keysN l ∧ ∀ x ∈ ofM (pagesAll 0 (l.map Pk.bytes)), ∃ (k : Nat) (hk : k < l.length), (l[k]).key = true ∧ x = ⟨(l[k]).st, (l[k]).at_, (off (l.map Pk.bytes) k : Int)⟩ := by
  have := marks_all h hl l.length (Nat.le_refl _)
  rwa [List.take_length] at this

/-- What the Joiner holds ahead of page i, if it waits for the packet whose pages begin at o. -/
def jnAt (b : List Int) (o i : Nat) : Jn := if i ≤ o then ⟨(o : Int), false, [], 0⟩ else ⟨(i : Int), true, b.take (252 * (i - o)), 0⟩
theorem body_next (b : List Int) (j : Nat) : b.take (252 * j) ++ (b.drop (252 * j)).take 252 = b.take (252 * (j + 1)) := by
  rw [Nat.mul_succ, List.take_add]
theorem jnAt_wait {b : List Int} {o i : Nat} (h : i < o) : jnAt b o (i + 1) = jnAt b o i := by rw [jnAt, jnAt, if_pos (by omega), if_pos (by omega)]
theorem jnAt_next {b : List Int} {o j : Nat} (hj : j < nPages b) (hl : b.length ≤ 65554) :
    (jnAt b o (o + j)).next = ((o + j : Nat) : Int) ∧ ((pageAt b o j).first = true → (jnAt b o (o + j)).begun = false) ∧ ((pageAt b o j).first = false → (jnAt b o (o + j)).begun = true) ∧ ((jnAt b o (o + j)).begun = false → (jnAt b o (o + j)).body = []) ∧
    (jnAt b o (o + j)).body ++ (pageAt b o j).body = b.take (252 * (j + 1)) ∧ (jnAt b o (o + j)).body.length + (pageAt b o j).body.length ≤ 65554 ∧ (jnAt b o (o + j)).broken = 0 := by
  have hbd : (jnAt b o (o + j)).body ++ (pageAt b o j).body = b.take (252 * (j + 1)) := by
    rw [← body_next, jnAt]
    split
    · have : j = 0 := by omega
      subst this
      simp [pageAt]
    · rw [Nat.add_sub_cancel_left]; rfl
  have hln : (jnAt b o (o + j)).body.length + (pageAt b o j).body.length ≤ 65554 := by
    rw [← List.length_append, hbd, List.length_take]; omega
  refine ⟨?_, ?_, ?_, ?_, hbd, hln, ?_⟩
  · rw [jnAt]; split <;> simp only; omega
  · intro h; have h0 : j = 0 := by simpa [pageAt] using h
    subst h0; simp [jnAt]
  · intro h; have h0 : j ≠ 0 := by simpa [pageAt] using h
    rw [jnAt, if_neg (by omega)]
  · rw [jnAt]; split <;> simp
  · rw [jnAt]; split <;> rfl
theorem last_all {b : List Int} {o j : Nat} (h : (pageAt b o j).last = true) : b.take (252 * (j + 1)) = b := by
  have : b.length ≤ 252 * j + 252 := by simpa [pageAt] using h
  exact List.take_of_length_le (by omega)
theorem last_not {b : List Int} {o j : Nat} (h : (pageAt b o j).last = false) : j + 1 < nPages b := by
  have : ¬ b.length ≤ 252 * j + 252 := by simpa [pageAt] using h
  rw [nPages_lt]; omega
end Go.Proofs.Ytaimjlnhdobgeaa

namespace Go.Proofs.Ytaimjlnhdobgeaa.indexBegins
open Go.RowKit

theorem tape_lay {st : Int} {l : List Pk} (h0 : 0 ≤ st ∧ st < 4) (h : TapePks st l) : ∀ p ∈ l, layE p = 0 ∧ p.data.length ≤ 900 := fun p hp => by
  have h1 := h.st p hp
  have h2 := h.time p hp
  have h3 := h.data p hp
  refine ⟨?_, h3.1⟩
  rw [layE, if_pos (by simp [Pk.head]; omega), if_neg (by omega)]
theorem merge_mem : ∀ (n : Nat) (rs : List (List Pk)) (p : Pk), p ∈ merge n rs → ∃ l ∈ rs, p ∈ l
  | 0, _, p, h => by simp [merge] at h
  | n + 1, rs, p, h => by
    rw [merge] at h
    split at h
    · cases h
    · rename_i h0
      obtain ⟨m, hm⟩ := Int.eq_ofNat_of_zero_le (show 0 ≤ firstQ rs by omega)
      obtain ⟨hml, q, l, hr⟩ := first_at hm
      have hg : rs.getD m [] = q :: l := by rw [List.getD_eq_getElem?_getD, List.getElem?_eq_getElem hml, hr]; rfl
      rw [hm, Int.toNat_natCast, hg] at h
      rcases List.mem_cons.1 h with h | h
      · exact ⟨rs[m], List.getElem_mem hml, by rw [hr, h]; exact List.mem_cons_self ..⟩
      · obtain ⟨x, hx, hp⟩ := merge_mem n _ p h
        rcases List.mem_or_eq_of_mem_set hx with hx | hx
        · exact ⟨x, hx, hp⟩
        · subst hx
          exact ⟨rs[m], List.getElem_mem hml, by rw [hr]; exact List.mem_cons_of_mem _ hp⟩
theorem weave_mem {ls : List (List Pk)} {p : Pk} (h : p ∈ weaveP ls) : ∃ l ∈ ls, p ∈ l := by
  rw [weaveP] at h
  split at h
  · exact merge_mem _ _ _ h
  · cases h
theorem weave_len (ls : List (List Pk)) : (weaveP ls).length ≤ total ls := by
  rw [weaveP]
  split
  · exact merge_len _ _
  · simp
theorem sum_le {α : Type} {f : α → Nat} {B : Nat} : ∀ (l : List α), (∀ x ∈ l, f x ≤ B) → (l.map f).sum ≤ l.length * B
  | [], _ => by simp
  | x :: l, h => by
    have h1 := sum_le l (fun y hy => h y (List.mem_cons_of_mem _ hy))
    have h2 := h x (List.mem_cons_self ..)
    simp only [List.map_cons, List.sum_cons, List.length_cons, Nat.succ_mul]
    omega
theorem split_ok {l : List Pk} (h : ∀ p ∈ l, layE p = 0 ∧ p.data.length ≤ 900) (hl : l.length ≤ 12) : splitE l 0 = 0 ∧ splitP l 0 = pagesAll 0 (l.map Pk.bytes) ∧ (l.map fun p => nPages p.bytes).sum ≤ 100000 ∧ (pagesAll 0 (l.map Pk.bytes)).length ≤ 100000 := by
  have hs : (l.map fun p => nPages p.bytes).sum ≤ 100000 := by
    have h1 := sum_le (f := fun p : Pk => nPages p.bytes) (B := 920) l (fun p hp => by
      have := (h p hp).2
      simp only [nPages, bytes_len]; omega)
    have h2 : l.length * 920 ≤ 12 * 920 := Nat.mul_le_mul_right _ hl
    omega
  have hL : (pagesAll 0 (l.map Pk.bytes)).length ≤ 100000 := by
    rw [pagesAll_len, List.map_map]
    exact hs
  have hE : splitE l 0 = 0 := by
    have hb := layBad_none (fun p hp => (h p hp).1)
    rw [splitE, if_neg (by omega), if_neg (by rw [hb]; simp), if_neg (by omega)]
  exact ⟨hE, by rw [splitP, if_pos hE], hs, hL⟩

theorem rweave_n (W : World) (A : Option Addr) (c n : Nat) (ls : List (List Pk)) (hn : ls.length = n) (hr : RdG LpR 1 W (fun b => b < W.heap.size) A ls) (hl : n ≤ 1000000000) :
    Calls Try.prog 13 #[.slice A n c] W (WeavePost W ls) := by
  subst hn
  exact rweave_any hr hl

theorem own_pks {w1 w2 : World} {g : Nat} {v : Value} {l : List Pk} {e : TypeId} (hg : g < w1.heap.size) (ho : OwnG PkR 6 e w2 w1.heap.size (fun b => w1.heap.size ≤ b ∧ b < w2.heap.size) v l) : ∃ A c, v = .slice A l.length c ∧ l.length ≤ c ∧ RdPk w2 (fun b => b ≠ g) A l := by
  refine ho.reads PkR.good (S := fun b => b ≠ g) (fun b hb hl => ?_)
  show b ≠ g
  rcases hb with hb | hb
  · have := hb.1; omega
  · have := (ho.own_ge b hb).1; omega
theorem pks_keep {w2 w3 : World} {g : Nat} {A : Option Addr} {l : List Pk} (hr : RdPk w2 (fun b => b ≠ g) A l) (hg : w2.grownBy w3 (some g)) : RdPk w3 (fun b => b < w3.heap.size) A l :=
  (hr.keep PkR.good (Mod.of_only (M := (· = g)) hg (fun _ => rfl)) (fun b hb _ => hb)).weak PkR.good (fun b hb hl => hl)
theorem two_lp {w3 : World} {A2 A3 : Option Addr} {c2 c3 : Nat} {l0 l1 : List Pk} (e : TypeId) (h2 : RdPk w3 (fun b => b < w3.heap.size) A2 l0) (h3 : RdPk w3 (fun b => b < w3.heap.size) A3 l1) (hc2 : l0.length ≤ c2) (hc3 : l1.length ≤ c3) (hl0 : l0.length ≤ 1000000000) (hl1 : l1.length ≤ 1000000000) :
    RdG LpR 1 (w3.alloc (.cells #[.slice A2 l0.length c2, .slice A3 l1.length c3] e)) (fun b => b < (w3.alloc (.cells #[.slice A2 l0.length c2, .slice A3 l1.length c3] e)).heap.size) (some ⟨w3.heap.size, 0, none⟩) [l0, l1] :=
  (RdG.lits LpR.good w3 (S := fun b => b < w3.heap.size) ((Cells.one LpR.good (⟨A2, c2, rfl, hc2, h2, hl0⟩ : LpR w3 (fun b => b < w3.heap.size) [.slice A2 l0.length c2] l0)).append (Cells.one LpR.good (⟨A3, c3, rfl, hc3, h3, hl1⟩ : LpR w3 (fun b => b < w3.heap.size) [.slice A3 l1.length c3] l1))) e).weak LpR.good (fun b _ hl => hl)

set_option maxHeartbeats 16000000 in
set_option maxRecDepth 100000 in
theorem walk (w : World) (A0 : Option Addr) (c0 : Nat) (t : List Int) (ht : ∀ x ∈ t, -9223372036854775808 ≤ x ∧ x ≤ 9223372036854775807) (hc : t.length ≤ c0) (h63 : c0 ≤ 9223372036854775807) (hrt : RdI w w.heap.size .i64 A0 t)
    (iv : Int) (i0 : -9223372036854775808 ≤ iv) (i1 : iv ≤ 9223372036854775807) :
    Calls Try.prog 4 #[.slice A0 t.length c0, .int .i64 iv] w fun e w' => e = .returned (.bool true) ∧ Below w.heap.size w w' := by
  have HK := Lib.hid (fun W => known_any W)
  have HT := Lib.hid (newtape_any A0 t c0 ht hc (by omega) w hrt (Nat.le_refl _))
  have HP0 := Lib.hid (fun W (hW : TapeB W w.heap.size w.heap.size) => tapepks_any hW 0 (by unfold i64B; omega) 6 (by omega) (by omega))
  have HP1 := Lib.hid (fun W (hW : TapeB W w.heap.size w.heap.size) => tapepks_any hW 1 (by unfold i64B; omega) 6 (by omega) (by omega))
  have HWv := Lib.hid rweave_n
  clear ht hrt
  go_enter Try.func4, Try.ntmps4
  go_upto_region 3 with (first
    | (go_at_call 7; (with_reducible refine HT.out.mono ?_); rintro e w1 ⟨rfl, hT1, hb1⟩)
    | (go_at_call 14; (with_reducible refine (HP0.out _ hT1).mono ?_); rintro e w2 ⟨v2, l0, rfl, hl0, hk0, ho2, hT2, hg2⟩; obtain ⟨A2, c2, rfl, hc2, hr2⟩ := own_pks hT1.lt ho2)
    | (go_at_call 14; (with_reducible refine (HP1.out _ hT2).mono ?_); rintro e w3 ⟨v3, l1, rfl, hl1, hk1, ho3, hT3, hg3⟩; obtain ⟨A3, c3, rfl, hc3, hr3⟩ := own_pks hT2.lt ho3; have hr2' := pks_keep hr2 hg3; have hrl := two_lp 37 hr2' (hr3.weak PkR.good (S' := fun b => b < w3.heap.size) (fun b _ hl => hl)) hc2 hc3 (by omega) (by omega))
    | (go_at_call 13; (with_reducible refine (HWv.out _ _ _ 2 [l0, l1] rfl hrl (by omega)).mono ?_); rintro e w4 ⟨v4, rfl, ho4, hb4⟩))
  have bb2 := below_one hb1 hg2 (Nat.le_refl _)
  have bb3 := below_one bb2 hg3 (Nat.le_refl _)
  have bb4 := below_then (below_alloc bb3 (.cells #[.slice A2 l0.length c2, .slice A3 l1.length c3] 37)) hb4
  have hal : ∀ p ∈ weaveP [l0, l1], layE p = 0 ∧ p.data.length ≤ 900 := fun p hp => by
    obtain ⟨l, hl, hp2⟩ := weave_mem hp
    clear hp
    simp only [List.mem_cons, List.not_mem_nil, or_false] at hl
    rcases hl with rfl | rfl
    · exact tape_lay (by omega) hk0 p hp2
    · exact tape_lay (by omega) hk1 p hp2
  have hal12 : (weaveP [l0, l1]).length ≤ 12 := by
    have h1 := weave_len [l0, l1]
    have h2 : total [l0, l1] = l0.length + l1.length := by simp [total]
    omega
  obtain ⟨A4, c4, rfl, hc4, hr4⟩ := ho4.reads PkR.good (S := fun b => b < w4.heap.size) (fun b hb hl => hl)
  generalize weaveE [l0, l1] = we at *
  generalize weaveP [l0, l1] = all at *
  clear hrl hr2 hr2' hr3 ho2 ho3 hT1 hT2 hT3 hg2 hg3 hb1 hk0 hk1 hl0 hl1 ho4 hb4 bb2 bb3 HT HP0 HP1 HWv hc2 hc3
  obtain ⟨hsE, hsP, hsm, hsl⟩ := split_ok hal hal12
  have HS := Lib.hid (rsplit_any (c := c4) hr4 (by omega) 0 (by omega) (by omega) (by omega))
  rw [hsE, hsP] at HS
  obtain ⟨hmk, hmm⟩ := marks_of (fun p hp => (hal p hp).1) (by omega)
  have hkn := keysN_le all
  obtain ⟨ps, hps⟩ : ∃ ps, ps = pagesAll 0 (all.map Pk.bytes) := ⟨_, rfl⟩
  rw [← hps] at HS hsl hmk hmm
  have HPs := Lib.hid hps
  have HMk := Lib.hid hmk
  have HMm := Lib.hid hmm
  have HAl := Lib.hid hal
  clear hps hmk hmm hal hsE hsP hsm
  go_upto_region 5 with (first
    | (go_at_call 15; (with_reducible refine HS.out.mono ?_); rintro e w5 ⟨v5, rfl, ho5, hb5⟩; obtain ⟨A5, c5, rfl, hc5, hr5⟩ := ho5.reads PgR.good (S := fun b => b < w5.heap.size) (fun b hb hl => hl); have HOf := Lib.hid (of_any (c := c5) hr5 (by omega)))
    | (go_at_call 16; (with_reducible refine HOf.out.mono ?_); rintro e w6 ⟨v6, rfl, ho6, hb6⟩))
  obtain ⟨A6, c6, rfl, hc6, hr6⟩ := ho6.reads MkR.good (S := fun b => b < w6.heap.size) (fun b hb hl => hl)
  have b46 := below_then hb5 hb6
  have bb6 := below_then bb4 b46
  have hr46 := hr4.below PkR.good b46
  have hr56 := (hr5.below PgR.good hb6).weak PgR.good (S' := fun b => b < w6.heap.size) (fun b _ hl => hl)
  have hml : (ofM ps).length ≤ ps.length := ofM_len ps
  generalize ofM ps = ms at *
  have HR4 := Lib.hid hr46
  have HR5 := Lib.hid hr56
  have HR6 := Lib.hid hr6
  clear hr46 hr56 hr6 hr5 hr4 ho5 ho6 hb5 hb6 HOf HS b46 bb4
  go_wp2
  go_loop [11, 12] (fun kv iv => ∃ i : Nat, i ≤ all.length ∧ iv = .int .i64 i ∧ kv = .int .i64 (keysN (all.take i) : Nat) ∧ keysN (all.take i) ≤ i) (fun _ iv => all.length - (intOf iv).toNat)
  case atStart => exact ⟨0, Nat.zero_le _, rfl, rfl, Nat.le_refl _⟩
  case round =>
    obtain ⟨i, hi, rfl, rfl, hki⟩ := hrel
    by_cases hlt : i < all.length
    · obtain ⟨ap, p, Ap, cp, rfl, _, hp, _, _, _, y3, _⟩ := RdPk.at_ HR4.out hlt
      have HT := Lib.hid (show keysN (all.take (i + 1)) = keysN (all.take i) + (if (all[i]).key = true then 1 else 0) by rw [List.take_succ_eq_append_getElem hlt, keysN_snoc])
      generalize keysN (all.take i) = kn at *
      generalize all[i] = q at *
      cases hk : q.key with
      | true =>
        rw [hk] at y3
        have HT' := Lib.hid (HT.out.trans (show _ = kn + 1 by simp [hk]))
        clear hk
        go_wp2
        go_round
        case rel => exact ⟨i + 1, by omega, by go_num, by rw [HT'.out]; go_num, by rw [HT'.out]; omega⟩
        case measure => simp [intOf]; omega
      | false =>
        rw [hk] at y3
        have HT' := Lib.hid (HT.out.trans (show _ = kn by simp [hk]))
        clear hk
        go_wp2
        go_round
        case rel => exact ⟨i + 1, by omega, by go_num, by rw [HT'.out], by rw [HT'.out]; omega⟩
        case measure => simp [intOf]; omega
    · have hkl : i = all.length := by omega
      subst hkl
      rw [List.take_length]
      clear hki hi hlt
      rw [← HMk.out] at hkn ⊢
      have hne : ((ms.length : Int) != (ms.length : Int)) = false := by simp
      by_cases h0 : ms.length = 0
      · have h0' : ((ms.length : Int) == 0) = true := by rw [h0]; rfl
        clear h0
        go_wp2_with (first
          | (go_at_call 12; (with_reducible refine (HK.out _).mono ?_); rintro e w7 ⟨rfl, hb7⟩))
        go_ret
        exact ⟨rfl, below_then bb6 hb7⟩
      · have h0' : ((ms.length : Int) == 0) = false := by rw [beq_eq_false_iff_ne]; omega
        have hwb := withinV_in (n := iv) (lo := 0) (hi := (ms.length : Int) - 1) (by omega)
        have HWi := Lib.hid (fun W => within_any iv 0 ((ms.length : Int) - 1) i0 i1 (by omega) (by omega) (by omega) W)
        obtain ⟨x, hx⟩ := Int.eq_ofNat_of_zero_le hwb.1
        rw [hx] at hwb HWi
        clear hx
        have hxl : x < ms.length := by omega
        obtain ⟨am, pm, rfl, _, hpm, m0, m1, m2, _⟩ := RdMk.at_ HR6.out hxl
        obtain ⟨k, hk, hkey, hmx⟩ := HMm.out _ (List.getElem_mem hxl)
        rw [hmx] at m0 m1 m2
        simp only at m0 m1 m2
        clear hmx h0
        have hlq := HAl.out _ (List.getElem_mem hk)
        have hqw : (all[k]).wf := by
          obtain ⟨_, _, _, _, _, _, _, _, _, _, _, _, _, _, _, h9⟩ := RdPk.at_ HR4.out hk
          exact h9
        have HPage := Lib.hid (show ∀ j, j < nPages (all[k]).bytes → ∃ h9 : off (all.map Pk.bytes) k + j < ps.length, ps[off (all.map Pk.bytes) k + j] = pageAt (all[k]).bytes (off (all.map Pk.bytes) k) j from fun j hj => by
          have h2 : k < (all.map Pk.bytes).length := by rw [List.length_map]; exact hk
          have h3 := page_at h2 (j := j) (by rw [map_get hk]; exact hj)
          rw [map_get hk, ← HPs.out] at h3
          exact h3)
        have HOk := Lib.hid (show ∀ i (h : i < ps.length), pgE ps[i] = 0 ∧ (ps[i]).guard = false ∧ (ps[i]).seq = (i : Int) from fun i h => by
          have h1 := h
          rw [HPs.out] at h1
          obtain ⟨n, j, hn, hj, hi⟩ := page_of h1
          obtain ⟨h9, h8⟩ := page_at hn hj
          have e : ps[i] = pageAt (all.map Pk.bytes)[n] (off (all.map Pk.bytes) n) j := by
            have e2 : ps[i]? = some (pageAt (all.map Pk.bytes)[n] (off (all.map Pk.bytes) n) j) := by rw [HPs.out, hi, List.getElem?_eq_getElem h9, h8]
            rw [List.getElem?_eq_getElem h] at e2
            injection e2
          rw [e]
          exact ⟨pageAt_E hj (by omega), rfl, by simp only [pageAt]; omega⟩)
        have hnp := nPages_pos all[k]
        have hob := open_back hlq.1
        have hbl := bytes_len all[k]
        generalize off (all.map Pk.bytes) k = o at *
        generalize all[k] = q at *
        have hfit : o < ps.length := by obtain ⟨h9, _⟩ := HPage.out 0 hnp; omega
        go_upto_region 16 with (first
          | (go_at_call 11; (with_reducible refine (HWi.out _).mono ?_); rintro e w7 ⟨rfl, rfl⟩))
        have kx := Blk.new w6 49 #[.int .i64 q.st, .int .i64 q.at_, .int .i64 (o : Int)]
        have bx := below_alloc (Below.refl w6.heap.size w6) (.cells #[.int .i64 q.st, .int .i64 q.at_, .int .i64 (o : Int)] 49)
        have HNj := Lib.hid (fun W => rjnew_any (o : Int) (by omega) (by omega) W)
        generalize w6.alloc (.cells #[.int .i64 q.st, .int .i64 q.at_, .int .i64 (o : Int)] 49) = wx at *
        have v2 := kx.cell 2
        have hkx := kx.lt
        go_upto_region 17 with (first
          | (go_at_call 17; (with_reducible refine (HNj.out _).mono ?_); rintro e w7 ⟨rfl, hj7, hb7⟩))
        have bz7 := below_then bb6 (below_then bx hb7)
        have hj0 : jnAt q.bytes o 0 = ⟨(o : Int), false, [], 0⟩ := by rw [jnAt, if_pos (by omega)]
        have HJ0 := Lib.hid (hj0 ▸ hj7)
        have HB0 := Lib.hid hb7
        clear hj0 hj7 m0 m1 m2 v2
        have hsx := bx.size
        have hNl : q.bytes.length ≤ 65554 := by rw [hbl]; have := layOk_len hlq.1; omega
        have hlast := (HPage.out (nPages q.bytes - 1) (by omega)).1
        go_wp2
        go_loopw [15] (fun iv wr => ∃ i : Nat, i ≤ o + (nPages q.bytes - 1) ∧ iv = .int .i64 i ∧ RJ wr wx.heap.size (jnAt q.bytes o i) ∧ Below wx.heap.size wx wr) (fun iv _ => ps.length - (intOf iv).toNat)
        case atStart => exact ⟨0, Nat.zero_le _, rfl, HJ0.out, HB0.out⟩
        case round =>
          obtain ⟨i, hi, rfl, hj, hb⟩ := hrel
          have hlt : i < ps.length := by omega
          have hr5 := HR5.out.below PgR.good (below_then bx hb)
          obtain ⟨ap, pp, Ap, cp, rfl, _, hpp, y0, y1, y2, y3, y4, hcp, hrp, hwp⟩ := RdPg.at_ hr5 hlt
          obtain ⟨hE, hgd, hsq⟩ := HOk.out i hlt
          have hjl := hj.lt
          by_cases hio : i < o
          · have HP := Lib.hid (rjput_deaf hj ps[i] Ap cp hwp hrp.top hE hgd (by rw [hsq, jnAt, if_pos (by omega)]; simp only; omega))
            have HW := Lib.hid (jnAt_wait (b := q.bytes) hio)
            clear hE hgd hsq hwp hrp
            generalize ps[i] = pg at *
            obtain ⟨p1, p2, p3, p4, p5⟩ := pg
            simp only [Pg.val] at HP y0 y1 y2 y3 y4
            go_wp2_with (first
              | (go_at_call 18; (with_reducible refine HP.out.mono ?_); rintro e w8 ⟨rfl, hj8, hb8⟩))
            go_roundw
            case rel => exact ⟨i + 1, by omega, by go_num, by rw [HW.out]; exact hj8, hb.trans (hb8.mono (by omega))⟩
            case measure => simp [intOf]; omega
          · obtain ⟨j, rfl⟩ : ∃ j, i = o + j := ⟨i - o, by omega⟩
            have hjn : j < nPages q.bytes := by omega
            obtain ⟨_, hpj⟩ := HPage.out j hjn
            obtain ⟨n1, n2, n3, n4, n5, n6, n7⟩ := jnAt_next (o := o) hjn hNl
            have hla := last_all (b := q.bytes) (o := o) (j := j)
            have hno := last_not (b := q.bytes) (o := o) (j := j)
            have HNx := Lib.hid (show jnAt q.bytes o (o + j + 1) = ⟨((o + j : Nat) : Int) + 1, true, q.bytes.take (252 * (j + 1)), 0⟩ by
              rw [jnAt, if_neg (by omega), show o + j + 1 - o = j + 1 by omega]; congr 1)
            have HP := Lib.hid (rjput_on hj ps[o + j] Ap cp hwp hrp (fun b hb hl => by have h9 : b < w6.heap.size := hb; omega) hE hgd (by rw [hsq, n1]) (by rw [n1]; omega) (by rw [hpj]; exact n2) (by rw [hpj]; exact n3) n4 (by rw [hpj]; exact n6) (fun h => by rw [hpj] at h ⊢; rw [n5, hla h]; exact hob.1))
            have HS0 := Lib.hid (show (⟨(ps[o + j]).seq + 1, true, (jnAt q.bytes o (o + j)).body ++ (ps[o + j]).body, (jnAt q.bytes o (o + j)).broken⟩ : Jn) = jnAt q.bytes o (o + j + 1) by rw [HNx.out, hsq, hpj, n5, n7])
            have HS1 := Lib.hid (show (ps[o + j]).last = true → openP ((jnAt q.bytes o (o + j)).body ++ (ps[o + j]).body) = q by rw [hpj]; exact fun h => by rw [n5, hla h]; exact hob.2)
            have HS2 := Lib.hid (show (ps[o + j]).last = false → j + 1 < nPages q.bytes by rw [hpj]; exact hno)
            have kxr := kx.below hb hkx
            have HKey := Lib.hid hkey
            have hgx : w6.heap.size ≠ wx.heap.size := by omega
            clear hE hgd hsq hwp hrp hpj n1 n2 n3 n4 n5 n6 n7 hla hno HNx hkey
            generalize jnAt q.bytes o (o + j) = s at *
            generalize ps[o + j] = pg at *
            obtain ⟨p1, p2, p3, p4, p5⟩ := pg
            simp only [Pg.val] at HP y0 y1 y2 y3 y4
            simp only at HS0 HS1 HS2
            cases p3 with
            | false =>
              have h2 := HS2.out rfl
              go_wp2_with (first
                | (go_at_call 18; (with_reducible refine HP.out.mono ?_); rintro e w8 ⟨A8, c8, rfl, hj8, _, hm8⟩; simp only [Bool.false_eq_true, if_false] at hj8))
              go_roundw
              case rel => exact ⟨o + j + 1, by omega, by go_num, by rw [← HS0.out]; exact hj8, hb.trans (hm8.below (by omega) (fun b hb => by have h9 : b = wx.heap.size := hb; omega))⟩
              case measure => simp [intOf]; omega
            | true =>
              have h2 := HS1.out rfl
              have HQ := Lib.hid h2
              clear h2
              go_upto_region 22 with (first
                | (go_at_call 18; (with_reducible refine HP.out.mono ?_); rintro e w8 ⟨A8, c8, rfl, hj8, hp8, hm8⟩))
              have hr8 := hp8 (by first | rfl | trivial)
              rw [HQ.out] at hr8
              obtain ⟨a8, Ad, cd, rfl, _, x0, x1, _, x3, _, _, _, _, _⟩ := RdPk.head_ hr8
              rw [HKey.out] at x3
              have kx8 := kxr.mod hm8 (fun e => hgx e)
              have d0 := kx8.cell 0
              have d1 := kx8.cell 1
              have hb8 : Below wx.heap.size wx w8 := hb.trans (hm8.below (by omega) (fun b hb => by have h9 : b = wx.heap.size := hb; omega))
              have bz8 := bb6.trans ((bx.trans (hb8.mono (by omega))).mono (by have := bb6.size; omega))
              clear hr8 hp8 y0 y1 y2 y3 y4 hj hj8 HP kx8
              refine wp_region_sched (S := (fun w' => Below w8.heap.size w8 w')) [(0, 1), (1, 1), (2, 1), (3, 1), (4, 1), (5, 2), (6, 2), (7, 2), (8, 2), (9, 1), (10, 1), (11, 1), (12, 1), (13, 1), (14, 2), (15, 2), (16, 2), (17, 2), (18, 1), (19, 1), (20, 1), (21, 1), (22, 1), (23, 0), (24, 1), (25, 1)] (by kernel_rfl) (by kernel_rfl) (by kernel_rfl) (fun _ _ d _ _ h => by cases d <;> exact h) ?_ (fun hHeld opsV hOps => ?_)
              focus exact (Below.refl _ _).drew
              refine wpSched_take (v := ?_) hOps rfl (Or.inl ⟨by kernel_rfl, ?_⟩) ?_
              rotate_left
              focus
                intro w9 hSw'
                (try dsimp only at hSw')
                have zK : ∀ {a9 : Addr} {u9 : Value}, w8.cell? a9 = some u9 → w9.cell? a9 = some u9 := fun {a9} {u9} h9 => (hSw'.cell (World.block_lt_of_cell? w8 a9 h9)).trans h9
                have z0 := zK x0
                have z1 := zK x1
                have z2 := zK x3
                have z3 := zK d0
                have z4 := zK d1
                clear zK hSw'
                go_simp
                (try with_reducible rfl)
              (try simp only [Act.put, List.getElem_toArray, List.getElem_cons_succ, List.getElem_cons_zero, List.setIfInBounds_toArray, List.set_cons_zero, List.set_cons_succ])
              refine wpSched_take (v := ?_) hOps rfl (Or.inl ⟨by kernel_rfl, ?_⟩) ?_
              rotate_left
              focus
                intro w9 hSw'
                (try dsimp only at hSw')
                have zK : ∀ {a9 : Addr} {u9 : Value}, w8.cell? a9 = some u9 → w9.cell? a9 = some u9 := fun {a9} {u9} h9 => (hSw'.cell (World.block_lt_of_cell? w8 a9 h9)).trans h9
                have z0 := zK x0
                have z1 := zK x1
                have z2 := zK x3
                have z3 := zK d0
                have z4 := zK d1
                clear zK hSw'
                go_simp
                (try with_reducible rfl)
              (try simp only [Act.put, List.getElem_toArray, List.getElem_cons_succ, List.getElem_cons_zero, List.setIfInBounds_toArray, List.set_cons_zero, List.set_cons_succ])
              refine wpSched_take (v := ?_) hOps rfl (Or.inl ⟨by kernel_rfl, ?_⟩) ?_
              rotate_left
              focus
                intro w9 hSw'
                (try dsimp only at hSw')
                have zK : ∀ {a9 : Addr} {u9 : Value}, w8.cell? a9 = some u9 → w9.cell? a9 = some u9 := fun {a9} {u9} h9 => (hSw'.cell (World.block_lt_of_cell? w8 a9 h9)).trans h9
                have z0 := zK x0
                have z1 := zK x1
                have z2 := zK x3
                have z3 := zK d0
                have z4 := zK d1
                clear zK hSw'
                go_simp
                (try with_reducible rfl)
              (try simp only [Act.put, List.getElem_toArray, List.getElem_cons_succ, List.getElem_cons_zero, List.setIfInBounds_toArray, List.set_cons_zero, List.set_cons_succ])
              refine wpSched_take (v := ?_) hOps rfl (Or.inl ⟨by kernel_rfl, ?_⟩) ?_
              rotate_left
              focus
                intro w9 hSw'
                (try dsimp only at hSw')
                have zK : ∀ {a9 : Addr} {u9 : Value}, w8.cell? a9 = some u9 → w9.cell? a9 = some u9 := fun {a9} {u9} h9 => (hSw'.cell (World.block_lt_of_cell? w8 a9 h9)).trans h9
                have z0 := zK x0
                have z1 := zK x1
                have z2 := zK x3
                have z3 := zK d0
                have z4 := zK d1
                clear zK hSw'
                go_simp
                (try with_reducible rfl)
              (try simp only [Act.put, List.getElem_toArray, List.getElem_cons_succ, List.getElem_cons_zero, List.setIfInBounds_toArray, List.set_cons_zero, List.set_cons_succ])
              refine wpSched_take (v := ?_) hOps rfl (Or.inl ⟨by kernel_rfl, ?_⟩) ?_
              rotate_left
              focus
                intro w9 hSw'
                (try dsimp only at hSw')
                have zK : ∀ {a9 : Addr} {u9 : Value}, w8.cell? a9 = some u9 → w9.cell? a9 = some u9 := fun {a9} {u9} h9 => (hSw'.cell (World.block_lt_of_cell? w8 a9 h9)).trans h9
                have z0 := zK x0
                have z1 := zK x1
                have z2 := zK x3
                have z3 := zK d0
                have z4 := zK d1
                clear zK hSw'
                go_simp
                (try with_reducible rfl)
              (try simp only [Act.put, List.getElem_toArray, List.getElem_cons_succ, List.getElem_cons_zero, List.setIfInBounds_toArray, List.set_cons_zero, List.set_cons_succ])
              refine wpSched_take (v := ?_) hOps rfl (Or.inl ⟨by kernel_rfl, ?_⟩) ?_
              rotate_left
              focus
                intro w9 hSw'
                (try dsimp only at hSw')
                have zK : ∀ {a9 : Addr} {u9 : Value}, w8.cell? a9 = some u9 → w9.cell? a9 = some u9 := fun {a9} {u9} h9 => (hSw'.cell (World.block_lt_of_cell? w8 a9 h9)).trans h9
                have z0 := zK x0
                have z1 := zK x1
                have z2 := zK x3
                have z3 := zK d0
                have z4 := zK d1
                clear zK hSw'
                go_simp
                (try with_reducible rfl)
              (try simp only [Act.put, List.getElem_toArray, List.getElem_cons_succ, List.getElem_cons_zero, List.setIfInBounds_toArray, List.set_cons_zero, List.set_cons_succ])
              refine wpSched_take (v := ?_) hOps rfl (Or.inl ⟨by kernel_rfl, ?_⟩) ?_
              rotate_left
              focus
                intro w9 hSw'
                (try dsimp only at hSw')
                have zK : ∀ {a9 : Addr} {u9 : Value}, w8.cell? a9 = some u9 → w9.cell? a9 = some u9 := fun {a9} {u9} h9 => (hSw'.cell (World.block_lt_of_cell? w8 a9 h9)).trans h9
                have z0 := zK x0
                have z1 := zK x1
                have z2 := zK x3
                have z3 := zK d0
                have z4 := zK d1
                clear zK hSw'
                go_simp
                (try with_reducible rfl)
              (try simp only [Act.put, List.getElem_toArray, List.getElem_cons_succ, List.getElem_cons_zero, List.setIfInBounds_toArray, List.set_cons_zero, List.set_cons_succ])
              refine wpSched_take (v := ?_) hOps rfl (Or.inl ⟨by kernel_rfl, ?_⟩) ?_
              rotate_left
              focus
                intro w9 hSw'
                (try dsimp only at hSw')
                have zK : ∀ {a9 : Addr} {u9 : Value}, w8.cell? a9 = some u9 → w9.cell? a9 = some u9 := fun {a9} {u9} h9 => (hSw'.cell (World.block_lt_of_cell? w8 a9 h9)).trans h9
                have z0 := zK x0
                have z1 := zK x1
                have z2 := zK x3
                have z3 := zK d0
                have z4 := zK d1
                clear zK hSw'
                go_simp
                (try with_reducible rfl)
              (try simp only [Act.put, List.getElem_toArray, List.getElem_cons_succ, List.getElem_cons_zero, List.setIfInBounds_toArray, List.set_cons_zero, List.set_cons_succ])
              refine wpSched_take (v := ?_) hOps rfl (Or.inl ⟨by kernel_rfl, ?_⟩) ?_
              rotate_left
              focus
                intro w9 hSw'
                (try dsimp only at hSw')
                have zK : ∀ {a9 : Addr} {u9 : Value}, w8.cell? a9 = some u9 → w9.cell? a9 = some u9 := fun {a9} {u9} h9 => (hSw'.cell (World.block_lt_of_cell? w8 a9 h9)).trans h9
                have z0 := zK x0
                have z1 := zK x1
                have z2 := zK x3
                have z3 := zK d0
                have z4 := zK d1
                clear zK hSw'
                go_simp
                (try with_reducible rfl)
              (try simp only [Act.put, List.getElem_toArray, List.getElem_cons_succ, List.getElem_cons_zero, List.setIfInBounds_toArray, List.set_cons_zero, List.set_cons_succ])
              refine wpSched_take (v := ?_) hOps rfl (Or.inl ⟨by kernel_rfl, ?_⟩) ?_
              rotate_left
              focus
                intro w9 hSw'
                (try dsimp only at hSw')
                have zK : ∀ {a9 : Addr} {u9 : Value}, w8.cell? a9 = some u9 → w9.cell? a9 = some u9 := fun {a9} {u9} h9 => (hSw'.cell (World.block_lt_of_cell? w8 a9 h9)).trans h9
                have z0 := zK x0
                have z1 := zK x1
                have z2 := zK x3
                have z3 := zK d0
                have z4 := zK d1
                clear zK hSw'
                go_simp
                (try with_reducible rfl)
              (try simp only [Act.put, List.getElem_toArray, List.getElem_cons_succ, List.getElem_cons_zero, List.setIfInBounds_toArray, List.set_cons_zero, List.set_cons_succ])
              refine wpSched_take (v := ?_) hOps rfl (Or.inl ⟨by kernel_rfl, ?_⟩) ?_
              rotate_left
              focus
                intro w9 hSw'
                (try dsimp only at hSw')
                have zK : ∀ {a9 : Addr} {u9 : Value}, w8.cell? a9 = some u9 → w9.cell? a9 = some u9 := fun {a9} {u9} h9 => (hSw'.cell (World.block_lt_of_cell? w8 a9 h9)).trans h9
                have z0 := zK x0
                have z1 := zK x1
                have z2 := zK x3
                have z3 := zK d0
                have z4 := zK d1
                clear zK hSw'
                go_simp
                (try with_reducible rfl)
              (try simp only [Act.put, List.getElem_toArray, List.getElem_cons_succ, List.getElem_cons_zero, List.setIfInBounds_toArray, List.set_cons_zero, List.set_cons_succ])
              refine wpSched_take (v := ?_) hOps rfl (Or.inl ⟨by kernel_rfl, ?_⟩) ?_
              rotate_left
              focus
                intro w9 hSw'
                (try dsimp only at hSw')
                have zK : ∀ {a9 : Addr} {u9 : Value}, w8.cell? a9 = some u9 → w9.cell? a9 = some u9 := fun {a9} {u9} h9 => (hSw'.cell (World.block_lt_of_cell? w8 a9 h9)).trans h9
                have z0 := zK x0
                have z1 := zK x1
                have z2 := zK x3
                have z3 := zK d0
                have z4 := zK d1
                clear zK hSw'
                go_simp
                (try with_reducible rfl)
              (try simp only [Act.put, List.getElem_toArray, List.getElem_cons_succ, List.getElem_cons_zero, List.setIfInBounds_toArray, List.set_cons_zero, List.set_cons_succ])
              refine wpSched_take (v := ?_) hOps rfl (Or.inl ⟨by kernel_rfl, ?_⟩) ?_
              rotate_left
              focus
                intro w9 hSw'
                (try dsimp only at hSw')
                have zK : ∀ {a9 : Addr} {u9 : Value}, w8.cell? a9 = some u9 → w9.cell? a9 = some u9 := fun {a9} {u9} h9 => (hSw'.cell (World.block_lt_of_cell? w8 a9 h9)).trans h9
                have z0 := zK x0
                have z1 := zK x1
                have z2 := zK x3
                have z3 := zK d0
                have z4 := zK d1
                clear zK hSw'
                go_simp
                (try with_reducible rfl)
              (try simp only [Act.put, List.getElem_toArray, List.getElem_cons_succ, List.getElem_cons_zero, List.setIfInBounds_toArray, List.set_cons_zero, List.set_cons_succ])
              refine wpSched_take (v := ?_) hOps rfl (Or.inl ⟨by kernel_rfl, ?_⟩) ?_
              rotate_left
              focus
                intro w9 hSw'
                (try dsimp only at hSw')
                have zK : ∀ {a9 : Addr} {u9 : Value}, w8.cell? a9 = some u9 → w9.cell? a9 = some u9 := fun {a9} {u9} h9 => (hSw'.cell (World.block_lt_of_cell? w8 a9 h9)).trans h9
                have z0 := zK x0
                have z1 := zK x1
                have z2 := zK x3
                have z3 := zK d0
                have z4 := zK d1
                clear zK hSw'
                go_simp
                (try with_reducible rfl)
              (try simp only [Act.put, List.getElem_toArray, List.getElem_cons_succ, List.getElem_cons_zero, List.setIfInBounds_toArray, List.set_cons_zero, List.set_cons_succ])
              refine wpSched_take (v := ?_) hOps rfl (Or.inl ⟨by kernel_rfl, ?_⟩) ?_
              rotate_left
              focus
                intro w9 hSw'
                (try dsimp only at hSw')
                have zK : ∀ {a9 : Addr} {u9 : Value}, w8.cell? a9 = some u9 → w9.cell? a9 = some u9 := fun {a9} {u9} h9 => (hSw'.cell (World.block_lt_of_cell? w8 a9 h9)).trans h9
                have z0 := zK x0
                have z1 := zK x1
                have z2 := zK x3
                have z3 := zK d0
                have z4 := zK d1
                clear zK hSw'
                go_simp
                (try with_reducible rfl)
              (try simp only [Act.put, List.getElem_toArray, List.getElem_cons_succ, List.getElem_cons_zero, List.setIfInBounds_toArray, List.set_cons_zero, List.set_cons_succ])
              refine wpSched_take (v := ?_) hOps rfl (Or.inl ⟨by kernel_rfl, ?_⟩) ?_
              rotate_left
              focus
                intro w9 hSw'
                (try dsimp only at hSw')
                have zK : ∀ {a9 : Addr} {u9 : Value}, w8.cell? a9 = some u9 → w9.cell? a9 = some u9 := fun {a9} {u9} h9 => (hSw'.cell (World.block_lt_of_cell? w8 a9 h9)).trans h9
                have z0 := zK x0
                have z1 := zK x1
                have z2 := zK x3
                have z3 := zK d0
                have z4 := zK d1
                clear zK hSw'
                go_simp
                (try with_reducible rfl)
              (try simp only [Act.put, List.getElem_toArray, List.getElem_cons_succ, List.getElem_cons_zero, List.setIfInBounds_toArray, List.set_cons_zero, List.set_cons_succ])
              refine wpSched_take (v := ?_) hOps rfl (Or.inl ⟨by kernel_rfl, ?_⟩) ?_
              rotate_left
              focus
                intro w9 hSw'
                (try dsimp only at hSw')
                have zK : ∀ {a9 : Addr} {u9 : Value}, w8.cell? a9 = some u9 → w9.cell? a9 = some u9 := fun {a9} {u9} h9 => (hSw'.cell (World.block_lt_of_cell? w8 a9 h9)).trans h9
                have z0 := zK x0
                have z1 := zK x1
                have z2 := zK x3
                have z3 := zK d0
                have z4 := zK d1
                clear zK hSw'
                go_simp
                (try with_reducible rfl)
              (try simp only [Act.put, List.getElem_toArray, List.getElem_cons_succ, List.getElem_cons_zero, List.setIfInBounds_toArray, List.set_cons_zero, List.set_cons_succ])
              refine wpSched_take (v := ?_) hOps rfl (Or.inl ⟨by kernel_rfl, ?_⟩) ?_
              rotate_left
              focus
                intro w9 hSw'
                (try dsimp only at hSw')
                have zK : ∀ {a9 : Addr} {u9 : Value}, w8.cell? a9 = some u9 → w9.cell? a9 = some u9 := fun {a9} {u9} h9 => (hSw'.cell (World.block_lt_of_cell? w8 a9 h9)).trans h9
                have z0 := zK x0
                have z1 := zK x1
                have z2 := zK x3
                have z3 := zK d0
                have z4 := zK d1
                clear zK hSw'
                go_simp
                (try with_reducible rfl)
              (try simp only [Act.put, List.getElem_toArray, List.getElem_cons_succ, List.getElem_cons_zero, List.setIfInBounds_toArray, List.set_cons_zero, List.set_cons_succ])
              refine wpSched_take (v := ?_) hOps rfl (Or.inl ⟨by kernel_rfl, ?_⟩) ?_
              rotate_left
              focus
                intro w9 hSw'
                (try dsimp only at hSw')
                have zK : ∀ {a9 : Addr} {u9 : Value}, w8.cell? a9 = some u9 → w9.cell? a9 = some u9 := fun {a9} {u9} h9 => (hSw'.cell (World.block_lt_of_cell? w8 a9 h9)).trans h9
                have z0 := zK x0
                have z1 := zK x1
                have z2 := zK x3
                have z3 := zK d0
                have z4 := zK d1
                clear zK hSw'
                go_simp
                (try with_reducible rfl)
              (try simp only [Act.put, List.getElem_toArray, List.getElem_cons_succ, List.getElem_cons_zero, List.setIfInBounds_toArray, List.set_cons_zero, List.set_cons_succ])
              refine wpSched_take (v := ?_) hOps rfl (Or.inl ⟨by kernel_rfl, ?_⟩) ?_
              rotate_left
              focus
                intro w9 hSw'
                (try dsimp only at hSw')
                have zK : ∀ {a9 : Addr} {u9 : Value}, w8.cell? a9 = some u9 → w9.cell? a9 = some u9 := fun {a9} {u9} h9 => (hSw'.cell (World.block_lt_of_cell? w8 a9 h9)).trans h9
                have z0 := zK x0
                have z1 := zK x1
                have z2 := zK x3
                have z3 := zK d0
                have z4 := zK d1
                clear zK hSw'
                go_simp
                (try with_reducible rfl)
              (try simp only [Act.put, List.getElem_toArray, List.getElem_cons_succ, List.getElem_cons_zero, List.setIfInBounds_toArray, List.set_cons_zero, List.set_cons_succ])
              refine wpSched_take (v := ?_) hOps rfl (Or.inl ⟨by kernel_rfl, ?_⟩) ?_
              rotate_left
              focus
                intro w9 hSw'
                (try dsimp only at hSw')
                have zK : ∀ {a9 : Addr} {u9 : Value}, w8.cell? a9 = some u9 → w9.cell? a9 = some u9 := fun {a9} {u9} h9 => (hSw'.cell (World.block_lt_of_cell? w8 a9 h9)).trans h9
                have z0 := zK x0
                have z1 := zK x1
                have z2 := zK x3
                have z3 := zK d0
                have z4 := zK d1
                clear zK hSw'
                go_simp
                (try with_reducible rfl)
              (try simp only [Act.put, List.getElem_toArray, List.getElem_cons_succ, List.getElem_cons_zero, List.setIfInBounds_toArray, List.set_cons_zero, List.set_cons_succ])
              refine wpSched_take (v := ?_) hOps rfl (Or.inl ⟨by kernel_rfl, ?_⟩) ?_
              rotate_left
              focus
                intro w9 hSw'
                (try dsimp only at hSw')
                have zK : ∀ {a9 : Addr} {u9 : Value}, w8.cell? a9 = some u9 → w9.cell? a9 = some u9 := fun {a9} {u9} h9 => (hSw'.cell (World.block_lt_of_cell? w8 a9 h9)).trans h9
                have z0 := zK x0
                have z1 := zK x1
                have z2 := zK x3
                have z3 := zK d0
                have z4 := zK d1
                clear zK hSw'
                go_simp
                (try with_reducible rfl)
              (try simp only [Act.put, List.getElem_toArray, List.getElem_cons_succ, List.getElem_cons_zero, List.setIfInBounds_toArray, List.set_cons_zero, List.set_cons_succ])
              refine wpSched_take (v := ?_) hOps rfl (Or.inl ⟨by kernel_rfl, ?_⟩) ?_
              rotate_left
              focus
                intro w9 hSw'
                (try dsimp only at hSw')
                have zK : ∀ {a9 : Addr} {u9 : Value}, w8.cell? a9 = some u9 → w9.cell? a9 = some u9 := fun {a9} {u9} h9 => (hSw'.cell (World.block_lt_of_cell? w8 a9 h9)).trans h9
                have z0 := zK x0
                have z1 := zK x1
                have z2 := zK x3
                have z3 := zK d0
                have z4 := zK d1
                clear zK hSw'
                go_simp
                (try with_reducible rfl)
              (try simp only [Act.put, List.getElem_toArray, List.getElem_cons_succ, List.getElem_cons_zero, List.setIfInBounds_toArray, List.set_cons_zero, List.set_cons_succ])
              refine wpSched_step hOps rfl (fun K hK => ?_)
              go_simp
              go_at_call 12
              with_reducible refine (HK.out _).mono ?_
              rintro e w9 ⟨rfl, hb9⟩
              have H9 := below_then (Below.refl w8.heap.size w8).drew hb9
              refine hK.out _ _ ?_ (fun hHeld => ?_)
              focus exact H9
              clear hK K
              (try simp only [Act.put, List.getElem_toArray, List.getElem_cons_succ, List.getElem_cons_zero, List.setIfInBounds_toArray, List.set_cons_zero, List.set_cons_succ])
              refine wpSched_take (v := ?_) hOps rfl (Or.inl ⟨by kernel_rfl, ?_⟩) ?_
              rotate_left
              focus
                intro w9 hSw'
                (try dsimp only at hSw')
                have zK : ∀ {a9 : Addr} {u9 : Value}, w8.cell? a9 = some u9 → w9.cell? a9 = some u9 := fun {a9} {u9} h9 => (hSw'.cell (World.block_lt_of_cell? w8 a9 h9)).trans h9
                have z0 := zK x0
                clear zK hSw'
                go_simp
                (try with_reducible rfl)
              (try simp only [Act.put, List.getElem_toArray, List.getElem_cons_succ, List.getElem_cons_zero, List.setIfInBounds_toArray, List.set_cons_zero, List.set_cons_succ])
              refine wpSched_take (v := ?_) hOps rfl (Or.inl ⟨by kernel_rfl, ?_⟩) ?_
              rotate_left
              focus
                intro w9 hSw'
                (try dsimp only at hSw')
                have zK : ∀ {a9 : Addr} {u9 : Value}, w8.cell? a9 = some u9 → w9.cell? a9 = some u9 := fun {a9} {u9} h9 => (hSw'.cell (World.block_lt_of_cell? w8 a9 h9)).trans h9
                have z0 := zK x0
                clear zK hSw'
                go_simp
                (try with_reducible rfl)
              (try simp only [Act.put, List.getElem_toArray, List.getElem_cons_succ, List.getElem_cons_zero, List.setIfInBounds_toArray, List.set_cons_zero, List.set_cons_succ])
              refine wpSched_nil ?_
              (try simp only [Act.put, List.getElem_toArray, List.getElem_cons_succ, List.getElem_cons_zero, List.setIfInBounds_toArray, List.set_cons_zero, List.set_cons_succ])
              go_wp2
              go_ret
              exact ⟨rfl, bz8.trans (H9.mono (by have := bz8.size; omega))⟩
end Go.Proofs.Ytaimjlnhdobgeaa.indexBegins
