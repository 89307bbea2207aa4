/- MendJoins: plain, and two own slices side by side. -/
import Derived.Test.YtdnkdjaokmibjaaMdTh
import Derived.Test.YtdnkdjaokmibjaaMdCl
set_option linter.unusedSimpArgs false
set_option linter.unusedVariables false
namespace Go.Proofs.Ytdnkdjaokmibjaa
open Go.RowKit

/-- pages as bytes, other bytes behind each -/
def layd (s : List Pg) (z : List Int) : List Int := s.flatMap fun p => pgBytes p ++ z
theorem layd_snoc (s : List Pg) (p : Pg) (z : List Int) : layd (s ++ [p]) z = layd s z ++ pgBytes p ++ z := by
  rw [layd, layd, List.flatMap_append, List.append_assoc]; simp
theorem layd_len (s : List Pg) (z : List Int) : (layd s z).length = (s.flatMap pgBytes).length + s.length * z.length := by
  induction s with
  | nil => simp [layd]
  | cons p s ih =>
    have e : layd (p :: s) z = pgBytes p ++ z ++ layd s z := by rw [layd, layd, List.flatMap_cons]
    rw [e, List.flatMap_cons, List.length_append, List.length_append, List.length_append, ih, List.length_cons, Nat.add_mul]
    omega
theorem layd_bytes {s : List Pg} {z : List Int} (h : byteB (s.flatMap pgBytes)) (hz : byteB z) : byteB (layd s z) := fun x hx => by
  obtain ⟨p, hp, hx⟩ := List.mem_flatMap.1 hx
  rcases List.mem_append.1 hx with hx | hx
  · exact h x (List.mem_flatMap.2 ⟨p, hp, hx⟩)
  · exact hz x hx
theorem scan_acc {b : List Int} (hb : byteB b) : ∀ k, (scanK b k).1 ≤ b.length ∧ (scanK b k).1 = (scanK b k).2.2 + ((scanK b k).2.1.flatMap pgBytes).length
  | 0 => by simp [scanK]
  | k + 1 => by
    have ih := scan_acc hb k
    rw [show scanK b (k + 1) = stp b (scanK b k) from rfl, stp]
    generalize scanK b k = s at *
    obtain ⟨a, l, n⟩ := s
    simp only at ih ⊢
    by_cases h : a < b.length
    · rw [if_pos h]
      by_cases h2 : rdE (b.drop a) = 0
      · have h3 := rd_ok_bd (fun y hy => hb y (List.mem_of_mem_drop hy)) h2
        rw [if_pos h2]
        simp only [List.flatMap_append, List.length_append, List.flatMap_cons, List.flatMap_nil, List.append_nil, pgb_len]
        rw [List.length_drop] at h3
        omega
      · rw [if_neg h2]
        simp only
        omega
    · rw [if_neg h]
      exact ih
/-- Bytes of which a scan finds just the pages: so many it passes. -/
theorem scan_passed {s : List Pg} {z : List Int} {n : Nat} (hb : byteB (layd s z)) (h : ScanEnd (layd s z) s n) : n = s.length * z.length := by
  obtain ⟨k, a, e, ha⟩ := h
  have h1 := scan_acc hb k
  rw [e] at h1
  simp only at h1
  have h2 := layd_len s z
  omega

/-- Bytes and pages, both the call's own. -/
structure BlM (w : World) (B : Nat) (bv lv : Value) (bs : List Int) (ps : List Pg) : Prop where
  b : OwnI w B 5 .u8 bv bs
  l : OwnG PgR 5 33 w B (fun x => x < w.heap.size ∧ bv.ownBlock ≠ some x) lv ps
  ne : ∀ x, bv.ownBlock = some x → lv.ownBlock ≠ some x
section
variable {w w' : World} {B : Nat} {bv lv bv' lv' : Value} {bs ys : List Int} {ps : List Pg}
theorem BlM.nil (w : World) (B : Nat) : BlM w B (.slice none 0 0) (.slice none 0 0) [] [] := ⟨OwnI.nil_ _ _ _ _, OwnG.nil_ _ _ _ _ _ _, fun _ h => by cases h⟩
theorem BlM.below (h : BlM w B bv lv bs ps) (hb : Below w.heap.size w w') : BlM w' B bv lv bs ps where
  b := h.b.below hb
  l := (h.l.keep PgR.good (M := fun _ => False) (Mod.of_below hb fun b h1 h2 => absurd h1 (by omega)) (fun _ _ _ h => h) (fun _ _ h => h)).weak PgR.good (fun x hx _ => ⟨Nat.lt_of_lt_of_le hx.1 hb.size, hx.2⟩)
  ne := h.ne
theorem BlM.app (h : BlM w B bv lv bs ps) (hg : w.grownBy w' bv.ownBlock) (ho : OwnI w' B 5 .u8 bv' (bs ++ ys)) (hv : bv'.ownBlock = bv.ownBlock ∨ bv'.ownBlock = some w.heap.size) : BlM w' B bv' lv (bs ++ ys) ps where
  b := ho
  l := (h.l.keep PgR.good (M := fun b => bv.ownBlock = some b) (Mod.of_grown hg fun b e _ => e) (fun b hb _ e => hb.2 e) (fun b hb e => h.ne b e hb)).weak PgR.good (fun x hx _ => ⟨Nat.lt_of_lt_of_le hx.1 hg.size, fun e => by
    rcases hv with hv | hv
    · exact hx.2 (hv ▸ e)
    · rw [hv] at e; have := Option.some.inj e; have := hx.1; omega⟩)
  ne := fun x hx e => by
    rcases hv with hv | hv
    · exact h.ne x (hv ▸ hx) e
    · rw [hv] at hx
      have h1 := Option.some.inj hx
      have h2 := h.l.own_ge x e
      omega
theorem BlM.push {cs : List Value} {p : Pg} (h : BlM w B bv lv bs ps) (hg : (w.alloc (.cells cs.toArray 33)).grownBy w' lv.ownBlock)
    (ho : OwnG PgR 5 33 w' B (fun x => x ≤ w.heap.size ∧ bv.ownBlock ≠ some x) lv' (ps ++ [p])) (hv : lv'.ownBlock = lv.ownBlock ∨ lv'.ownBlock = some (w.heap.size + 1)) : BlM w' B bv lv' bs (ps ++ [p]) where
  b := (h.b.alloc _).kept hg (by
    cases hb : bv.ownBlock with
    | none => exact .inl rfl
    | some x => exact .inr fun e => h.ne x hb e.symm)
  l := ho.weak PgR.good (fun x hx _ => ⟨by have := hg.size; have := hx.1; simp at *; omega, hx.2⟩)
  ne := fun x hx e => by
    rcases hv with hv | hv
    · exact h.ne x hx (hv ▸ e)
    · rw [hv] at e
      have h1 := Option.some.inj e
      have h2 := World.ownsRow.lt h.b x hx
      omega
end
end Go.Proofs.Ytdnkdjaokmibjaa
