/- A page of which one byte behind the header is turned, or that is cut off (plain). -/
import Derived.Test.YtaimjlnhdobgeaaPgLaws
import Derived.Test.YtaimjlnhdobgeaaSumsL
set_option linter.unusedSimpArgs false
set_option linter.unusedVariables false
namespace Go.Proofs.Ytaimjlnhdobgeaa
open Go.RowKit

theorem sm_small (l : List Int) (hb : byteB l) : sm (small l) l.length = l := by
  induction l with
  | nil => rfl
  | cons x l ih =>
    have h1 := hb x (List.mem_cons_self ..)
    have h2 := ih (fun y hy => hb y (List.mem_cons_of_mem _ hy))
    rw [List.length_cons, sm, small]
    have e1 : (x + 256 * small l) % 256 = x := by omega
    have e2 : (x + 256 * small l) / 256 = small l := by omega
    first
      | rw [e1, e2, h2]
      | (rw [show small l * 256 + x = x + 256 * small l by omega, e1, e2, h2])
      | (rw [show x + small l * 256 = x + 256 * small l by omega, e1, e2, h2])
theorem bg_big (l : List Int) (hb : byteB l) : bg (big l) l.length = l := by
  have h1 : big l = small l.reverse := by rw [← big_of_rev, List.reverse_reverse]
  have h2 := sm_small l.reverse (fun x hx => hb x (List.mem_reverse.1 hx))
  rw [List.length_reverse] at h2
  rw [bg, h1, h2, List.reverse_reverse]
theorem set_split {l : List Int} {pos : Nat} (h1 : 1 ≤ pos) (h : pos < l.length) (y : Int) : l.set pos y = l.take (pos - 1) ++ ([l.getD (pos - 1) 0, y] ++ l.drop (pos + 1)) := by
  rw [List.set_eq_take_append_cons_drop, if_pos h]
  have e : pos = (pos - 1) + 1 := by omega
  conv => lhs; rw [e]
  rw [List.take_succ_eq_append_getElem (by omega), List.append_assoc]
  simp only [List.getD_eq_getElem?_getD, List.getElem?_eq_getElem (show pos - 1 < l.length by omega), Option.getD_some, List.cons_append, List.nil_append]
  rw [← e]
theorem getD_byte {l : List Int} (hb : byteB l) (j : Nat) : 0 ≤ l.getD j 0 ∧ l.getD j 0 ≤ 255 := hb.getD j
theorem set_same {l : List Int} {pos : Nat} (h : pos < l.length) : l.set pos (l.getD pos 0) = l := by
  rw [List.getD_eq_getElem?_getD, List.getElem?_eq_getElem h, Option.getD_some, List.set_getElem_self]
theorem crc_set {l : List Int} {pos : Nat} (h1 : 1 ≤ pos) (h : pos < l.length) (hb : byteB l) {y : Int} (hy : 0 ≤ y ∧ y ≤ 255) : crc (l.set pos y) = crc l ↔ y = l.getD pos 0 := by
  have e := set_split h1 h (l.getD pos 0)
  rw [set_same h] at e
  rw [set_split h1 h y]
  conv => lhs; rhs; rw [e]
  rw [crc_two (hb.getD _) hy (hb.getD _) (hb.getD _)]
  exact ⟨fun h => h.2, fun h => ⟨rfl, h⟩⟩

theorem rd_head {p : Pg} (h : pgOk p = true) {x : List Int} (hx : x.take 8 = (pgBytes p).take 8) : x.getD 0 0 = 75 ∧ x.getD 1 0 = 80 ∧ rdOk x = true ∧ x.getD 7 0 = (p.body.length : Int) := by
  have hok := h
  simp only [pgOk, decide_eq_true_eq] at hok
  have hF := pgFlags_bd p
  have hgd : (pgFlags p / 4 % 2 != 0) = p.guard := (fl_of p.first p.last p.guard).2.2
  have e0 : (pgBytes p).take 8 = [75, 80, pgFlags p] ++ (bg p.seq 4 ++ [(p.body.length : Int)]) := by
    have : pgBytes p = ([75, 80, pgFlags p] ++ (bg p.seq 4 ++ [(p.body.length : Int)])) ++ (p.body ++ bg (crc (pgHead p)) 4) := by simp only [pgBytes, pgHead, List.append_assoc]
    rw [this, take_app (by simp [bg_len])]
  have e1 : x = [75, 80, pgFlags p] ++ (bg p.seq 4 ++ ([(p.body.length : Int)] ++ x.drop 8)) := by
    conv => lhs; rw [← List.take_append_drop 8 x, hx, e0]
    simp only [List.append_assoc]
  generalize x.drop 8 = r at e1
  have g0 : x.getD 0 0 = 75 := by rw [e1]; rfl
  have g1 : x.getD 1 0 = 80 := by rw [e1]; rfl
  have g2 : x.getD 2 0 = pgFlags p := by rw [e1]; rfl
  have d3 : x.drop 3 = bg p.seq 4 ++ ([(p.body.length : Int)] ++ r) := by rw [e1]; rfl
  have s3 : big ((x.drop 3).take 4) = p.seq := by rw [d3, take_app (bg_len _ _), big_bg _ _ hok.1 (by omega)]
  have d7 : x.drop 7 = [(p.body.length : Int)] ++ r := by rw [show 7 = 3 + 4 from rfl, ← List.drop_drop, d3, drop_app (bg_len _ _)]
  have g7 : x.getD 7 0 = (p.body.length : Int) := by
    have : x.getD 7 0 = (x.drop 7).getD 0 0 := by simp [List.getD, List.getElem?_drop]
    rw [this, d7]; rfl
  refine ⟨g0, g1, ?_, g7⟩
  simp only [rdOk, decide_eq_true_eq]
  rw [g2, s3, g7, hgd]
  omega
theorem rdE_of {p : Pg} (h : pgOk p = true) {x : List Int} (hx : x.take 8 = (pgBytes p).take 8) (hl : x.length = p.body.length + 12) :
    rdE x = if big ((x.drop (p.body.length + 8)).take 4) ≠ crc (x.take (p.body.length + 8)) then 5 else 0 := by
  obtain ⟨g0, g1, g2, g7⟩ := rd_head h hx
  rw [rdE_eq, if_neg (by omega), if_neg (by rw [g0, g1]; simp), if_neg (by omega), if_neg (by simp [g2]), if_neg (by rw [g7]; omega), g7, Int.toNat_natCast]
theorem pgBytes_len (p : Pg) : (pgBytes p).length = p.body.length + 12 := by rw [pgBytes, List.length_append, pgHead_len, bg_len]
theorem rd_turned {p : Pg} (h : pgOk p = true) (hb : byteB p.body) {pos : Nat} (h8 : 8 ≤ pos) (hpos : pos < p.body.length + 12) {y : Int} (hy : 0 ≤ y ∧ y ≤ 255) :
    rdE ((pgBytes p).set pos y) = if y = (pgBytes p).getD pos 0 then 0 else 5 := by
  have hlen := pgBytes_len p
  have hH := pgHead_len p
  have hc := crc_bd (pgHead p)
  have hHb := pgHead_bytes h hb
  rw [rdE_of h (by rw [List.take_set, List.set_eq_of_length_le (by rw [List.length_take]; omega)]) (by rw [List.length_set, hlen])]
  by_cases hp : pos < p.body.length + 8
  · have e : (pgBytes p).set pos y = (pgHead p).set pos y ++ bg (crc (pgHead p)) 4 := by rw [pgBytes, List.set_append_left _ _ (by omega)]
    have g : (pgBytes p).getD pos 0 = (pgHead p).getD pos 0 := by rw [pgBytes, List.getD_eq_getElem?_getD, List.getD_eq_getElem?_getD, List.getElem?_append_left (by omega)]
    rw [e, g, drop_app (by rw [List.length_set, hH]), take_app (by rw [List.length_set, hH]), List.take_of_length_le (by rw [bg_len]; omega), big_bg _ _ hc.1 (by omega)]
    have k := crc_set (l := pgHead p) (pos := pos) (by omega) (by omega) hHb hy
    by_cases hyy : y = (pgHead p).getD pos 0
    · rw [if_pos hyy, if_neg (by rw [k.2 hyy]; simp)]
    · rw [if_neg hyy, if_pos (fun hh => hyy (k.1 hh.symm))]
  · have e : (pgBytes p).set pos y = pgHead p ++ (bg (crc (pgHead p)) 4).set (pos - (p.body.length + 8)) y := by rw [pgBytes, List.set_append_right _ _ (by omega), hH]
    have g : (pgBytes p).getD pos 0 = (bg (crc (pgHead p)) 4).getD (pos - (p.body.length + 8)) 0 := by rw [pgBytes, List.getD_eq_getElem?_getD, List.getD_eq_getElem?_getD, List.getElem?_append_right (by omega), hH]
    rw [e, g, drop_app hH, take_app hH, List.take_of_length_le (by rw [List.length_set, bg_len]; omega)]
    have hj : pos - (p.body.length + 8) < (bg (crc (pgHead p)) 4).length := by rw [bg_len]; omega
    generalize pos - (p.body.length + 8) = j at *
    have hbb := bg_bytes (crc (pgHead p)) 4
    have hsb : byteB ((bg (crc (pgHead p)) 4).set j y) := fun z hz => by
      rcases List.mem_or_eq_of_mem_set hz with hz | hz
      · exact hbb z hz
      · rw [hz]; exact hy
    have hbig : big (bg (crc (pgHead p)) 4) = crc (pgHead p) := big_bg _ _ hc.1 (by omega)
    by_cases hyy : y = (bg (crc (pgHead p)) 4).getD j 0
    · rw [if_pos hyy, hyy, set_same hj, if_neg (by rw [hbig]; simp)]
    · rw [if_neg hyy, if_pos (fun hh => hyy ?_)]
      have k := bg_big _ hsb
      rw [List.length_set, bg_len, hh] at k
      have k2 := congrArg (fun l => l.getD j 0) k
      (try simp only at k2)
      rw [k2, List.getD_eq_getElem?_getD, List.getElem?_set_self hj, Option.getD_some]
theorem rd_cut {p : Pg} (h : pgOk p = true) {k : Nat} (hk : k < p.body.length + 12) : rdE ((pgBytes p).take k) = 3 := by
  have hlen := pgBytes_len p
  have hl : ((pgBytes p).take k).length = k := by rw [List.length_take]; omega
  by_cases h2 : k < 2
  · rw [rdE_eq, if_pos (by omega)]
  · by_cases h8 : k < 8
    · obtain ⟨g0, g1, _, _⟩ := rd_head h (x := pgBytes p) rfl
      have e0 : ((pgBytes p).take k).getD 0 0 = 75 := by rw [← g0]; simp [List.getD, List.getElem?_take, show 0 < k by omega]
      have e1 : ((pgBytes p).take k).getD 1 0 = 80 := by rw [← g1]; simp [List.getD, List.getElem?_take, show 1 < k by omega]
      rw [rdE_eq, if_neg (by omega), if_neg (by rw [e0, e1]; simp), if_pos (by omega)]
    · obtain ⟨g0, g1, g2, g7⟩ := rd_head h (x := (pgBytes p).take k) (by rw [List.take_take, Nat.min_eq_left (by omega)])
      rw [rdE_eq, if_neg (by omega), if_neg (by rw [g0, g1]; simp), if_neg (by omega), if_neg (by simp [g2]), if_pos (by rw [g7]; omega)]
end Go.Proofs.Ytaimjlnhdobgeaa
