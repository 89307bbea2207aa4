/- Packets and pages come back out of their bytes (plain). -/
import Derived.Test.YtdnkdjaokmibjaaPgSplitL
import Derived.Test.YtdnkdjaokmibjaaPkOpenL
set_option linter.unusedSimpArgs false
set_option linter.unusedVariables false
namespace Go.Proofs.Ytdnkdjaokmibjaa
open Go.RowKit

def Pg.zero : Pg := ⟨0, false, false, false, []⟩
def rdOk (x : List Int) : Bool := decide (x.getD 2 0 ≤ 7 ∧ big ((x.drop 3).take 4) ≤ 2147483647 ∧ 1 ≤ x.getD 7 0 ∧ x.getD 7 0 ≤ mostB (x.getD 2 0 / 4 % 2 != 0))
def rdE (x : List Int) : Int :=
  if x.length < 2 then 3 else if ¬ (x.getD 0 0 = 75 ∧ x.getD 1 0 = 80) then 2 else if x.length < 8 then 3 else if rdOk x = false then 2
  else if (x.length : Int) < x.getD 7 0 + 12 then 3 else if big ((x.drop ((x.getD 7 0).toNat + 8)).take 4) ≠ crc (x.take ((x.getD 7 0).toNat + 8)) then 5 else 0
def rdP (x : List Int) : Pg := if rdE x = 0 then ⟨big ((x.drop 3).take 4), x.getD 2 0 % 2 != 0, x.getD 2 0 / 2 % 2 != 0, x.getD 2 0 / 4 % 2 != 0, (x.drop 8).take (x.getD 7 0).toNat⟩ else Pg.zero
def rdL (x : List Int) : Int := if rdE x = 0 then x.getD 7 0 + 12 else 0

theorem rdE_eq (x : List Int) : rdE x = if x.length < 2 then 3 else if ¬ (x.getD 0 0 = 75 ∧ x.getD 1 0 = 80) then 2 else if x.length < 8 then 3 else if rdOk x = false then 2
  else if (x.length : Int) < x.getD 7 0 + 12 then 3 else if big ((x.drop ((x.getD 7 0).toNat + 8)).take 4) ≠ crc (x.take ((x.getD 7 0).toNat + 8)) then 5 else 0 := rfl
theorem rdP_eq (x : List Int) : rdP x = if rdE x = 0 then ⟨big ((x.drop 3).take 4), x.getD 2 0 % 2 != 0, x.getD 2 0 / 2 % 2 != 0, x.getD 2 0 / 4 % 2 != 0, (x.drop 8).take (x.getD 7 0).toNat⟩ else Pg.zero := rfl
theorem rdL_eq (x : List Int) : rdL x = if rdE x = 0 then x.getD 7 0 + 12 else 0 := rfl
theorem big4_bd {b : List Int} (h : byteB b) (p : Nat) : 0 ≤ big ((b.drop p).take 4) ∧ big ((b.drop p).take 4) ≤ 4294967295 := by
  have h1 := big_bound _ (h.part p 4)
  have h2 : ((b.drop p).take 4).length ≤ 4 := by simp; omega
  have h3 : (256 : Int) ^ ((b.drop p).take 4).length ≤ 256 ^ 4 := by
    generalize ((b.drop p).take 4).length = n at *
    rcases (show n = 0 ∨ n = 1 ∨ n = 2 ∨ n = 3 ∨ n = 4 by omega) with rfl | rfl | rfl | rfl | rfl <;> omega
  omega
theorem and_fl (f : Int) (h0 : 0 ≤ f) (h1 : f ≤ 255) : (bits .and .u64 f 4 != 0) = (f / 4 % 2 != 0) := by
  obtain ⟨n, rfl⟩ := Int.eq_ofNat_of_zero_le h0
  have hn : n < 256 := by omega
  have key : ∀ k : Fin 256, (bits .and .u64 (k.val : Int) 4 != 0) = ((k.val : Int) / 4 % 2 != 0) := by decide +kernel
  exact key ⟨n, hn⟩
theorem and7_1 (f : Int) (h0 : 0 ≤ f) (h1 : f ≤ 255) : (bits .and .u64 f 1 != 0) = (f % 2 != 0) := by
  obtain ⟨n, rfl⟩ := Int.eq_ofNat_of_zero_le h0
  have hn : n < 256 := by omega
  have key : ∀ k : Fin 256, (bits .and .u64 (k.val : Int) 1 != 0) = ((k.val : Int) % 2 != 0) := by decide +kernel
  exact key ⟨n, hn⟩
theorem and7_2 (f : Int) (h0 : 0 ≤ f) (h1 : f ≤ 255) : (bits .and .u64 f 2 != 0) = (f / 2 % 2 != 0) := by
  obtain ⟨n, rfl⟩ := Int.eq_ofNat_of_zero_le h0
  have hn : n < 256 := by omega
  have key : ∀ k : Fin 256, (bits .and .u64 (k.val : Int) 2 != 0) = ((k.val : Int) / 2 % 2 != 0) := by decide +kernel
  exact key ⟨n, hn⟩
theorem getD_part {x : List Int} {p k i : Nat} (h : p + k ≤ x.length) (hi : i < k) : ((x.drop p).take k).getD i 0 = x.getD (p + i) 0 := by
  simp [List.getD, List.getElem?_take, List.getElem?_drop, hi]
theorem part_part {x : List Int} {p k q m : Nat} (h : q + m ≤ k) : (((x.drop p).take k).drop q).take m = (x.drop (p + q)).take m := by
  rw [List.drop_take, List.drop_drop, List.take_take, Nat.min_eq_left (by omega)]
end Go.Proofs.Ytdnkdjaokmibjaa

namespace Go.Proofs.Ytdnkdjaokmibjaa
open Go.RowKit

theorem emod_256m (n d : Int) (hd : 0 < d) : n % (256 * d) = n % 256 + 256 * (n / 256 % d) := by
  have h1 := Int.emod_add_mul_ediv n 256
  have h2 := Int.emod_add_mul_ediv (n / 256) d
  have h3 : 0 ≤ n % 256 := Int.emod_nonneg _ (by omega)
  have h4 : n % 256 < 256 := Int.emod_lt_of_pos _ (by omega)
  have h5 : 0 ≤ n / 256 % d := Int.emod_nonneg _ (by omega)
  have h6 : n / 256 % d < d := Int.emod_lt_of_pos _ hd
  have e : n = n % 256 + 256 * (n / 256 % d) + (256 * d) * (n / 256 / d) := by
    have : (256 * d) * (n / 256 / d) = 256 * (d * (n / 256 / d)) := Int.mul_assoc _ _ _
    rw [this]; omega
  have h7 : n % (256 * d) = (n % 256 + 256 * (n / 256 % d)) % (256 * d) := by
    conv => lhs; rw [e]
    rw [Int.add_mul_emod_self_left]
  rw [h7]
  exact Int.emod_eq_of_lt (by omega) (by omega)
theorem small_of_sm (k : Nat) : ∀ n : Int, small (sm n k) = n % 256 ^ k := by
  induction k with
  | zero => intro n; simp [sm, small, Int.emod_one]
  | succ k ih =>
    intro n
    rw [sm, small, ih, Int.pow_succ, Int.mul_comm (256 ^ k) 256, emod_256m _ _ (Int.pow_pos (by omega))]
theorem big_of_rev (l : List Int) : big l.reverse = small l := by
  induction l with
  | nil => rfl
  | cons x l ih => rw [List.reverse_cons, big_snoc, ih, small]; omega
theorem big_bg (n : Int) (k : Nat) (h0 : 0 ≤ n) (h1 : n < 256 ^ k) : big (bg n k) = n := by
  rw [bg, big_of_rev, small_of_sm, Int.emod_eq_of_lt h0 h1]

theorem drop_app {a b : List Int} {n : Nat} (h : a.length = n) : (a ++ b).drop n = b := by subst h; simp
theorem take_app {a b : List Int} {n : Nat} (h : a.length = n) : (a ++ b).take n = a := by subst h; simp
theorem fl_of (f l g : Bool) : ((fl f 1 + fl l 2 + fl g 4) % 2 != 0) = f ∧ ((fl f 1 + fl l 2 + fl g 4) / 2 % 2 != 0) = l ∧ ((fl f 1 + fl l 2 + fl g 4) / 4 % 2 != 0) = g := by
  cases f <;> cases l <;> cases g <;> decide

/-- A page read where its bytes lie. -/
theorem rd_back {p : Pg} (h : pgOk p = true) (r : List Int) : rdE (pgBytes p ++ r) = 0 ∧ rdP (pgBytes p ++ r) = p ∧ rdL (pgBytes p ++ r) = (p.body.length : Int) + 12 := by
  have hok := h
  have hl := pgOk_len h
  simp only [pgOk, decide_eq_true_eq] at hok
  have hF := pgFlags_bd p
  have hfl := fl_of p.first p.last p.guard
  have hc := crc_bd (pgHead p)
  obtain ⟨x, hx⟩ : ∃ x, x = pgBytes p ++ r := ⟨_, rfl⟩
  have e1 : x = [75, 80, pgFlags p] ++ (bg p.seq 4 ++ ([(p.body.length : Int)] ++ (p.body ++ (bg (crc (pgHead p)) 4 ++ r)))) := by
    rw [hx]; simp only [pgBytes, pgHead, List.append_assoc]
  have e2 : x = pgHead p ++ (bg (crc (pgHead p)) 4 ++ r) := by rw [hx, pgBytes, List.append_assoc]
  have hlen : x.length = p.body.length + 12 + r.length := by rw [e2, List.length_append, List.length_append, pgHead_len, bg_len]; omega
  rw [← hx]
  clear hx
  have g0 : x.getD 0 0 = 75 := by rw [e1]; rfl
  have g1 : x.getD 1 0 = 80 := by rw [e1]; rfl
  have g2 : x.getD 2 0 = pgFlags p := by rw [e1]; rfl
  have d3 : x.drop 3 = bg p.seq 4 ++ ([(p.body.length : Int)] ++ (p.body ++ (bg (crc (pgHead p)) 4 ++ r))) := by rw [e1]; rfl
  have s3 : big ((x.drop 3).take 4) = p.seq := by rw [d3, take_app (bg_len _ _), big_bg _ _ hok.1 (by omega)]
  have d7 : x.drop 7 = [(p.body.length : Int)] ++ (p.body ++ (bg (crc (pgHead p)) 4 ++ r)) := by
    rw [show 7 = 3 + 4 from rfl, ← List.drop_drop, d3, drop_app (bg_len _ _)]
  have g7 : x.getD 7 0 = (p.body.length : Int) := by
    have : x.getD 7 0 = (x.drop 7).getD 0 0 := by simp [List.getD, List.getElem?_drop]
    rw [this, d7]; rfl
  have d8 : x.drop 8 = p.body ++ (bg (crc (pgHead p)) 4 ++ r) := by
    rw [show 8 = 7 + 1 from rfl, ← List.drop_drop, d7]; rfl
  have t8 : (x.drop 8).take p.body.length = p.body := by rw [d8, take_app rfl]
  have hd : x.take (p.body.length + 8) = pgHead p := by rw [e2, take_app (pgHead_len p)]
  have hs : big ((x.drop (p.body.length + 8)).take 4) = crc (pgHead p) := by
    rw [e2, drop_app (pgHead_len p), take_app (bg_len _ _), big_bg _ _ hc.1 (by omega)]
  have hgd : (pgFlags p / 4 % 2 != 0) = p.guard := hfl.2.2
  have hro : rdOk x = true := by
    simp only [rdOk, decide_eq_true_eq]
    rw [g2, s3, g7, hgd]
    omega
  have hE : rdE x = 0 := by
    rw [rdE_eq, if_neg (by omega), if_neg (by rw [g0, g1]; simp), if_neg (by omega), if_neg (by simp [hro]), if_neg (by rw [g7]; omega), g7, Int.toNat_natCast, hd, hs, if_neg (by simp)]
  refine ⟨hE, ?_, ?_⟩
  · rw [rdP_eq, if_pos hE, g2, s3, g7, Int.toNat_natCast, t8]
    have h1 : (pgFlags p % 2 != 0) = p.first := hfl.1
    have h2 : (pgFlags p / 2 % 2 != 0) = p.last := hfl.2.1
    rw [h1, h2, hgd]
  · rw [rdL_eq, if_pos hE, g7]

/-- A packet opened out of its bytes. -/
theorem open_back {p : Pk} (h : layE p = 0) : openE p.bytes = 0 ∧ openP p.bytes = p := by
  have hh := head_bd h
  have hl := layOk_len h
  simp only [Pk.head, decide_eq_true_eq] at hh
  have hbl := bytes_len p
  obtain ⟨x, hx⟩ : ∃ x, x = p.bytes := ⟨_, rfl⟩
  have e1 : x = [p.st, p.flags] ++ (bg p.at_ 8 ++ (bg p.ln 8 ++ p.data)) := by rw [hx]; simp only [Pk.bytes, List.append_assoc]
  rw [← hx] at hbl ⊢
  have g0 : x.getD 0 0 = p.st := by rw [e1]; rfl
  have g1 : x.getD 1 0 = p.flags := by rw [e1]; rfl
  have d2 : x.drop 2 = bg p.at_ 8 ++ (bg p.ln 8 ++ p.data) := by rw [e1]; rfl
  have s2 : big ((x.drop 2).take 8) = p.at_ := by rw [d2, take_app (bg_len _ _), big_bg _ _ hh.2.2.1 (by omega)]
  have d10 : x.drop 10 = bg p.ln 8 ++ p.data := by rw [show 10 = 2 + 8 from rfl, ← List.drop_drop, d2, drop_app (bg_len _ _)]
  have s10 : big ((x.drop 10).take 8) = p.ln := by rw [d10, take_app (bg_len _ _), big_bg _ _ hh.2.2.2.2.1 (by omega)]
  have d18 : x.drop 18 = p.data := by rw [show 18 = 10 + 8 from rfl, ← List.drop_drop, d10, drop_app (bg_len _ _)]
  have hf : p.flags ≤ 3 ∧ (p.flags % 2 != 0) = p.key ∧ (p.flags / 2 % 2 != 0) = p.hid := by
    have key : ∀ a b : Bool, fl a 1 + fl b 2 ≤ 3 ∧ ((fl a 1 + fl b 2) % 2 != 0) = a ∧ ((fl a 1 + fl b 2) / 2 % 2 != 0) = b := by decide
    exact key p.key p.hid
  have hok : openOk x = true := by
    simp only [openOk, decide_eq_true_eq]
    rw [g0, g1, s2, s10]
    omega
  have hE : openE x = 0 := by
    rw [openE, if_neg (by omega), if_neg (by omega), if_pos hok]
  refine ⟨hE, ?_⟩
  rw [openP, if_pos hE, g0, g1, s2, s10, d18, hf.2.1, hf.2.2]
end Go.Proofs.Ytdnkdjaokmibjaa
