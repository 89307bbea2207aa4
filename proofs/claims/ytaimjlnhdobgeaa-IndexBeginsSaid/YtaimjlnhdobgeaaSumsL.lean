/- The plain law of the checksum: bytes that part in two neighbours alone have two checksums. -/
import Derived.Test.YtaimjlnhdobgeaaSum32
set_option linter.unusedSimpArgs false
set_option linter.unusedVariables false
namespace Go.Proofs.Ytaimjlnhdobgeaa
open Go.RowKit

def cP : BitVec 32 := 3988292384#32
def vbit (s : BitVec 32) : BitVec 32 := (s >>> 1) ^^^ (if s.getLsbD 0 = true then cP else 0#32)
def vbits : Nat → BitVec 32 → BitVec 32
  | 0, s => s
  | n + 1, s => vbit (vbits n s)
def vbyte (s c : BitVec 32) : BitVec 32 := vbits 8 (s ^^^ c)
def vrun (l : List Int) (s : BitVec 32) : BitVec 32 := l.foldl (fun s c => vbyte s (BitVec.ofInt 32 c)) s

theorem vbit_xor (a b : BitVec 32) : vbit (a ^^^ b) = vbit a ^^^ vbit b := by
  unfold vbit
  rw [BitVec.ushiftRight_xor_distrib, BitVec.getLsbD_xor]
  have h : (if (a.getLsbD 0 ^^ b.getLsbD 0) = true then cP else 0#32) = (if a.getLsbD 0 = true then cP else 0#32) ^^^ (if b.getLsbD 0 = true then cP else 0#32) := by
    cases a.getLsbD 0 <;> cases b.getLsbD 0 <;> simp
  rw [h]
  ac_rfl
theorem vbit_zero {d : BitVec 32} (h : vbit d = 0#32) : d = 0#32 := by
  unfold vbit at h
  cases hl : d.getLsbD 0
  · rw [hl] at h
    simp only [Bool.false_eq_true, if_false, BitVec.xor_zero] at h
    have h2 := congrArg BitVec.toNat h
    rw [BitVec.toNat_ushiftRight, BitVec.toNat_ofNat, Nat.shiftRight_eq_div_pow] at h2
    have h3 : d.toNat % 2 = 0 := by
      rw [BitVec.getLsbD, Nat.testBit_zero] at hl
      have := of_decide_eq_false hl
      omega
    apply BitVec.eq_of_toNat_eq
    rw [BitVec.toNat_ofNat]
    omega
  · rw [hl] at h
    simp only [if_true] at h
    have h2 : d >>> 1 = cP := by
      have := congrArg (· ^^^ cP) h
      simpa [BitVec.xor_assoc] using this
    have h3 := congrArg (fun x => x.getLsbD 31) h2
    simp only [BitVec.getLsbD_ushiftRight] at h3
    have h4 : cP.getLsbD 31 = true := by decide
    rw [h4] at h3
    have := BitVec.getLsbD_of_ge d (1 + 31) (by omega)
    rw [this] at h3
    cases h3
theorem vbits_xor (a b : BitVec 32) : ∀ n, vbits n (a ^^^ b) = vbits n a ^^^ vbits n b
  | 0 => rfl
  | n + 1 => by rw [vbits, vbits_xor a b n, vbit_xor]; rfl
theorem vbits_zero {d : BitVec 32} : ∀ n, vbits n d = 0#32 → d = 0#32
  | 0, h => h
  | n + 1, h => vbits_zero n (vbit_zero h)
theorem vbyte_xor (a b c e : BitVec 32) : vbyte a c ^^^ vbyte b e = vbits 8 ((a ^^^ b) ^^^ (c ^^^ e)) := by
  rw [vbyte, vbyte, ← vbits_xor]
  congr 1
  ac_rfl
theorem vrun_inj (l : List Int) : ∀ a b, vrun l a = vrun l b → a = b := by
  induction l with
  | nil => intro a b h; exact h
  | cons c l ih =>
    intro a b h
    have h1 : vbyte a (BitVec.ofInt 32 c) = vbyte b (BitVec.ofInt 32 c) := ih _ _ h
    have h2 : vbits 8 ((a ^^^ b) ^^^ (BitVec.ofInt 32 c ^^^ BitVec.ofInt 32 c)) = 0#32 := by rw [← vbyte_xor, h1, BitVec.xor_self]
    have h3 := vbits_zero 8 h2
    rw [BitVec.xor_self, BitVec.xor_zero] at h3
    have h4 := congrArg (· ^^^ b) h3
    simpa [BitVec.xor_assoc] using h4
theorem table_big : ∀ e : Fin 256, e.val ≠ 0 → 256 ≤ (vbits 8 (BitVec.ofNat 32 e.val)).toNat := by decide +kernel
theorem xor_byte {a b : Int} (ha : 0 ≤ a ∧ a ≤ 255) (hb : 0 ≤ b ∧ b ≤ 255) : ∃ e : Nat, e < 256 ∧ BitVec.ofInt 32 a ^^^ BitVec.ofInt 32 b = BitVec.ofNat 32 e ∧ (e = 0 → a = b) := by
  obtain ⟨A, rfl⟩ := Int.eq_ofNat_of_zero_le ha.1
  obtain ⟨B, rfl⟩ := Int.eq_ofNat_of_zero_le hb.1
  have hlt : A ^^^ B < 256 := Nat.xor_lt_two_pow (n := 8) (by omega) (by omega)
  refine ⟨A ^^^ B, hlt, ?_, fun h => ?_⟩
  · apply BitVec.eq_of_toNat_eq
    rw [BitVec.toNat_xor, BitVec.ofInt_natCast, BitVec.ofInt_natCast, BitVec.toNat_ofNat, BitVec.toNat_ofNat, BitVec.toNat_ofNat, Nat.mod_eq_of_lt (by omega), Nat.mod_eq_of_lt (by omega), Nat.mod_eq_of_lt (by omega)]
  · have h2 : A ^^^ B ^^^ B = 0 ^^^ B := by rw [h]
    rw [Nat.xor_assoc, Nat.xor_self, Nat.xor_zero, Nat.zero_xor] at h2
    omega
theorem vrun_append (a b : List Int) (s : BitVec 32) : vrun (a ++ b) s = vrun b (vrun a s) := by simp [vrun]
theorem vrun_two {s : BitVec 32} {a1 a2 b1 b2 : Int} (ha1 : 0 ≤ a1 ∧ a1 ≤ 255) (ha2 : 0 ≤ a2 ∧ a2 ≤ 255) (hb1 : 0 ≤ b1 ∧ b1 ≤ 255) (hb2 : 0 ≤ b2 ∧ b2 ≤ 255) (h : vrun [a1, a2] s = vrun [b1, b2] s) : a1 = b1 ∧ a2 = b2 := by
  obtain ⟨e1, l1, x1, y1⟩ := xor_byte ha1 hb1
  obtain ⟨e2, l2, x2, y2⟩ := xor_byte ha2 hb2
  have h0 : vbyte (vbyte s (BitVec.ofInt 32 a1)) (BitVec.ofInt 32 a2) = vbyte (vbyte s (BitVec.ofInt 32 b1)) (BitVec.ofInt 32 b2) := h
  have h2 : vbits 8 ((vbyte s (BitVec.ofInt 32 a1) ^^^ vbyte s (BitVec.ofInt 32 b1)) ^^^ (BitVec.ofInt 32 a2 ^^^ BitVec.ofInt 32 b2)) = 0#32 := by
    rw [← vbyte_xor, h0, BitVec.xor_self]
  have h3 := vbits_zero 8 h2
  rw [vbyte_xor, BitVec.xor_self, BitVec.zero_xor, x1, x2] at h3
  have h4 : vbits 8 (BitVec.ofNat 32 e1) = BitVec.ofNat 32 e2 := by
    have := congrArg (· ^^^ BitVec.ofNat 32 e2) h3
    simpa [BitVec.xor_assoc] using this
  have he1 : e1 = 0 := by
    apply Classical.byContradiction
    intro hne
    have := table_big ⟨e1, l1⟩ hne
    simp only [h4, BitVec.toNat_ofNat] at this
    omega
  subst he1
  have h5 : (0#32 : BitVec 32) = BitVec.ofNat 32 e2 := by
    rw [← h4]
    decide
  have he2 : e2 = 0 := by
    have := congrArg BitVec.toNat h5
    simp only [BitVec.toNat_ofNat] at this
    omega
  exact ⟨y1 rfl, y2 he2⟩

/-- The walk's numbers are these. -/
theorem ofInt_toNat32 {s : Int} (h : 0 ≤ s ∧ s ≤ 4294967295) : ((BitVec.ofInt 32 s).toNat : Int) = s := by
  rw [BitVec.toNat_ofInt]
  omega
theorem xor_is (a b : Int) : bits .xor .u32 a b = ((BitVec.ofInt 32 a ^^^ BitVec.ofInt 32 b).toNat : Int) := by
  have h : bits .xor .u32 a b = IntKind.u32.wrap ((BitVec.ofInt 32 a ^^^ BitVec.ofInt 32 b).toNat : Int) := rfl
  rw [h, IntKind.wrap_u32']
  have := (BitVec.ofInt 32 a ^^^ BitVec.ofInt 32 b).isLt
  omega
theorem ofInt_natCast_toNat (x : BitVec 32) : BitVec.ofInt 32 (x.toNat : Int) = x := by
  rw [BitVec.ofInt_natCast]
  apply BitVec.eq_of_toNat_eq
  rw [BitVec.toNat_ofNat]
  exact Nat.mod_eq_of_lt x.isLt
theorem cbit_is {s : Int} (h : 0 ≤ s ∧ s ≤ 4294967295) : cbit s = ((vbit (BitVec.ofInt 32 s)).toNat : Int) := by
  have hs := ofInt_toNat32 h
  have hl : (BitVec.ofInt 32 s).getLsbD 0 = decide (s % 2 = 1) := by
    rw [BitVec.getLsbD, Nat.testBit_zero, decide_eq_decide]
    omega
  have hh : BitVec.ofInt 32 (s / 2) = BitVec.ofInt 32 s >>> 1 := by
    apply BitVec.eq_of_toNat_eq
    have h2 := ofInt_toNat32 (s := s / 2) (by omega)
    rw [BitVec.toNat_ushiftRight, Nat.shiftRight_eq_div_pow]
    omega
  unfold vbit
  rw [hl]
  by_cases ho : s % 2 = 1
  · rw [cbit_odd ho, xor_is, hh]
    simp only [ho, decide_true, if_true]
    rfl
  · rw [cbit_even ho]
    simp only [ho, decide_false, Bool.false_eq_true, if_false, BitVec.xor_zero]
    rw [← hh]
    exact (ofInt_toNat32 (by omega)).symm
theorem cbits_is {s : Int} (h : 0 ≤ s ∧ s ≤ 4294967295) : ∀ n, cbits n s = ((vbits n (BitVec.ofInt 32 s)).toNat : Int)
  | 0 => (ofInt_toNat32 h).symm
  | n + 1 => by
    rw [cbits, cbit_is (cbits_bd h n), cbits_is h n, ofInt_natCast_toNat]
    rfl
theorem cbyte_is (s c : Int) : cbyte s c = ((vbyte (BitVec.ofInt 32 s) (BitVec.ofInt 32 c)).toNat : Int) := by
  rw [cbyte, cbits_is (xor32 s c), xor_is, ofInt_natCast_toNat]
  rfl
theorem crun_is (l : List Int) : ∀ {s : Int}, (0 ≤ s ∧ s ≤ 4294967295) → crun l s = ((vrun l (BitVec.ofInt 32 s)).toNat : Int) := by
  induction l with
  | nil => intro s h; exact (ofInt_toNat32 h).symm
  | cons c l ih =>
    intro s h
    have h1 : crun (c :: l) s = crun l (cbyte s c) := rfl
    rw [h1, ih (cbyte_bd s c), cbyte_is, ofInt_natCast_toNat]
    rfl
theorem crc_two {pre post : List Int} {a1 a2 b1 b2 : Int} (ha1 : 0 ≤ a1 ∧ a1 ≤ 255) (ha2 : 0 ≤ a2 ∧ a2 ≤ 255) (hb1 : 0 ≤ b1 ∧ b1 ≤ 255) (hb2 : 0 ≤ b2 ∧ b2 ≤ 255) :
    crc (pre ++ ([a1, a2] ++ post)) = crc (pre ++ ([b1, b2] ++ post)) ↔ a1 = b1 ∧ a2 = b2 := by
  refine ⟨fun h => ?_, fun ⟨h1, h2⟩ => by rw [h1, h2]⟩
  have hm : (0 : Int) ≤ 4294967295 ∧ (4294967295 : Int) ≤ 4294967295 := by omega
  have h1 : crun (pre ++ ([a1, a2] ++ post)) 4294967295 = crun (pre ++ ([b1, b2] ++ post)) 4294967295 := by
    unfold crc at h
    omega
  rw [crun_is _ hm, crun_is _ hm] at h1
  have h2 : vrun (pre ++ ([a1, a2] ++ post)) (BitVec.ofInt 32 4294967295) = vrun (pre ++ ([b1, b2] ++ post)) (BitVec.ofInt 32 4294967295) := BitVec.eq_of_toNat_eq (by omega)
  rw [vrun_append, vrun_append, vrun_append, vrun_append] at h2
  exact vrun_two ha1 ha2 hb1 hb2 (vrun_inj post _ _ h2)
end Go.Proofs.Ytaimjlnhdobgeaa
