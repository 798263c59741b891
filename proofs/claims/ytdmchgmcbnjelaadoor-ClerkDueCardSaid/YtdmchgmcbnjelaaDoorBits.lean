/- Plain facts on bits: fields of an expression as numbers whose bits say what is allowed. -/
import Derived.WalkKit
import Derived.Laws.Bits64b
import Derived.Laws.Entries
import Derived.Lib.TrailingZeros
namespace Go.Proofs.YtdmchgmcbnjelaaDoor
open Go.RowKit

/-- is n allowed? -/
def tb (X : Nat) (n : Int) : Bool := X.testBit n.toNat

theorem shr_and_one (X : Nat) (n : Int) (hX : X < 1152921504606846976) :
    Go.bits .and .u64 ((X : Int) / 2 ^ n.toNat) 1 = if tb X n then 1 else 0 := by
  have e : (X : Int) / 2 ^ n.toNat = ((X / 2 ^ n.toNat : Nat) : Int) := by simp
  have hle : X / 2 ^ n.toNat ≤ X := Nat.div_le_self _ _
  rw [e, show (1 : Int) = ((1 : Nat) : Int) from rfl, bits_and_u64_nat _ _ (by omega) (by omega)]
  unfold tb
  rw [Nat.testBit_eq_decide_div_mod_eq, Nat.and_one_is_mod]
  have := Nat.mod_two_eq_zero_or_one (X / 2 ^ n.toNat)
  rcases this with h | h <;> simp [h]

theorem shr_bit (X : Nat) (n : Int) (hX : X < 1152921504606846976) :
    (Go.bits .and .u64 ((X : Int) / 2 ^ n.toNat) 1 == 1) = tb X n := by
  rw [shr_and_one X n hX]; cases tb X n <;> rfl
theorem shr_bit0 (X : Nat) (n : Int) (hX : X < 1152921504606846976) :
    (Go.bits .and .u64 ((X : Int) / 2 ^ n.toNat) 1 == 0) = !tb X n := by
  rw [shr_and_one X n hX]; cases tb X n <;> rfl

theorem bits_andNot_u64_nat (a b : Nat) (ha : a < 18446744073709551616) (hb : b < 18446744073709551616) :
    Go.bits .andNot .u64 (a : Int) (b : Int) = ((a &&& (18446744073709551615 - b) : Nat) : Int) := by
  have h1 : (BitVec.ofInt 64 (a : Int)).toNat = a := by
    rw [BitVec.ofInt_natCast, BitVec.toNat_ofNat]; exact Nat.mod_eq_of_lt (by omega)
  have h2 : (BitVec.ofInt 64 (b : Int)).toNat = b := by
    rw [BitVec.ofInt_natCast, BitVec.toNat_ofNat]; exact Nat.mod_eq_of_lt (by omega)
  have hx : a &&& (18446744073709551615 - b) ≤ a := Nat.and_le_left
  show IntKind.u64.wrap ((BitVec.ofInt 64 (a : Int) &&& ~~~ BitVec.ofInt 64 (b : Int)).toNat : Int) = _
  rw [BitVec.toNat_and, BitVec.toNat_not, h1, h2, IntKind.wrap_u64]
  have e : (2 : Nat) ^ 64 - 1 - b = 18446744073709551615 - b := by simp only [Nat.reducePow]
  rw [e]
  omega

/-- the bits from a to b -/
def spanN (a b : Nat) : Nat := 2 ^ (b + 1) - 2 ^ a

theorem spanN_bit (a b k : Nat) (h : a ≤ b + 1) : (spanN a b).testBit k = (decide (a ≤ k) && decide (k ≤ b)) := by
  unfold spanN
  have e : 2 ^ (b + 1) - 2 ^ a = 2 ^ a * (2 ^ (b + 1 - a) - 1) := by
    rw [Nat.mul_sub, ← Nat.pow_add, Nat.mul_one]; congr 2; omega
  rw [e, Nat.mul_comm, Nat.testBit_mul_two_pow]
  simp only [Nat.testBit_two_pow_sub_one]
  by_cases h1 : a ≤ k
  · simp [h1]; omega
  · simp [h1]

theorem spanN_lt (a b : Nat) (h : b < 60) : spanN a b < 1152921504606846976 := by
  unfold spanN
  have h1 : 2 ^ (b + 1) ≤ 2 ^ 60 := Nat.pow_le_pow_right (by decide) (by omega)
  have h2 : 0 < 2 ^ a := Nat.two_pow_pos a
  omega


theorem tb_of_lt (X : Nat) (n : Int) (k : Nat) (h : X < 2 ^ k) (hn : (k : Int) ≤ n) : tb X n = false := by
  unfold tb
  exact Nat.testBit_lt_two_pow (Nat.lt_of_lt_of_le h (Nat.pow_le_pow_right (by decide) (by omega)))

/-- the bits from a number on -/
def fromN (X n : Nat) : Nat := X &&& (18446744073709551615 - (2 ^ n - 1))

theorem fromN_bit (X n k : Nat) (hX : X < 1152921504606846976) (hn : n ≤ 60) : (fromN X n).testBit k = (X.testBit k && decide (n ≤ k)) := by
  unfold fromN
  rw [Nat.testBit_and]
  by_cases hk : k < 60
  · have e : 18446744073709551615 - (2 ^ n - 1) = 2 ^ 64 - 1 - (2 ^ n - 1) := by simp only [Nat.reducePow]
    have hlt : 2 ^ n - 1 < 2 ^ 64 := Nat.lt_of_lt_of_le (Nat.sub_lt (Nat.two_pow_pos n) (by decide)) (Nat.pow_le_pow_right (by decide) (by omega))
    have := Nat.testBit_two_pow_sub_succ hlt k
    rw [e, show 2 ^ 64 - 1 - (2 ^ n - 1) = 2 ^ 64 - (2 ^ n - 1 + 1) from by omega, this, Nat.testBit_two_pow_sub_one]
    simp only [show k < 64 from by omega, decide_true, Bool.true_and]
    congr 1
    rw [Bool.eq_iff_iff]; simp
  · have : X.testBit k = false := Nat.testBit_lt_two_pow (Nat.lt_of_lt_of_le hX (show (2 : Nat) ^ 60 ≤ 2 ^ k from Nat.pow_le_pow_right (by decide) (by omega)))
    rw [this]; rfl

theorem fromN_lt (X n : Nat) (hX : X < 1152921504606846976) : fromN X n < 1152921504606846976 := Nat.lt_of_le_of_lt Nat.and_le_left hX

theorem two_pow_int (n : Int) (h0 : 0 ≤ n) (h1 : n ≤ 60) : IntKind.u64.wrap (IntKind.u64.wrap (2 ^ n.toNat) - 1) = ((2 ^ n.toNat - 1 : Nat) : Int) := by
  have hp : 2 ^ n.toNat ≤ 2 ^ 60 := Nat.pow_le_pow_right (by decide) (by omega)
  have h0 := Nat.two_pow_pos n.toNat
  have e : (2 : Int) ^ n.toNat = ((2 ^ n.toNat : Nat) : Int) := by simp
  rw [e]
  generalize 2 ^ n.toNat = p at *
  rw [IntKind.wrap_u64, IntKind.wrap_u64]
  simp only [Nat.reducePow] at hp
  omega

theorem first_bits (X : Nat) (n : Int) (hX : X < 1152921504606846976) (h0 : 0 ≤ n) (h1 : n ≤ 60) :
    Go.bits .andNot .u64 (X : Int) (IntKind.u64.wrap (IntKind.u64.wrap (2 ^ n.toNat) - 1)) = (fromN X n.toNat : Int) := by
  have hp : 2 ^ n.toNat ≤ 2 ^ 60 := Nat.pow_le_pow_right (by decide) (by omega)
  simp only [Nat.reducePow] at hp
  rw [two_pow_int n h0 h1, bits_andNot_u64_nat _ _ (by omega) (by omega)]
  rfl

theorem span_bits (a b : Int) (h0 : 0 ≤ a) (h1 : a ≤ b) (h2 : b < 60) :
    Go.bits .andNot .u64 (IntKind.u64.wrap (IntKind.u64.wrap (2 ^ (b + 1).toNat) - 1)) (IntKind.u64.wrap (IntKind.u64.wrap (2 ^ a.toNat) - 1)) = (spanN a.toNat b.toNat : Int) := by
  have hp : 2 ^ a.toNat ≤ 2 ^ 60 := Nat.pow_le_pow_right (by decide) (by omega)
  have hq : 2 ^ (b + 1).toNat ≤ 2 ^ 60 := Nat.pow_le_pow_right (by decide) (by omega)
  simp only [Nat.reducePow] at hp hq
  rw [two_pow_int a h0 (by omega), two_pow_int (b + 1) (by omega) (by omega), bits_andNot_u64_nat _ _ (by omega) (by omega)]
  congr 1
  have he : (b + 1).toNat = b.toNat + 1 := by omega
  rw [he] at hq ⊢
  have hpos := Nat.two_pow_pos a.toNat
  apply Nat.eq_of_testBit_eq
  intro k
  have := fromN_bit (2 ^ (b.toNat + 1) - 1) a.toNat k (by have := Nat.two_pow_pos (b.toNat + 1); omega) (by omega)
  unfold fromN at this
  rw [this, spanN_bit _ _ _ (by omega), Nat.testBit_two_pow_sub_one]
  clear this hp hq hpos
  by_cases c1 : k < b.toNat + 1 <;> by_cases c2 : a.toNat ≤ k <;> simp [c1, c2] <;> omega

theorem ctz_spec (X : Nat) (h : X ≠ 0) (hX : X < 1152921504606846976) : X.testBit (Lib.ctz 64 X) = true ∧ ∀ k, k < Lib.ctz 64 X → X.testBit k = false := by
  obtain ⟨m, hm, hk⟩ := Lib.ctzFrom_spec 64 X (by omega) (by simp only [Nat.reducePow]; omega)
  have e : Lib.ctz 64 X = Lib.ctzFrom 64 X := by simp [Lib.ctz, h]
  rw [e]
  generalize Lib.ctzFrom 64 X = c at *
  subst hm
  refine ⟨?_, fun k hk => ?_⟩
  · rw [Nat.mul_comm, Nat.testBit_mul_two_pow]
    simp
  · rw [Nat.mul_comm, Nat.testBit_mul_two_pow]
    simp; omega

end Go.Proofs.YtdmchgmcbnjelaaDoor
