/- '^' and '&^' on small whole numbers. -/
import Derived.WalkKit
namespace Go.Proofs.Ythmgnfkjkdmdoaa
open Go

theorem ofInt_toNat (a : Nat) (ha : a < 4611686018427387904) : (BitVec.ofInt 64 (a : Int)).toNat = a := by
  rw [BitVec.ofInt_natCast, BitVec.toNat_ofNat]; exact Nat.mod_eq_of_lt (by omega)

theorem xor_i64 (a b : Nat) (ha : a < 4611686018427387904) (hb : b < 4611686018427387904) : bits .xor .i64 (a : Int) (b : Int) = ((a ^^^ b : Nat) : Int) := by
  have hx : a ^^^ b < 2 ^ 62 := Nat.xor_lt_two_pow (by omega) (by omega)
  show IntKind.i64.wrap ((BitVec.ofInt 64 (a : Int) ^^^ BitVec.ofInt 64 (b : Int)).toNat : Int) = _
  rw [BitVec.toNat_xor, ofInt_toNat a ha, ofInt_toNat b hb, IntKind.wrap_i64]
  omega

theorem andNot_i64 (a o : Nat) (ha : a < 4611686018427387904) (ho : o ≤ 10) : bits .andNot .i64 (a : Int) (((2 ^ o - 1 : Nat)) : Int) = ((a / 2 ^ o * 2 ^ o : Nat) : Int) := by
  have hp : 2 ^ o ≤ 2 ^ 10 := Nat.pow_le_pow_right (by omega) ho
  have hb : 2 ^ o - 1 < 4611686018427387904 := by omega
  have hle : a / 2 ^ o * 2 ^ o ≤ a := Nat.div_mul_le_self _ _
  have e : (BitVec.ofInt 64 (a : Int) &&& ~~~ BitVec.ofInt 64 ((2 ^ o - 1 : Nat) : Int)).toNat = a / 2 ^ o * 2 ^ o := by
    apply Nat.eq_of_testBit_eq
    intro i
    rw [BitVec.testBit_toNat, BitVec.getLsbD_and, BitVec.getLsbD_not, ← BitVec.testBit_toNat, ← BitVec.testBit_toNat, ofInt_toNat a ha, ofInt_toNat _ hb, Nat.testBit_two_pow_sub_one]
    rw [← Nat.shiftRight_eq_div_pow, ← Nat.shiftLeft_eq, Nat.testBit_shiftLeft, Nat.testBit_shiftRight]
    by_cases h1 : i < o
    · have h2 : ¬ o ≤ i := by omega
      simp [h1, h2]
    · have h2 : o ≤ i := by omega
      by_cases h3 : i < 64
      · simp [h1, h2, h3, Nat.add_sub_cancel' h2]
      · have hz : a.testBit i = false := Nat.testBit_lt_two_pow (Nat.lt_of_lt_of_le (show a < 2 ^ 64 by omega) (Nat.pow_le_pow_right (by omega) (by omega)))
        simp [h2, h3, Nat.add_sub_cancel' h2, hz]
  show IntKind.i64.wrap ((BitVec.ofInt 64 (a : Int) &&& ~~~ BitVec.ofInt 64 ((2 ^ o - 1 : Nat) : Int)).toNat : Int) = _
  rw [e, IntKind.wrap_i64]
  omega
end Go.Proofs.Ythmgnfkjkdmdoaa
