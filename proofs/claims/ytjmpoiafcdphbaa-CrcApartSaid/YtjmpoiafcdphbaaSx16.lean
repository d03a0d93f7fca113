/- Plain lemmas on whole numbers that trees ask for. -/
import Derived.Test.YtjmpoiafcdphbaaSx15
import Derived.Laws.BitsAllLaws
namespace Go.Proofs.YtjmpoiafcdphbaaSx
open Go.RowKit
set_option linter.unusedVariables false

theorem wrap_small (k : IntKind) (n : Int) (h0 : 0 ≤ n) (h1 : n < 2 ^ (k.bits - 1)) : k.wrap n = n := by
  have hb : (2 : Int) ^ (k.bits - 1) ≤ 2 ^ k.bits := by cases k <;> decide
  unfold IntKind.wrap
  have e : n % (2 ^ k.bits : Int) = n := Int.emod_eq_of_lt h0 (by omega)
  simp only [e]
  rw [if_neg]
  simp
  intro _; omega

/-- and with the lowest j bits. -/
theorem and_mask (k : IntKind) (x : Int) (j : Nat) (hj : j + 1 ≤ k.bits) : bits .and k x (2 ^ j - 1) = x % 2 ^ j := by
  unfold bits
  have hk : 1 ≤ k.bits := by cases k <;> decide
  have hp : (2 : Nat) ^ j ≤ 2 ^ (k.bits - 1) := Nat.pow_le_pow_right (by decide) (by omega)
  have hq : (2 : Nat) ^ j < 2 ^ k.bits := Nat.pow_lt_pow_right (by decide) (by omega)
  have hpos : 0 < (2 : Nat) ^ j := Nat.pow_pos (by decide)
  have e1 : ((2 : Int) ^ j) = ((2 ^ j : Nat) : Int) := by simp
  have e2 : ((2 : Int) ^ j - 1) = ((2 ^ j - 1 : Nat) : Int) := by rw [e1]; omega
  have eb : (BitVec.ofInt k.bits ((2 : Int) ^ j - 1)).toNat = 2 ^ j - 1 := by
    rw [e2, BitVec.toNat_ofInt]
    have : ((2 ^ j - 1 : Nat) : Int) % ((2 ^ k.bits : Nat) : Int) = ((2 ^ j - 1 : Nat) : Int) := Int.emod_eq_of_lt (by omega) (by omega)
    rw [this]; simp
  show k.wrap (((BitVec.ofInt k.bits x &&& BitVec.ofInt k.bits ((2 : Int) ^ j - 1)).toNat : Nat) : Int) = _
  rw [BitVec.toNat_and, eb, Nat.and_two_pow_sub_one_eq_mod, BitVec.toNat_ofInt]
  have hlt : (x % ((2 ^ k.bits : Nat) : Int)).toNat % 2 ^ j < 2 ^ j := Nat.mod_lt _ hpos
  have e3 : ((2 : Int) ^ (k.bits - 1)) = ((2 ^ (k.bits - 1) : Nat) : Int) := by simp
  rw [wrap_small k _ (by omega) (by rw [e3]; omega)]
  rw [e1]
  have hnn : 0 ≤ x % ((2 ^ k.bits : Nat) : Int) := Int.emod_nonneg _ (by have : (0 : Nat) < 2 ^ k.bits := Nat.pow_pos (by decide); omega)
  rw [Int.natCast_emod, Int.toNat_of_nonneg hnn]
  refine Int.emod_emod_of_dvd _ ?_
  refine Int.natCast_dvd_natCast.2 (Nat.pow_dvd_pow 2 (by omega))

section
variable (x : Int)
theorem and1_i64 : bits .and .i64 x 1 = x % 2 := by have := and_mask .i64 x 1 (by decide); simpa using this
theorem and3_i64 : bits .and .i64 x 3 = x % 4 := by have := and_mask .i64 x 2 (by decide); simpa using this
theorem and15_i64 : bits .and .i64 x 15 = x % 16 := by have := and_mask .i64 x 4 (by decide); simpa using this
theorem and31_i64 : bits .and .i64 x 31 = x % 32 := by have := and_mask .i64 x 5 (by decide); simpa using this
theorem and1023_i64 : bits .and .i64 x 1023 = x % 1024 := by have := and_mask .i64 x 10 (by decide); simpa using this
theorem and65535_i64 : bits .and .i64 x 65535 = x % 65536 := by have := and_mask .i64 x 16 (by decide); simpa using this
theorem and3_u16 : bits .and .u16 x 3 = x % 4 := by have := and_mask .u16 x 2 (by decide); simpa using this
theorem and1023_u16 : bits .and .u16 x 1023 = x % 1024 := by have := and_mask .u16 x 10 (by decide); simpa using this
theorem and1_u8 : bits .and .u8 x 1 = x % 2 := by have := and_mask .u8 x 1 (by decide); simpa using this
theorem and15_u8 : bits .and .u8 x 15 = x % 16 := by have := and_mask .u8 x 4 (by decide); simpa using this
theorem and31_u8 : bits .and .u8 x 31 = x % 32 := by have := and_mask .u8 x 5 (by decide); simpa using this
theorem and14_i64 : bits .and .i64 x 14 = x % 16 - x % 2 := by
  unfold bits
  show IntKind.i64.wrap (((BitVec.ofInt 64 x &&& BitVec.ofInt 64 14).toNat : Nat) : Int) = _
  have e14 : (BitVec.ofInt 64 14).toNat = 14 := by decide
  rw [BitVec.toNat_and, e14, BitVec.toNat_ofInt]
  generalize hn : (x % ((2 ^ 64 : Nat) : Int)).toNat = n
  have key : ∀ n : Nat, n &&& 14 = n % 16 - n % 2 := by
    intro n
    have h1 : n &&& 14 = (n % 16) &&& 14 := by
      have : n % 16 = n &&& 15 := (Nat.and_two_pow_sub_one_eq_mod n 4).symm
      rw [this, Nat.and_assoc]; rfl
    have h2 : n % 2 = (n % 16) % 2 := by omega
    rw [h1, h2]
    have all : ∀ m : Nat, m < 16 → m &&& 14 = m - m % 2 := by decide
    exact all _ (Nat.mod_lt _ (by decide))
  rw [key, wrap_small .i64 _ (by omega) (by show _ < (2 : Int) ^ 63; omega)]
  have h1 : (n : Int) = x % 18446744073709551616 := by rw [← hn]; omega
  omega
end
/-- What is left of a division lies below its divisor. -/
theorem tmod_bounds (x m : Int) (hm : 0 < m) : -m < x.tmod m ∧ x.tmod m < m := by
  constructor
  · have := Int.lt_tmod_of_pos x hm; omega
  · exact Int.tmod_lt_of_pos x hm
theorem tmod_nonneg (x m : Int) (hx : 0 ≤ x) : x.tmod m = x % m := Int.tmod_eq_emod_of_nonneg hx
end Go.Proofs.YtjmpoiafcdphbaaSx
