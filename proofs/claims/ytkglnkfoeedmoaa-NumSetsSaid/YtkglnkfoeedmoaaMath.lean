/- Plain lemmas on bits of whole numbers: masks, shifts, a set's members. -/
import Derived.Laws.BitsAllLaws
import Derived.Laws.Entries
import Derived.RowKit
import Derived.OpenShut
namespace Go.Proofs.Ytkglnkfoeedmoaa.Math
open Go.RowKit

theorem i64_small (n : Int) (h0 : 0 ≤ n) (h1 : n < 2 ^ 63) : IntKind.i64.wrap n = n := by
  rw [IntKind.wrap_i64]; omega

/-- and with a mask of the lowest j bits: what is left modulo 2^j, for whatever sign. -/
theorem and_mask_i64 (x : Int) (j : Nat) (hj : j ≤ 62) : bits .and .i64 x (2 ^ j - 1) = x % 2 ^ j := by
  unfold bits
  have hp : (2 : Nat) ^ j ≤ 2 ^ 62 := Nat.pow_le_pow_right (by decide) hj
  have hpos : 0 < (2 : Nat) ^ j := Nat.pow_pos (by decide)
  have e1 : ((2 : Int) ^ j) = ((2 ^ j : Nat) : Int) := by simp
  have e2 : ((2 : Int) ^ j - 1) = ((2 ^ j - 1 : Nat) : Int) := by rw [e1]; omega
  have eb : (BitVec.ofInt 64 ((2 : Int) ^ j - 1)).toNat = 2 ^ j - 1 := by
    rw [e2, BitVec.toNat_ofInt]
    have : (2 ^ j - 1 : Nat) < 2 ^ 64 := by omega
    omega
  show IntKind.i64.wrap (((BitVec.ofInt 64 x &&& BitVec.ofInt 64 ((2 : Int) ^ j - 1)).toNat : Nat) : Int) = _
  rw [BitVec.toNat_and, eb, Nat.and_two_pow_sub_one_eq_mod, BitVec.toNat_ofInt]
  have hlt : (x % ((2 ^ 64 : Nat) : Int)).toNat % 2 ^ j < 2 ^ j := Nat.mod_lt _ hpos
  rw [i64_small _ (by omega) (by
    have : (((x % ((2 ^ 64 : Nat) : Int)).toNat % 2 ^ j : Nat) : Int) < ((2 ^ 62 : Nat) : Int) := by omega
    omega)]
  rw [e1]
  have hnn : 0 ≤ x % ((2 ^ 64 : Nat) : Int) := Int.emod_nonneg _ (by decide)
  rw [Int.natCast_emod, Int.toNat_of_nonneg hnn]
  refine Int.emod_emod_of_dvd _ ?_
  refine Int.natCast_dvd_natCast.2 (Nat.pow_dvd_pow 2 (by omega))

theorem and_one_i64 (x : Int) : bits .and .i64 x 1 = x % 2 := by
  have := and_mask_i64 x 1 (by decide); simpa using this

theorem testBit_div (n i : Nat) : n.testBit i = decide (n / 2 ^ i % 2 = 1) := by
  rw [Nat.testBit_eq_decide_div_mod_eq]

theorem or_nat_i64 (a b : Nat) (ha : a < 2 ^ 62) (hb : b < 2 ^ 62) : bits .or .i64 (a : Int) (b : Int) = ((a ||| b : Nat) : Int) := by
  unfold bits
  have ea : (BitVec.ofInt 64 (a : Int)).toNat = a := by rw [BitVec.toNat_ofInt]; omega
  have eb : (BitVec.ofInt 64 (b : Int)).toNat = b := by rw [BitVec.toNat_ofInt]; omega
  show IntKind.i64.wrap (((BitVec.ofInt 64 (a : Int) ||| BitVec.ofInt 64 (b : Int)).toNat : Nat) : Int) = _
  rw [BitVec.toNat_or, ea, eb]
  have : a ||| b < 2 ^ 62 := Nat.or_lt_two_pow ha hb
  exact i64_small _ (by omega) (by omega)
end Go.Proofs.Ytkglnkfoeedmoaa.Math
