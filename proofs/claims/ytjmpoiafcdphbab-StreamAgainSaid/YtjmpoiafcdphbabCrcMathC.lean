/- Bursts: what turned bits do to the sum; bytes with their sum behind them have the sum 0. -/
import Derived.Test.YtjmpoiafcdphbabCrcMathB
namespace Go.Proofs.Ytjmpoiafcdphbab.Crc
open Go Go.RowKit
theorem sumFrom_xor : ∀ (l : List Int) (s t : BitVec 16), sumFrom (s ^^^ t) l = sumFrom s l ^^^ rN (8 * l.length) t
  | [], _, _ => rfl
  | c :: l, s, t => by
    rw [sumFrom_cons, sumFrom_cons, stB_xor, sumFrom_xor l, ← rN_add]
    congr 2
    simp
    omega
theorem top_bits {a b : Int} (ha : 0 ≤ a ∧ a ≤ 255) (hb : 0 ≤ b ∧ b ≤ 255) : top (Go.bits .xor .u8 a b) = top a ^^^ top b ∧ 0 ≤ Go.bits .xor .u8 a b ∧ Go.bits .xor .u8 a b ≤ 255 := by
  obtain ⟨x, rfl⟩ := Int.eq_ofNat_of_zero_le ha.1
  obtain ⟨y, rfl⟩ := Int.eq_ofNat_of_zero_le hb.1
  have hlt : x ^^^ y < 256 := Nat.xor_lt_two_pow (n := 8) (by omega) (by omega)
  have e : Go.bits .xor .u8 ((x : Nat) : Int) ((y : Nat) : Int) = ((x ^^^ y : Nat) : Int) := by
    simp only [Go.bits]
    show IntKind.u8.wrap (((BitVec.ofInt 8 _ ^^^ BitVec.ofInt 8 _).toNat : Nat) : Int) = _
    rw [BitVec.ofInt_natCast, BitVec.ofInt_natCast, BitVec.toNat_xor, BitVec.toNat_ofNat, BitVec.toNat_ofNat, Nat.mod_eq_of_lt (by omega), Nat.mod_eq_of_lt (by omega), IntKind.wrap_u8]
    omega
  rw [e]
  refine ⟨?_, by omega, by omega⟩
  unfold top
  rw [← BitVec.shiftLeft_xor_distrib]
  congr 1
  apply BitVec.eq_of_toNat_eq
  rw [BitVec.toNat_xor, BitVec.ofInt_natCast, BitVec.ofInt_natCast, BitVec.ofInt_natCast, BitVec.toNat_ofNat, BitVec.toNat_ofNat, BitVec.toNat_ofNat, Nat.mod_eq_of_lt (by omega), Nat.mod_eq_of_lt (by omega), Nat.mod_eq_of_lt (by omega)]
/-- A byte turned. -/
theorem sum_turn (p q : List Int) (c v : Int) (hc : 0 ≤ c ∧ c ≤ 255) (hv : 0 ≤ v ∧ v ≤ 255) :
    sumB (p ++ Go.bits .xor .u8 c v :: q) = sumB (p ++ c :: q) ^^^ rN (8 * (q.length + 1)) (top v) := by
  unfold sumB
  rw [sumFrom_append, sumFrom_append, sumFrom_cons, sumFrom_cons]
  generalize sumFrom 65535#16 p = s
  have e : stB s (Go.bits .xor .u8 c v) = stB s c ^^^ rN 8 (top v) := by
    unfold stB
    rw [(top_bits hc hv).1, ← rN_xor, BitVec.xor_assoc]
  rw [e, sumFrom_xor, ← rN_add]
  congr 2
  omega
/-- The bit i of 16, from the top. -/
def bitAt (i : Nat) : BitVec 16 := 32768#16 >>> i
theorem r_bit : ∀ i : Fin 16, rN i.val (bitAt i.val) = 32768#16 := by decide +kernel
theorem top_bit : ∀ m : Fin 8, top (128 / 2 ^ m.val : Int) = bitAt m.val := by decide +kernel
theorem bit_msb : ∀ i : Fin 16, (bitAt i.val).msb = decide (i.val = 0) := by decide +kernel
/-- A bit turned, of n, where m < 8 bits of its byte stand before it: as many rounds as bits are left, from it on. -/
theorem turn_is {m r : Nat} (hm : m < 8) : rN (m + r) (top (128 / 2 ^ m : Int)) = rN r 32768#16 := by
  have h1 := top_bit ⟨m, hm⟩
  have h2 := r_bit ⟨m, by omega⟩
  simp only at h1 h2
  rw [h1, rN_add, h2]
theorem turn_at {i r : Nat} (hi : i < 16) : rN (i + r) (bitAt i) = rN r 32768#16 := by
  have h2 := r_bit ⟨i, hi⟩
  simp only at h2
  rw [rN_add, h2]
theorem r8_low : ∀ e : Fin 256, rN 8 (BitVec.ofNat 16 e.val) = BitVec.ofNat 16 e.val <<< 8 := by decide +kernel
theorem xor_low (h l : Nat) (hl : l < 256) : (h * 256 + l) ^^^ (h * 256) = l := by
  apply Nat.eq_of_testBit_eq
  intro j
  have e0 : h * 256 = 2 ^ 8 * h := Nat.mul_comm h 256
  have e1 : h * 256 + l = 2 ^ 8 * h + l := by rw [e0]
  have e2 : h * 256 = 2 ^ 8 * h + 0 := by rw [e0, Nat.add_zero]
  rw [Nat.testBit_xor, e1, e2, Nat.testBit_two_pow_mul_add h (show l < 2 ^ 8 from hl) j, Nat.testBit_two_pow_mul_add h (show 0 < 2 ^ 8 by decide) j]
  by_cases hj : j < 8
  · rw [if_pos hj, if_pos hj]; simp
  · rw [if_neg hj, if_neg hj, Nat.testBit_lt_two_pow (show l < 2 ^ j from Nat.lt_of_lt_of_le hl (Nat.pow_le_pow_right (n := 2) (by omega) (show 8 ≤ j by omega)))]
    simp
/-- Bytes with their sum behind them. -/
theorem whole_zero (s : BitVec 16) {hi lo : Int} (h1 : hi = ((s.toNat : Nat) : Int) / 256) (h2 : lo = ((s.toNat : Nat) : Int) % 256) : stB (stB s hi) lo = 0#16 := by
  have hs := lt16 s
  have e0 : s ^^^ top hi = BitVec.ofNat 16 (s.toNat % 256) := by
    apply BitVec.eq_of_toNat_eq
    have ht := top_nat (c := hi) (by omega) (by omega)
    have ht' : (top hi).toNat = s.toNat / 256 * 256 := by omega
    rw [BitVec.toNat_xor, ht', BitVec.toNat_ofNat]
    have := xor_low (s.toNat / 256) (s.toNat % 256) (by omega)
    have e : s.toNat / 256 * 256 + s.toNat % 256 = s.toNat := by omega
    rw [e] at this
    rw [this]
    omega
  have e1 : stB s hi = BitVec.ofNat 16 (s.toNat % 256) <<< 8 := by
    unfold stB
    rw [e0]
    exact r8_low ⟨s.toNat % 256, by omega⟩
  have e2 : top lo = BitVec.ofNat 16 (s.toNat % 256) <<< 8 := by
    have : lo = ((s.toNat % 256 : Nat) : Int) := by omega
    rw [this]
    unfold top
    rw [BitVec.ofInt_natCast]
  rw [e1]
  unfold stB
  rw [e2, BitVec.xor_self, rN_zero]
end Go.Proofs.Ytjmpoiafcdphbab.Crc
