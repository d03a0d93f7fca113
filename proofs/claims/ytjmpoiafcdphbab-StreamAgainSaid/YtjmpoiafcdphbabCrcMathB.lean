/- Two bytes changed about have another sum. -/
import Derived.Test.YtjmpoiafcdphbabCrcMath
namespace Go.Proofs.Ytjmpoiafcdphbab.Crc
open Go Go.RowKit
/-- No byte in the upper half is as it was, 8 rounds on. -/
theorem r8_top : ∀ e : Fin 256, rN 8 (BitVec.ofNat 16 e.val <<< 8) = BitVec.ofNat 16 e.val <<< 8 → e.val = 0 := by decide +kernel
theorem top_xor {x y : Int} (hx : 0 ≤ x ∧ x ≤ 255) (hy : 0 ≤ y ∧ y ≤ 255) : ∃ e : Fin 256, top x ^^^ top y = BitVec.ofNat 16 e.val <<< 8 := by
  obtain ⟨a, rfl⟩ := Int.eq_ofNat_of_zero_le hx.1
  obtain ⟨b, rfl⟩ := Int.eq_ofNat_of_zero_le hy.1
  have hlt : a ^^^ b < 256 := Nat.xor_lt_two_pow (n := 8) (by omega) (by omega)
  refine ⟨⟨a ^^^ b, hlt⟩, ?_⟩
  unfold top
  rw [← BitVec.shiftLeft_xor_distrib]
  congr 1
  apply BitVec.eq_of_toNat_eq
  have e1 : (BitVec.ofInt 16 ((a : Nat) : Int)).toNat = a := by rw [BitVec.ofInt_natCast, BitVec.toNat_ofNat]; omega
  have e2 : (BitVec.ofInt 16 ((b : Nat) : Int)).toNat = b := by rw [BitVec.ofInt_natCast, BitVec.toNat_ofNat]; omega
  rw [BitVec.toNat_xor, e1, e2, BitVec.toNat_ofNat]
  show a ^^^ b = (a ^^^ b) % 2 ^ 16
  omega
theorem top_inj {x y : Int} (hx : 0 ≤ x ∧ x ≤ 255) (hy : 0 ≤ y ∧ y ≤ 255) (h : top x = top y) : x = y := by
  have h1 := top_nat hx.1 hx.2
  have h2 := top_nat hy.1 hy.2
  rw [h] at h1
  omega
theorem swap_ne {s : BitVec 16} {x y : Int} (hx : 0 ≤ x ∧ x ≤ 255) (hy : 0 ≤ y ∧ y ≤ 255) (h : stB (stB s x) y = stB (stB s y) x) : x = y := by
  have h1 : rN 8 (s ^^^ top x) ^^^ top y = rN 8 (s ^^^ top y) ^^^ top x := rN_inj h
  rw [rN_xor, rN_xor] at h1
  have h2 : rN 8 (top x ^^^ top y) = top x ^^^ top y := by
    rw [rN_xor]
    have e1 : rN 8 s ^^^ (rN 8 s ^^^ rN 8 (top x) ^^^ top y) ^^^ (rN 8 (top y) ^^^ top y) = rN 8 s ^^^ (rN 8 s ^^^ rN 8 (top y) ^^^ top x) ^^^ (rN 8 (top y) ^^^ top y) := by rw [h1]
    have e2 : rN 8 s ^^^ (rN 8 s ^^^ rN 8 (top x) ^^^ top y) ^^^ (rN 8 (top y) ^^^ top y) = (rN 8 s ^^^ rN 8 s) ^^^ (rN 8 (top x) ^^^ rN 8 (top y)) ^^^ (top y ^^^ top y) := by ac_rfl
    have e3 : rN 8 s ^^^ (rN 8 s ^^^ rN 8 (top y) ^^^ top x) ^^^ (rN 8 (top y) ^^^ top y) = (rN 8 s ^^^ rN 8 s) ^^^ (top x ^^^ top y) ^^^ (rN 8 (top y) ^^^ rN 8 (top y)) := by ac_rfl
    rw [e2, e3] at e1
    simpa using e1
  obtain ⟨e, he⟩ := top_xor hx hy
  rw [he] at h2
  have h3 := r8_top e h2
  rw [h3] at he
  exact top_inj hx hy (xor_eq_zero (by rw [he]; decide))
theorem sumFrom_cons (s : BitVec 16) (a : Int) (l : List Int) : sumFrom s (a :: l) = sumFrom (stB s a) l := rfl
theorem swap_sum {p q : List Int} {x y : Int} (hx : 0 ≤ x ∧ x ≤ 255) (hy : 0 ≤ y ∧ y ≤ 255) (h : sumB (p ++ y :: x :: q) = sumB (p ++ x :: y :: q)) : x = y := by
  unfold sumB at h
  rw [sumFrom_append, sumFrom_append] at h
  rw [sumFrom_cons, sumFrom_cons, sumFrom_cons, sumFrom_cons] at h
  generalize sumFrom 65535#16 p = s at h
  exact (swap_ne hy hx (sumFrom_inj h)).symm
theorem sumI_inj {a b : List Int} (h : sumI a = sumI b) : sumB a = sumB b := BitVec.eq_of_toNat_eq (by unfold sumI at h; omega)
end Go.Proofs.Ytjmpoiafcdphbab.Crc
