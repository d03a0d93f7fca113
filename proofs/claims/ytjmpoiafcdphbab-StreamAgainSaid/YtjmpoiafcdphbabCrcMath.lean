/- The sum of bytes (CRC) as bit vectors: linear, each round can be turned back, what bursts do to it. -/
import Derived.Laws.BitsLemmas
import Derived.RowKit
namespace Go.Proofs.Ytjmpoiafcdphbab.Crc
open Go Go.RowKit
/-- A round: one bit out. -/
def rB (s : BitVec 16) : BitVec 16 := (s <<< 1) ^^^ (if s.msb then 4129#16 else 0#16)
theorem rB_xor (s t : BitVec 16) : rB (s ^^^ t) = rB s ^^^ rB t := by
  unfold rB
  rw [BitVec.shiftLeft_xor_distrib, BitVec.msb_xor]
  have p : s <<< 1 ^^^ 4129#16 ^^^ (t <<< 1 ^^^ 4129#16) = s <<< 1 ^^^ t <<< 1 ^^^ (4129#16 ^^^ 4129#16) := by ac_rfl
  cases s.msb <;> cases t.msb
  · simp
  · simp [BitVec.xor_assoc]
  · simp
    ac_rfl
  · simp only [Bool.xor_self, if_true, p, BitVec.xor_self]
    rfl
theorem rB_zero : rB 0#16 = 0#16 := by decide
theorem rB_eq_zero {s : BitVec 16} (h : rB s = 0#16) : s = 0#16 := by
  unfold rB at h
  cases hm : s.msb with
  | true =>
    rw [hm] at h
    have := congrArg (fun x => x.getLsbD 0) h
    simp at this
  | false =>
    rw [hm] at h
    simp at h
    have h' := congrArg BitVec.toNat h
    rw [BitVec.toNat_shiftLeft, Nat.shiftLeft_eq] at h'
    have hl := s.isLt
    have hm' : s.toNat < 32768 := by
      have := BitVec.msb_eq_decide s
      rw [hm] at this
      have := of_decide_eq_false this.symm
      omega
    apply BitVec.eq_of_toNat_eq
    simp at h' ⊢
    omega
/-- Rounds. -/
def rN : Nat → BitVec 16 → BitVec 16
  | 0, s => s
  | n + 1, s => rN n (rB s)
theorem rN_xor : ∀ n s t, rN n (s ^^^ t) = rN n s ^^^ rN n t
  | 0, _, _ => rfl
  | n + 1, s, t => by rw [rN, rB_xor, rN_xor]; rfl
theorem rN_zero : ∀ n, rN n 0#16 = 0#16
  | 0 => rfl
  | n + 1 => by rw [rN, rB_zero, rN_zero]
theorem rN_eq_zero : ∀ {n s}, rN n s = 0#16 → s = 0#16
  | 0, _, h => h
  | _ + 1, _, h => rB_eq_zero (rN_eq_zero h)
theorem xor_eq_zero {s t : BitVec 16} (h : s ^^^ t = 0#16) : s = t := by
  have : s ^^^ t ^^^ t = 0#16 ^^^ t := by rw [h]
  simpa [BitVec.xor_assoc] using this
theorem rN_inj {n s t} (h : rN n s = rN n t) : s = t := by
  apply xor_eq_zero
  apply rN_eq_zero (n := n)
  rw [rN_xor, h, BitVec.xor_self]
theorem rN_add : ∀ m n s, rN (m + n) s = rN n (rN m s)
  | 0, n, s => by rw [Nat.zero_add]; rfl
  | m + 1, n, s => by rw [Nat.add_right_comm]; exact rN_add m n (rB s)
/-- A byte at the top. -/
def top (c : Int) : BitVec 16 := BitVec.ofInt 16 c <<< 8
/-- A byte more. -/
def stB (s : BitVec 16) (c : Int) : BitVec 16 := rN 8 (s ^^^ top c)
def sumFrom (s : BitVec 16) (l : List Int) : BitVec 16 := l.foldl stB s
def sumB (l : List Int) : BitVec 16 := sumFrom 65535#16 l
/-- As numbers. -/
def stepI (s c : Int) : Int := ((stB (BitVec.ofInt 16 s) c).toNat : Int)
def sumI (l : List Int) : Int := ((sumB l).toNat : Int)
theorem u16_nat (s : BitVec 16) : BitVec.ofInt 16 ((s.toNat : Nat) : Int) = s := by
  rw [BitVec.ofInt_natCast]; simp
theorem wrap_u16 (n : Int) : IntKind.u16.wrap n = n % 65536 := by simp [IntKind.wrap, IntKind.bits, IntKind.signed]
theorem lt16 (s : BitVec 16) : s.toNat < 65536 := s.isLt
theorem shl1 (s : BitVec 16) : (s <<< 1).toNat = s.toNat * 2 % 65536 := by
  rw [BitVec.toNat_shiftLeft, Nat.shiftLeft_eq]
theorem and_high (s : BitVec 16) : Go.bits .and .u16 ((s.toNat : Nat) : Int) 32768 = if s.msb then 32768 else 0 := by
  have h : s &&& 32768#16 = if s.msb then 32768#16 else 0#16 := by
    apply BitVec.eq_of_toNat_eq
    rw [BitVec.toNat_and, show (32768#16).toNat = 2 ^ 15 from rfl]
    have e : s.toNat.testBit 15 = s.msb := rfl
    apply Nat.eq_of_testBit_eq
    intro i
    rw [Nat.testBit_and, Nat.testBit_two_pow]
    by_cases hi : 15 = i
    · subst hi
      rw [e]
      cases s.msb <;> rfl
    · have h2 : (32768#16 : BitVec 16).toNat.testBit i = false := by
        show (2 ^ 15 : Nat).testBit i = false
        rw [Nat.testBit_two_pow]; exact decide_eq_false hi
      rw [decide_eq_false hi]
      cases s.msb with
      | true => rw [if_pos rfl, h2, Bool.and_false]
      | false => simp
  simp only [Go.bits]
  show IntKind.u16.wrap (((BitVec.ofInt 16 _ &&& BitVec.ofInt 16 32768).toNat : Nat) : Int) = _
  rw [u16_nat, show BitVec.ofInt 16 32768 = 32768#16 from rfl, h, wrap_u16]
  cases s.msb <;> rfl
theorem xor_u16 (s t : BitVec 16) : Go.bits .xor .u16 ((s.toNat : Nat) : Int) ((t.toNat : Nat) : Int) = (((s ^^^ t).toNat : Nat) : Int) := by
  simp only [Go.bits]
  show IntKind.u16.wrap (((BitVec.ofInt 16 _ ^^^ BitVec.ofInt 16 _).toNat : Nat) : Int) = _
  rw [u16_nat, u16_nat, wrap_u16]
  have := lt16 (s ^^^ t)
  omega
theorem xor_i64 (s t : BitVec 16) : Go.bits .xor .i64 ((s.toNat : Nat) : Int) ((t.toNat : Nat) : Int) = (((s ^^^ t).toNat : Nat) : Int) := by
  simp only [Go.bits]
  show IntKind.i64.wrap (((BitVec.ofInt 64 _ ^^^ BitVec.ofInt 64 _).toNat : Nat) : Int) = _
  have hs := lt16 s
  have ht := lt16 t
  have hx : s.toNat ^^^ t.toNat < 65536 := lt16 (s ^^^ t)
  rw [BitVec.ofInt_natCast, BitVec.ofInt_natCast, BitVec.toNat_xor, BitVec.toNat_ofNat, BitVec.toNat_ofNat, Nat.mod_eq_of_lt (by omega), Nat.mod_eq_of_lt (by omega), IntKind.wrap_i64, BitVec.toNat_xor]
  omega
theorem round_crc (s : BitVec 16) : (if Go.bits .and .u16 ((s.toNat : Nat) : Int) 32768 = 0 then IntKind.u16.wrap (((s.toNat : Nat) : Int) * 2) else Go.bits .xor .u16 (IntKind.u16.wrap (((s.toNat : Nat) : Int) * 2)) 4129) = (((rB s).toNat : Nat) : Int) := by
  have e : IntKind.u16.wrap (((s.toNat : Nat) : Int) * 2) = (((s <<< 1).toNat : Nat) : Int) := by rw [wrap_u16, shl1]; omega
  rw [and_high, e]
  unfold rB
  cases s.msb with
  | true =>
    rw [if_pos rfl, if_neg (by decide), if_pos rfl]
    exact xor_u16 _ 4129#16
  | false =>
    simp
theorem msb_le (s : BitVec 16) : s.msb = decide (32768 ≤ s.toNat) := BitVec.msb_eq_decide s
theorem round_ref (s : BitVec 16) : (if wrap64 (((s.toNat : Nat) : Int) * 2) ≥ 65536 then Go.bits .xor .i64 (wrap64 ((wrap64 (((s.toNat : Nat) : Int) * 2)) - 65536)) 4129 else wrap64 (((s.toNat : Nat) : Int) * 2)) = (((rB s).toNat : Nat) : Int) := by
  have hl := lt16 s
  have e : wrap64 (((s.toNat : Nat) : Int) * 2) = ((s.toNat : Nat) : Int) * 2 := by unfold wrap64; omega
  rw [e]
  unfold rB
  by_cases h : 32768 ≤ s.toNat
  · rw [if_pos (by omega), msb_le, decide_eq_true h, if_pos rfl]
    have e2 : wrap64 (((s.toNat : Nat) : Int) * 2 - 65536) = (((s <<< 1).toNat : Nat) : Int) := by rw [shl1]; unfold wrap64; omega
    rw [e2]
    exact xor_i64 _ 4129#16
  · rw [if_neg (by omega), msb_le, decide_eq_false h]
    have h2 := shl1 s
    rw [if_neg (by decide), show s <<< 1 ^^^ 0#16 = s <<< 1 from by simp, h2]
    omega
theorem top_nat {c : Int} (h0 : 0 ≤ c) (h1 : c ≤ 255) : (((top c).toNat : Nat) : Int) = c * 256 := by
  obtain ⟨n, rfl⟩ := Int.eq_ofNat_of_zero_le h0
  unfold top
  rw [BitVec.toNat_shiftLeft, Nat.shiftLeft_eq]
  show (((BitVec.ofInt 16 ((n : Nat) : Int)).toNat * 2 ^ 8 % 2 ^ 16 : Nat) : Int) = _
  rw [BitVec.ofInt_natCast, BitVec.toNat_ofNat]
  omega
theorem nat_u16 {s : Int} (h0 : 0 ≤ s) (h1 : s ≤ 65535) : (((BitVec.ofInt 16 s).toNat : Nat) : Int) = s := by
  obtain ⟨n, rfl⟩ := Int.eq_ofNat_of_zero_le h0
  rw [BitVec.ofInt_natCast, BitVec.toNat_ofNat]
  omega
theorem stB_xor (s t : BitVec 16) (c : Int) : stB (s ^^^ t) c = stB s c ^^^ rN 8 t := by
  unfold stB
  rw [← rN_xor]
  congr 1
  rw [BitVec.xor_assoc, BitVec.xor_assoc, BitVec.xor_comm t]
theorem stB_inj {s t : BitVec 16} {c : Int} (h : stB s c = stB t c) : s = t := by
  have := rN_inj h
  have h2 : s ^^^ top c ^^^ top c = t ^^^ top c ^^^ top c := by rw [this]
  simpa [BitVec.xor_assoc] using h2
theorem stB_byte {s : BitVec 16} {c d : Int} (hc : 0 ≤ c ∧ c ≤ 255) (hd : 0 ≤ d ∧ d ≤ 255) (h : stB s c = stB s d) : c = d := by
  have h1 : s ^^^ top c = s ^^^ top d := rN_inj h
  have h2 : s ^^^ (s ^^^ top c) = s ^^^ (s ^^^ top d) := by rw [h1]
  have h3 : top c = top d := by simpa [← BitVec.xor_assoc] using h2
  have := top_nat hc.1 hc.2
  have := top_nat hd.1 hd.2
  rw [h3] at *
  omega
theorem sumFrom_append (s : BitVec 16) (a b : List Int) : sumFrom s (a ++ b) = sumFrom (sumFrom s a) b := List.foldl_append
theorem sumFrom_inj {s t : BitVec 16} : ∀ {l : List Int}, sumFrom s l = sumFrom t l → s = t
  | [], h => h
  | _ :: _, h => stB_inj (sumFrom_inj h)
end Go.Proofs.Ytjmpoiafcdphbab.Crc
