/- The sum as StreamFrames has it, told as bit vectors. -/
import Derived.Test.YtjmpoiafcdphbabQStreamFramesx3t
import Derived.Test.YtjmpoiafcdphbabCrcMath
namespace Go.Proofs.Ytjmpoiafcdphbab.TellStreamFrames
open Go Go.RowKit Go.Proofs.Ytjmpoiafcdphbab.PStreamFrames Go.Proofs.Ytjmpoiafcdphbab.Crc Go.Proofs.YtjmpoiafcdphbabW.PrintWords
/-- Bytes. -/
def isBytes (l : List Int) : Prop := ∀ x ∈ l, 0 ≤ x ∧ x ≤ 255
theorem bytes_of {l : List Int} (h : ∀ x ∈ l, (Lit.int .u8 x).wf = true) : isBytes l := fun x hx => by
  have := h x hx
  simp [Lit.wf, IntKind.signed, IntKind.min, IntKind.max, IntKind.bits] at this
  omega
theorem u16_of {x : Int} (h : (Lit.int .u16 x).wf = true) : 0 ≤ x ∧ x ≤ 65535 := by
  simp [Lit.wf, IntKind.signed, IntKind.min, IntKind.max, IntKind.bits] at h
  omega
theorem u8_of {x : Int} (h : (Lit.int .u8 x).wf = true) : 0 ≤ x ∧ x ≤ 255 := by
  simp [Lit.wf, IntKind.signed, IntKind.min, IntKind.max, IntKind.bits] at h
  omega
theorem i64_of {x : Int} (h : (Lit.int .i64 x).wf = true) : -9223372036854775808 ≤ x ∧ x ≤ 9223372036854775807 := by
  simp [Lit.wf, IntKind.signed, IntKind.min, IntKind.max, IntKind.bits] at h
  omega
theorem wrap64_small {x : Int} (h0 : -9223372036854775808 ≤ x) (h1 : x ≤ 9223372036854775807) : wrap64 x = x := by unfold wrap64; omega
theorem step_l0 : ∀ (d k : Nat) (i : Int) (s : BitVec 16), i + d = 8 → 0 ≤ i → d < k → crc_Step.l0 k ((s.toNat : Nat) : Int) i = some (((rN d s).toNat : Nat) : Int)
  | 0, k + 1, i, s, h, h0, _ => by
    rw [crc_Step.l0, if_neg (by omega)]
    rfl
  | d + 1, k + 1, i, s, h, h0, hk => by
    have e : wrap64 (i + 1) = i + 1 := wrap64_small (by omega) (by omega)
    have ih := step_l0 d k (i + 1) (rB s) (by omega) (by omega) (by omega)
    have r := round_crc s
    rw [crc_Step.l0, if_pos (by omega), e]
    split at r
    · rename_i hc
      rw [if_pos hc, r, ih]; rfl
    · rename_i hc
      rw [if_neg hc, r, ih]; rfl
theorem step_is {s c : Int} (hs : 0 ≤ s ∧ s ≤ 65535) (hc : 0 ≤ c ∧ c ≤ 255) {k : Nat} (hk : 9 ≤ k) : crc_Step.f k s c = some (stepI s c) := by
  have e1 : IntKind.u16.wrap (IntKind.u16.wrap c * 256) = (((top c).toNat : Nat) : Int) := by rw [wrap_u16, wrap_u16, top_nat hc.1 hc.2]; omega
  have e2 := nat_u16 hs.1 hs.2
  unfold crc_Step.f
  rw [e1]
  conv => lhs; rw [← e2]
  rw [xor_u16, step_l0 8 k 0 _ (by omega) (by omega) (by omega)]
  rfl
theorem stepB_is (s : BitVec 16) {c : Int} (hc : 0 ≤ c ∧ c ≤ 255) {k : Nat} (hk : 9 ≤ k) : crc_Step.f k ((s.toNat : Nat) : Int) c = some (((stB s c).toNat : Nat) : Int) := by
  have := lt16 s
  rw [step_is (by omega) hc hk, stepI, u16_nat]
theorem rd_drop {l : List Int} {i : Nat} (h : i < l.length) : l.drop i = rd l (i : Int) :: l.drop (i + 1) := by
  rw [List.drop_eq_getElem_cons h]
  congr 1
  unfold rd
  simp [List.getD_eq_getElem?_getD, List.getElem?_eq_getElem h]
theorem rd_mem {l : List Int} {i : Nat} (h : i < l.length) : rd l (i : Int) ∈ l := by
  unfold rd
  simp [List.getD_eq_getElem?_getD, List.getElem?_eq_getElem h]
theorem sum_l0 {l : List Int} (hb : isBytes l) (hn : l.length ≤ 140737488355328) : ∀ (d k i : Nat) (s : BitVec 16), i + d = l.length → d + 10 ≤ k → crc_Sum.l0 k ((s.toNat : Nat) : Int) l (l.length : Int) (i : Int) = some (((sumFrom s (l.drop i)).toNat : Nat) : Int)
  | 0, k + 1, i, s, h, _ => by
    rw [crc_Sum.l0, if_neg (by omega), List.drop_eq_nil_of_le (by omega)]
    rfl
  | d + 1, k + 1, i, s, h, hk => by
    have e : wrap64 ((i : Int) + 1) = ((i + 1 : Nat) : Int) := by rw [wrap64_small (by omega) (by omega)]; omega
    have hi : i < l.length := by omega
    rw [crc_Sum.l0, if_pos (by omega), if_pos (by omega), if_pos (by omega), stepB_is s (hb _ (rd_mem hi)) (by omega), Option.bind_some, e, sum_l0 hb hn d k (i + 1) _ (by omega) (by omega), rd_drop hi]
    rfl
theorem sum_is {l : List Int} (hb : isBytes l) (hn : l.length ≤ 140737488355328) {k : Nat} (hk : l.length + 10 ≤ k) : crc_Sum.f k l = some (sumI l) := by
  have := sum_l0 hb hn l.length k 0 65535#16 (by omega) hk
  exact this
theorem sumI_range (l : List Int) : 0 ≤ sumI l ∧ sumI l ≤ 65535 := by
  have := lt16 (sumB l)
  unfold sumI; omega
theorem stepI_range (s c : Int) : 0 ≤ stepI s c ∧ stepI s c ≤ 65535 := by
  have := lt16 (stB (BitVec.ofInt 16 s) c)
  unfold stepI; omega
theorem ref_l0 : ∀ (d k : Nat) (i : Int) (s : BitVec 16), i + d = 8 → 0 ≤ i → d < k → sidestickref03_Step.l0 k ((s.toNat : Nat) : Int) i = some (((rN d s).toNat : Nat) : Int)
  | 0, k + 1, i, s, h, h0, _ => by
    have := lt16 s
    rw [sidestickref03_Step.l0, if_neg (by omega), wrap_u16]
    show some ((((s.toNat : Nat) : Int)) % 65536) = some ((s.toNat : Nat) : Int)
    congr 1
    omega
  | d + 1, k + 1, i, s, h, h0, hk => by
    have e : wrap64 (i + 1) = i + 1 := wrap64_small (by omega) (by omega)
    have ih := ref_l0 d k (i + 1) (rB s) (by omega) (by omega) (by omega)
    have r := round_ref s
    rw [sidestickref03_Step.l0, if_pos (by omega), e]
    split at r
    · rename_i hc
      rw [if_pos hc, r, ih]; rfl
    · rename_i hc
      rw [if_neg hc, r, ih]; rfl
theorem refstep_is {s c : Int} (hs : 0 ≤ s ∧ s ≤ 65535) (hc : 0 ≤ c ∧ c ≤ 255) {k : Nat} (hk : 9 ≤ k) : sidestickref03_Step.f k s c = some (stepI s c) := by
  have e1 : wrap64 (wrap64 c * 256) = (((top c).toNat : Nat) : Int) := by
    rw [wrap64_small (x := c) (by omega) (by omega), wrap64_small (by omega) (by omega), top_nat hc.1 hc.2]
  have e2 := nat_u16 hs.1 hs.2
  unfold sidestickref03_Step.f
  rw [e1, wrap64_small (x := s) (by omega) (by omega)]
  conv => lhs; rw [← e2]
  rw [xor_i64, ref_l0 8 k 0 _ (by omega) (by omega) (by omega)]
  rfl
theorem refstepB_is (s : BitVec 16) {c : Int} (hc : 0 ≤ c ∧ c ≤ 255) {k : Nat} (hk : 9 ≤ k) : sidestickref03_Step.f k ((s.toNat : Nat) : Int) c = some (((stB s c).toNat : Nat) : Int) := by
  have := lt16 s
  rw [refstep_is (by omega) hc hk, stepI, u16_nat]
theorem refsum_l0 {l : List Int} (hb : isBytes l) (hn : l.length ≤ 140737488355328) : ∀ (d k i : Nat) (s : BitVec 16), i + d = l.length → d + 10 ≤ k → sidestickref03_Sum.l0 k l ((s.toNat : Nat) : Int) (i : Int) = some (((sumFrom s (l.drop i)).toNat : Nat) : Int)
  | 0, k + 1, i, s, h, _ => by
    rw [sidestickref03_Sum.l0, if_neg (by omega), List.drop_eq_nil_of_le (by omega)]
    rfl
  | d + 1, k + 1, i, s, h, hk => by
    have e : wrap64 ((i : Int) + 1) = ((i + 1 : Nat) : Int) := by rw [wrap64_small (by omega) (by omega)]; omega
    have hi : i < l.length := by omega
    rw [sidestickref03_Sum.l0, if_pos (by omega), if_pos (by omega), refstepB_is s (hb _ (rd_mem hi)) (by omega), Option.bind_some, e, refsum_l0 hb hn d k (i + 1) _ (by omega) (by omega), rd_drop hi]
    rfl
theorem refsum_is {l : List Int} (hb : isBytes l) (hn : l.length ≤ 140737488355328) {k : Nat} (hk : l.length + 10 ≤ k) : sidestickref03_Sum.f k l = some (sumI l) := refsum_l0 hb hn l.length k 0 65535#16 (by omega) hk
end Go.Proofs.Ytjmpoiafcdphbab.TellStreamFrames
