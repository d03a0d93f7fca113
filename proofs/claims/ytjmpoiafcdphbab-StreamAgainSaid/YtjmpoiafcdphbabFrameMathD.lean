/- A frame is found whole, and each of its beginnings waits. -/
import Derived.Test.YtjmpoiafcdphbabFrameMathC
namespace Go.Proofs.Ytjmpoiafcdphbab.Frame
open Go Go.RowKit Go.Proofs.Ytjmpoiafcdphbab.Crc
/-- The frame of a body. -/
def frL (l : List Int) : List Int := 165 :: 1 :: (l.length : Int) :: (l ++ [sumI (1 :: (l.length : Int) :: l) / 256, sumI (1 :: (l.length : Int) :: l) % 256])
theorem frL_length (l : List Int) : (frL l).length = l.length + 5 := by simp [frL]
theorem putL_is {l : List Int} (h : l.length ≤ 32) : putL l = (frL l, 0) := by
  unfold putL frL
  rw [if_neg (by omega)]
  simp
theorem sumI_in (l : List Int) : 0 ≤ sumI l ∧ sumI l ≤ 65535 := by
  have := (sumB l).isLt
  unfold sumI; omega
theorem frL_isB {l : List Int} (hb : isB l) (h : l.length ≤ 32) : isB (frL l) := by
  have hr := sumI_in (1 :: (l.length : Int) :: l)
  intro x hx
  unfold frL at hx
  simp only [List.mem_cons, List.mem_append, List.not_mem_nil, or_false] at hx
  rcases hx with h1 | h1 | h1 | h1 | h1 | h1
  · omega
  · omega
  · omega
  · exact hb x h1
  · omega
  · omega
theorem tail_frame {l : List Int} (h : l.length ≤ 32) (m : List Int) : tailL (l.length : Int) (l ++ [sumI (1 :: (l.length : Int) :: l) / 256, sumI (1 :: (l.length : Int) :: l) % 256] ++ m) = (2, (l.length : Int) + 5, 0, l) := by
  have e1 : (l ++ [sumI (1 :: (l.length : Int) :: l) / 256, sumI (1 :: (l.length : Int) :: l) % 256] ++ m).take l.length = l := by
    rw [List.append_assoc, List.take_left' rfl]
  have e2 : (l ++ [sumI (1 :: (l.length : Int) :: l) / 256, sumI (1 :: (l.length : Int) :: l) % 256] ++ m).getD l.length 0 = sumI (1 :: (l.length : Int) :: l) / 256 := by
    rw [List.getD_eq_getElem?_getD, List.append_assoc, List.getElem?_append_right (Nat.le_refl _), Nat.sub_self]; rfl
  have e3 : (l ++ [sumI (1 :: (l.length : Int) :: l) / 256, sumI (1 :: (l.length : Int) :: l) % 256] ++ m).getD (l.length + 1) 0 = sumI (1 :: (l.length : Int) :: l) % 256 := by
    rw [List.getD_eq_getElem?_getD, List.append_assoc, List.getElem?_append_right (by omega), show l.length + 1 - l.length = 1 by omega]; rfl
  unfold tailL
  rw [Int.toNat_natCast, e1, e2, e3, if_neg (by omega), if_neg (by simp only [List.length_append, List.length_cons, List.length_nil]; omega), if_pos (by omega)]
theorem next_frame {l : List Int} (h : l.length ≤ 32) (m : List Int) : nextL (frL l ++ m) = (2, (l.length : Int) + 5, 0, l) := by
  have e : frL l ++ m = 165 :: 1 :: (l.length : Int) :: (l ++ [sumI (1 :: (l.length : Int) :: l) / 256, sumI (1 :: (l.length : Int) :: l) % 256] ++ m) := rfl
  rw [e, next_tail]
  exact tail_frame h m
theorem next_begin {l : List Int} (h : l.length ≤ 32) {i : Nat} (hi : i < (frL l).length) : nextL ((frL l).take i) = (0, 0, 0, []) := by
  rw [frL_length] at hi
  match i, hi with
  | 0, _ => rfl
  | 1, _ => rfl
  | 2, _ => rfl
  | i + 3, hi =>
    have e : (frL l).take (i + 3) = 165 :: 1 :: (l.length : Int) :: (l ++ [sumI (1 :: (l.length : Int) :: l) / 256, sumI (1 :: (l.length : Int) :: l) % 256]).take i := rfl
    rw [e, next_tail]
    unfold tailL
    rw [if_neg (by omega), if_pos (by rw [List.length_take]; simp only [List.length_append, List.length_cons, List.length_nil]; omega)]
end Go.Proofs.Ytjmpoiafcdphbab.Frame
