/- What Next tells, as StreamFrames has it. -/
import Derived.Test.YtjmpoiafcdphbabQStreamFramesx3t
import Derived.Test.YtjmpoiafcdphbabCrcTellStreamFrames
import Derived.Test.YtjmpoiafcdphbabFrameMathC
namespace Go.Proofs.Ytjmpoiafcdphbab.TellStreamFrames
open Go Go.RowKit Go.Proofs.Ytjmpoiafcdphbab.PStreamFrames Go.Proofs.Ytjmpoiafcdphbab.Crc Go.Proofs.Ytjmpoiafcdphbab.Frame Go.Proofs.YtjmpoiafcdphbabW.PrintWords
set_option linter.unusedSimpArgs false
theorem none_is (e : Int) : frame_none.f e = some (3, 1, e, []) := rfl
theorem clone_is {l : List Int} (h : l.length < 140737488355328) : slices_Clone_byte_byte.f l = some l := by
  unfold slices_Clone_byte_byte.f
  rw [Option.bind_some, if_pos (by simpa using h), List.nil_append]
theorem rd_last (n : Int) (b : List Int) (x y : Int) : rd (165 :: 1 :: n :: (b ++ [x, y])) ((b.length + 3 : Nat) : Int) = x ∧ rd (165 :: 1 :: n :: (b ++ [x, y])) ((b.length + 4 : Nat) : Int) = y := by
  unfold rd
  rw [Int.toNat_natCast, Int.toNat_natCast]
  constructor <;> simp [List.getD_eq_getElem?_getD]
theorem whole_is {n x y : Int} {b : List Int} (hn : n = (b.length : Nat)) (hn2 : n ≤ 255) (hb : isBytes b) (hx : 0 ≤ x ∧ x ≤ 255) (hy : 0 ≤ y ∧ y ≤ 255) {k : Nat} (hk : b.length + 20 ≤ k) :
    frame_whole.f k (165 :: 1 :: n :: (b ++ [x, y])) = some (if sumI (1 :: n :: b) = 256 * x + y then (2, n + 5, 0, b) else (3, 1, 12, [])) := by
  obtain ⟨k, rfl⟩ : ∃ m, k = m + 1 := ⟨k - 1, by omega⟩
  have len : ((165 :: 1 :: n :: (b ++ [x, y])).length : Int) = ((b.length + 5 : Nat) : Int) := by simp only [List.length_cons, List.length_append, List.length_nil]
  have e3 : wrap64 (((b.length + 5 : Nat) : Int) - 2) = ((b.length + 3 : Nat) : Int) := by rw [wrap64_small (by omega) (by omega)]; omega
  have e4 : wrap64 (((b.length + 3 : Nat) : Int) + 1) = ((b.length + 4 : Nat) : Int) := by rw [wrap64_small (by omega) (by omega)]; omega
  have tk : (165 :: 1 :: n :: (b ++ [x, y])).take (b.length + 3) = 165 :: 1 :: n :: b := by simp
  have hs : isBytes (1 :: n :: b) := by
    intro z hz
    simp only [List.mem_cons] at hz
    rcases hz with h | h | h
    · omega
    · omega
    · exact hb z h
  have hr := sumI_range (1 :: n :: b)
  obtain ⟨r1, r2⟩ := rd_last n b x y
  unfold frame_whole.f
  rw [len, e3, if_pos (by omega), if_pos (by omega), Int.toNat_natCast, tk, List.drop_succ_cons, List.drop_zero, sum_is hs (by simp; omega) (by simp; omega), Option.bind_some, if_pos (by omega), if_pos (by omega), r1, e4, r2, frame_whole.j0, frame_whole.j0]
  generalize sumI (1 :: n :: b) = s at *
  by_cases c1 : (s / 256) % 256 = x
  · rw [if_pos c1, if_pos (by omega), if_pos (by omega)]
    by_cases c2 : s % 256 = y
    · rw [if_neg (by simp [c2]), if_pos (by omega), len, if_pos (by omega), Int.toNat_natCast, tk, if_pos (by omega)]
      rw [List.drop_succ_cons, List.drop_succ_cons, List.drop_succ_cons, List.drop_zero, clone_is (by omega), Option.bind_some, hn]
      rfl
    · rw [if_pos (by simp [c2]), if_neg (by omega)]
      rfl
  · rw [if_neg c1, if_pos rfl, if_neg (by omega)]
    rfl
theorem isB_bytes {l : List Int} (h : isB l) : isBytes l := h
theorem take_two {r : List Int} {m : Nat} (h : m + 2 ≤ r.length) : r.take (m + 2) = r.take m ++ [r.getD m 0, r.getD (m + 1) 0] := by
  have e1 : r.take (m + 1) = r.take m ++ [r.getD m 0] := by
    rw [List.take_succ_eq_append_getElem (by omega), List.getD_eq_getElem?_getD, List.getElem?_eq_getElem (by omega)]; rfl
  have e2 : r.take (m + 1 + 1) = r.take (m + 1) ++ [r.getD (m + 1) 0] := by
    rw [List.take_succ_eq_append_getElem (by omega), List.getD_eq_getElem?_getD, List.getElem?_eq_getElem (by omega)]; rfl
  rw [e2, e1]
  simp
theorem next_is {l : List Int} (hl : isB l) (hn : l.length ≤ 140737488355328) {k : Nat} (hk : 300 ≤ k) : frame_Next.f k l = some (nextL l) := by
  obtain ⟨k, rfl⟩ : ∃ m, k = m + 3 := ⟨k - 3, by omega⟩
  unfold frame_Next.f
  match l, hl, hn with
  | [], _, _ => rfl
  | a :: r, hl, hn =>
    rw [if_pos (by simp <;> omega), if_pos (by simp <;> omega)]
    have e0 : rd (a :: r) 0 = a := rfl
    rw [e0, frame_Next.j0]
    by_cases ha : a = 165
    · rw [if_neg (by simp [ha])]
      subst ha
      match r, hl, hn with
      | [], _, _ => rfl
      | [v], hl, _ =>
        by_cases hv : v = 1
        · subst hv; rfl
        · rw [if_pos (by simp), frame_Next.j2, if_pos (by simp)]
          have e1 : rd [165, v] 1 = v := rfl
          rw [e1, if_neg hv]
          simp only [nextL, none_is, Option.bind_some, ne_eq, not_true_eq_false, if_false, hv, not_false_eq_true, if_true]
      | v :: n :: r, hl, hn =>
        have len : ((165 :: v :: n :: r).length : Int) = ((r.length + 3 : Nat) : Int) := by simp only [List.length_cons]
        have e1 : rd (165 :: v :: n :: r) 1 = v := rfl
        have e2 : rd (165 :: v :: n :: r) 2 = n := rfl
        have bn := isB_head (isB_tail (isB_tail hl))
        have br := isB_tail (isB_tail (isB_tail hl))
        have hn3 : r.length + 3 ≤ 140737488355328 := by simpa using hn
        have ew : wrap64 (wrap64 n + 5) = n + 5 := by rw [wrap64_small (x := n) (by omega) (by omega), wrap64_small (by omega) (by omega)]
        have nx : nextL (165 :: v :: n :: r) = if v ≠ 1 then (3, 1, 10, []) else tailL n r := by simp only [nextL, ne_eq, not_true_eq_false, if_false]
        have j2 : ∀ k, 250 ≤ k → ¬ (n > 32 ∧ v = 1) → frame_Next.j2 (k + 1) (165 :: v :: n :: r) = some (nextL (165 :: v :: n :: r)) := by
          intro k hk h32
          rw [frame_Next.j2, len, if_pos (by omega), e1, e2, ew, nx]
          by_cases hv : v = 1
          · subst hv
            have nx1 : (if (1 : Int) ≠ 1 then ((3 : Int), (1 : Int), (10 : Int), ([] : List Int)) else tailL n r) = tailL n r := if_neg (by simp)
            rw [nx1, tailL, if_neg (show ¬ n > 32 by omega), if_pos rfl, if_neg (show ¬ ((r.length + 3 : Nat) : Int) ≤ 2 by omega), if_pos (show (2 : Int) < ((r.length + 3 : Nat) : Int) by omega)]
            by_cases hs : ((r.length + 3 : Nat) : Int) < n + 5
            · rw [if_pos hs, if_pos (by omega)]
            · obtain ⟨m, rfl⟩ := Int.eq_ofNat_of_zero_le bn.1
              have et : (165 :: 1 :: ((m : Nat) : Int) :: r).take (((m : Nat) : Int) + 5).toNat = 165 :: 1 :: ((m : Nat) : Int) :: (r.take m ++ [r.getD m 0, r.getD (m + 1) 0]) := by
                rw [show (((m : Nat) : Int) + 5).toNat = m + 2 + 1 + 1 + 1 by omega, List.take_succ_cons, List.take_succ_cons, List.take_succ_cons, take_two (by omega)]
              have hg : ∀ i, i < r.length → 0 ≤ r.getD i 0 ∧ r.getD i 0 ≤ 255 := fun i hi => by
                rw [List.getD_eq_getElem?_getD, List.getElem?_eq_getElem hi]
                exact br _ (List.getElem_mem hi)
              have lt : (r.take m).length = m := by rw [List.length_take]; omega
              rw [if_neg hs, if_pos (by omega), if_pos (by omega), et, whole_is (by rw [lt]) (by omega) (fun z hz => br z (List.mem_of_mem_take hz)) (hg m (by omega)) (hg (m + 1) (by omega)) (by rw [lt]; omega), Option.bind_some, if_neg (show ¬ ((r.length : Nat) : Int) < ((m : Nat) : Int) + 2 by omega), Int.toNat_natCast]
          · rw [if_neg hv, if_pos hv, none_is]
            rfl
        rw [len, if_neg (by omega), if_neg (by omega)]
        have eb : ((((r.length + 3 : Nat) : Int)) == 1) = false := beq_eq_false_iff_ne.2 (by omega)
        rw [eb, frame_Next.j1, if_neg (by decide), len, if_pos (by omega), e2, e1]
        by_cases h32 : n > 32
        · rw [if_pos h32, if_pos (by omega)]
          by_cases hv : v = 1
          · rw [if_pos hv, nx, if_neg (by simp [hv]), tailL, if_pos h32]; rfl
          · rw [if_neg hv]
            obtain ⟨k, rfl⟩ : ∃ m, k = m + 1 := ⟨k - 1, by omega⟩
            exact j2 _ (by omega) (by omega)
        · rw [if_neg h32]
          exact j2 _ (by omega) (by omega)
    · rw [if_pos (by simp [ha])]
      have hi : bytes_IndexByte.f (a :: r) 165 = some (Lib.indexByte (Lib.bytesOf (a :: r)) (165 : Int).toNat.toUInt8) := rfl
      have hs := skip_index hl
      rw [hi, Option.bind_some]
      have e : nextL (a :: r) = (1, ((skipN (a :: r) : Nat) : Int), 0, []) := by simp only [nextL, ne_eq, ha, not_false_eq_true, if_true]
      rw [e, ← hs]
      split <;> rfl
theorem refput_is {l : List Int} (hl : isB l) (hn : l.length ≤ 100) {k : Nat} (hk : 300 ≤ k) : sidestickref06_Put.f k l = some (putL l) := by
  unfold sidestickref06_Put.f putL
  by_cases h : (l.length : Int) > 32
  · rw [if_pos h, if_pos h]
  · have hs : isBytes (1 :: (l.length : Int) :: l) := by
      intro z hz
      simp only [List.mem_cons] at hz
      rcases hz with h | h | h
      · omega
      · omega
      · exact hl z h
    have hr := sumI_range (1 :: (l.length : Int) :: l)
    have em : (l.length : Int) % 256 = (l.length : Int) := by omega
    rw [if_neg h, if_neg h, em, Option.bind_some, if_pos (by simp only [List.length_cons, List.length_nil]; omega), Option.bind_some, if_pos (by simp only [List.length_append, List.length_cons, List.length_nil]; omega)]
    have ed : ([165, 1, (l.length : Int)] ++ l).drop 1 = 1 :: (l.length : Int) :: l := rfl
    rw [ed, refsum_is hs (by simp only [List.length_cons]; omega) (by simp only [List.length_cons]; omega), Option.bind_some, Option.bind_some, if_pos (by simp only [List.length_append, List.length_cons, List.length_nil]; omega)]
    rw [Int.tdiv_eq_ediv_of_nonneg hr.1, Int.tmod_eq_emod_of_nonneg hr.1, wrap_u16, show sumI (1 :: (l.length : Int) :: l) / 256 % 65536 % 256 = sumI (1 :: (l.length : Int) :: l) / 256 by omega, show sumI (1 :: (l.length : Int) :: l) % 256 % 256 = sumI (1 :: (l.length : Int) :: l) % 256 by omega]
end Go.Proofs.Ytjmpoiafcdphbab.TellStreamFrames
