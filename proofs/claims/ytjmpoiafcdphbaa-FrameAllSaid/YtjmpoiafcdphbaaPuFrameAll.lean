/- FrameAll: Put and Next are as the document says. -/
import Derived.Test.YtjmpoiafcdphbaaFrameTellFrameAll
namespace Go.Proofs.Ytjmpoiafcdphbaa.Pure
open Go.RowKit Go.Proofs.Ytjmpoiafcdphbaa.Frame Go.Proofs.Ytjmpoiafcdphbaa.Crc Go.Proofs.Ytjmpoiafcdphbaa.PFrameAll Go.Proofs.Ytjmpoiafcdphbaa.TellFrameAll Go.Proofs.YtjmpoiafcdphbaaW.PrintWords Go.Proofs.YtjmpoiafcdphbaaW.PrintLast
theorem ref_skip {l : List Int} (hn : l.length ≤ 1000) : ∀ (d k i : Nat), i + d = l.length → d < k → sidestickref06_Next.l0 k l (i : Int) = some (1, ((i + skipN (l.drop i) : Nat) : Int), 0, [])
  | 0, k + 1, i, h, hk => by
    rw [sidestickref06_Next.l0, if_neg (by omega), List.drop_eq_nil_of_le (by omega)]
    rfl
  | d + 1, k + 1, i, h, hk => by
    have hi : i < l.length := by omega
    have e : wrap64 ((i : Int) + 1) = ((i + 1 : Nat) : Int) := by rw [wrap64_small (by omega) (by omega)]; omega
    rw [sidestickref06_Next.l0, if_pos (by omega), if_pos (by omega), rd_drop hi, skipN]
    by_cases h1 : rd l (i : Int) = 165
    · rw [if_pos h1, if_pos h1]; rfl
    · rw [if_neg h1, if_neg h1, e, ref_skip hn d k (i + 1) (by omega) (by omega)]
      congr 3
      omega
theorem cmp_is {x y : Int} (hx : 0 ≤ x ∧ x ≤ 255) (hy : 0 ≤ y ∧ y ≤ 255) : wrap64 (wrap64 (256 * wrap64 x) + wrap64 y) = 256 * x + y := by
  have e1 : wrap64 x = x := wrap64_small (by omega) (by omega)
  have e2 : wrap64 y = y := wrap64_small (by omega) (by omega)
  have e3 : wrap64 (256 * x) = 256 * x := wrap64_small (by omega) (by omega)
  rw [e1, e2, e3]
  exact wrap64_small (by omega) (by omega)
theorem tk_3 (m : Nat) (r : List Int) : (165 :: 1 :: ((m : Nat) : Int) :: r).take (m + 3) = 165 :: 1 :: ((m : Nat) : Int) :: r.take m := rfl
theorem rd_3 (m : Nat) (r : List Int) : rd (165 :: 1 :: ((m : Nat) : Int) :: r) ((m + 3 : Nat) : Int) = r.getD m 0 := by unfold rd; rw [Int.toNat_natCast]; rfl
theorem rd_4 (m : Nat) (r : List Int) : rd (165 :: 1 :: ((m : Nat) : Int) :: r) ((m + 4 : Nat) : Int) = r.getD (m + 1) 0 := by unfold rd; rw [Int.toNat_natCast]; rfl
theorem refnext_is {l : List Int} (hl : isB l) (hn : l.length ≤ 1000) {k : Nat} (hk : 1100 ≤ k) : sidestickref06_Next.f k l = some (nextL l) := by
  unfold sidestickref06_Next.f
  rcases next_cases l with rfl | ⟨a, r, rfl, ha⟩ | rfl | ⟨v, r, rfl, hv⟩ | rfl | ⟨n, r, rfl⟩
  · rfl
  · have e0 : rd (a :: r) 0 = a := rfl
    rw [if_neg (by simp only [List.length_cons]; omega), if_pos (by simp only [List.length_cons]; omega), e0, if_neg ha, next_skip r ha]
    have := ref_skip hn (a :: r).length k 0 (by omega) (by omega)
    rw [List.drop_zero, Nat.zero_add] at this
    exact this
  · rfl
  · have e0 : rd (165 :: v :: r) 0 = 165 := rfl
    have e1 : rd (165 :: v :: r) 1 = v := rfl
    rw [if_neg (by simp only [List.length_cons]; omega), if_pos (by simp only [List.length_cons]; omega), e0, if_pos rfl, if_neg (by simp only [List.length_cons]; omega), if_pos (by simp only [List.length_cons]; omega), e1, if_neg hv, next_version r hv]
    rfl
  · rfl
  · have e0 : rd (165 :: 1 :: n :: r) 0 = 165 := rfl
    have e1 : rd (165 :: 1 :: n :: r) 1 = 1 := rfl
    have e2 : rd (165 :: 1 :: n :: r) 2 = n := rfl
    have bn := isB_head (isB_tail (isB_tail hl))
    have br := isB_tail (isB_tail (isB_tail hl))
    obtain ⟨m, rfl⟩ := Int.eq_ofNat_of_zero_le bn.1
    have len : ((165 :: 1 :: ((m : Nat) : Int) :: r).length : Int) = ((r.length + 3 : Nat) : Int) := by simp only [List.length_cons]
    have hn3 : r.length + 3 ≤ 1000 := by simpa only [List.length_cons] using hn
    have w0 : wrap64 ((m : Nat) : Int) = ((m : Nat) : Int) := wrap64_small (by omega) (by omega)
    have w3 : wrap64 (((m : Nat) : Int) + 3) = ((m + 3 : Nat) : Int) := by rw [wrap64_small (by omega) (by omega)]; omega
    have w4 : wrap64 (((m : Nat) : Int) + 4) = ((m + 4 : Nat) : Int) := by rw [wrap64_small (by omega) (by omega)]; omega
    have w5 : wrap64 (((m : Nat) : Int) + 5) = ((m + 5 : Nat) : Int) := by rw [wrap64_small (by omega) (by omega)]; omega
    rw [len, if_neg (by omega), if_pos (by omega), e0, if_pos rfl, if_neg (by omega), if_pos (by omega), e1, if_pos rfl, if_neg (by omega), if_pos (by omega), e2, w0, w3, w4, w5, next_tail]
    have hg : ∀ i, i < r.length → 0 ≤ r.getD i 0 ∧ r.getD i 0 ≤ 255 := fun i hi => by
      rw [List.getD_eq_getElem?_getD, List.getElem?_eq_getElem hi]
      exact br _ (List.getElem_mem hi)
    clear e0 e1 e2 w0 w3 w4 w5 len hl hn
    rcases tail_cases ((m : Nat) : Int) r with ⟨h1, e⟩ | ⟨h1, h2, e⟩ | ⟨h1, h2, h3, e⟩ | ⟨h1, h2, h3, e⟩
    · rw [if_pos h1, e]; rfl
    · rw [if_neg (by omega), if_pos (by omega), e]
    · have g0 := hg m (by omega)
      have g1 := hg (m + 1) (by omega)
      rw [Int.toNat_natCast] at h3 e
      have hs : isBytes (1 :: ((m : Nat) : Int) :: r.take m) := by
        intro z hz
        simp only [List.mem_cons] at hz
        rcases hz with h | h | h
        · omega
        · omega
        · exact br z (List.mem_of_mem_take h)
      have lt : (r.take m).length = m := by rw [List.length_take]; omega
      have hr := sumI_range (1 :: ((m : Nat) : Int) :: r.take m)
      rw [if_neg (by omega), if_neg (by omega), if_pos (by omega), if_pos (by omega), Int.toNat_natCast, tk_3, List.drop_succ_cons, List.drop_zero, refsum_is hs (by simp only [List.length_cons]; omega) (by simp only [List.length_cons]; omega), Option.bind_some, if_pos (by omega), if_pos (by omega), if_pos (by omega), if_pos (by omega), rd_3, rd_4]
      have ws : wrap64 (sumI (1 :: ((m : Nat) : Int) :: r.take m)) = sumI (1 :: ((m : Nat) : Int) :: r.take m) := wrap64_small (by omega) (by omega)
      rw [ws, cmp_is g0 g1, if_pos h3, Option.bind_some, if_pos (by omega), List.drop_succ_cons, List.drop_succ_cons, List.drop_succ_cons, List.drop_zero, if_pos (by simp only [List.length_nil]; omega), List.nil_append, e]
      rfl
    · have g0 := hg m (by omega)
      have g1 := hg (m + 1) (by omega)
      rw [Int.toNat_natCast] at h3
      have hs : isBytes (1 :: ((m : Nat) : Int) :: r.take m) := by
        intro z hz
        simp only [List.mem_cons] at hz
        rcases hz with h | h | h
        · omega
        · omega
        · exact br z (List.mem_of_mem_take h)
      have lt : (r.take m).length = m := by rw [List.length_take]; omega
      have hr := sumI_range (1 :: ((m : Nat) : Int) :: r.take m)
      rw [if_neg (by omega), if_neg (by omega), if_pos (by omega), if_pos (by omega), Int.toNat_natCast, tk_3, List.drop_succ_cons, List.drop_zero, refsum_is hs (by simp only [List.length_cons]; omega) (by simp only [List.length_cons]; omega), Option.bind_some, if_pos (by omega), if_pos (by omega), if_pos (by omega), if_pos (by omega), rd_3, rd_4]
      have ws : wrap64 (sumI (1 :: ((m : Nat) : Int) :: r.take m)) = sumI (1 :: ((m : Nat) : Int) :: r.take m) := wrap64_small (by omega) (by omega)
      rw [ws, cmp_is g0 g1, if_neg h3, e]
      rfl
theorem FrameAll : sidesticklaw06_FrameAll.Pure := by
  intro l0 l1 _ _ hl _ _ hl1
  have hx := few_bytes (bytes_of hl)
  have hm := few_bytes (bytes_of hl1)
  have nx := few_length l0
  have nm := few_length l1
  refine ⟨2000, ?_⟩
  unfold sidesticklaw06_FrameAll.f
  rw [shown_is (by omega), Option.bind_some, few_is, Option.bind_some, put_is hx nx (by omega), Option.bind_some, refput_is hx nx (by omega), Option.bind_some, few_is, Option.bind_some, next_is hm (by omega) (by omega), Option.bind_some, Option.bind_some, refnext_is hm (by omega) (by omega), Option.bind_some, same_refl, Option.bind_some, if_pos rfl, if_pos rfl, if_pos rfl]
end Go.Proofs.Ytjmpoiafcdphbaa.Pure
