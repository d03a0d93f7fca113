/- The pieces that the laws of layer 7 look at; a frame ahead of bytes. -/
import Derived.Test.YtjmpoiafcdphbabStreamTellStreamFrames
import Derived.Test.YtjmpoiafcdphbabFrameMathD
namespace Go.Proofs.Ytjmpoiafcdphbab.PStreamFrames
open Go Go.RowKit Go.Proofs.Ytjmpoiafcdphbab.Frame Go.Proofs.Ytjmpoiafcdphbab.Crc Go.Proofs.Ytjmpoiafcdphbab.Stream Go.Proofs.Ytjmpoiafcdphbab.TellStreamFrames Go.Proofs.YtjmpoiafcdphbabW.PrintWords
/-- What each piece must be. -/
def Pieces (l : List (List Int)) : Prop := ∀ x ∈ l, isB x
theorem mn_small (x : List Int) (n : Nat) : 0 ≤ mn (x.length : Int) (n : Int) ∧ mn (x.length : Int) (n : Int) ≤ (x.length : Int) ∧ x.take ((mn (x.length : Int) (n : Int)) : Int).toNat = x.take n := by
  have e : mn (x.length : Int) (n : Int) = ((min x.length n : Nat) : Int) := by unfold mn; split <;> omega
  rw [e, Int.toNat_natCast]
  refine ⟨by omega, by omega, ?_⟩
  by_cases h : x.length ≤ n
  · rw [Nat.min_eq_left h, List.take_of_length_le (Nat.le_refl _), List.take_of_length_le h]
  · rw [Nat.min_eq_right (by omega)]
theorem rd_mem {l : List (List Int)} {i : Nat} (h : i < l.length) : rd_L2 l (i : Int) ∈ l := by
  unfold rd_L2
  rw [Int.toNat_natCast, List.getD_eq_getElem?_getD, List.getElem?_eq_getElem h]
  exact List.getElem_mem h
def Few (l : List (List Int)) : Prop := l.length ≤ 20 ∧ ∀ x ∈ l, isB x ∧ x.length ≤ 100
theorem few_loop {l : List (List Int)} (hl : Pieces l) : ∀ (d i k : Nat) (x : List (List Int)), i + d = 20 → d < k → x.length ≤ i → Few x → ∃ r, sidesticklaw07_few.l0 k l x (i : Int) = some r ∧ Few r
  | 0, i, k + 1, x, hi, _, hx, hf => ⟨x, by
      rw [sidesticklaw07_few.l0]
      by_cases h : (i : Int) < (l.length : Int)
      · rw [if_pos h, if_neg (by omega)]
      · rw [if_neg h], hf⟩
  | d + 1, i, k + 1, x, hi, hk, hx, hf => by
    rw [sidesticklaw07_few.l0]
    by_cases h : (i : Int) < (l.length : Int)
    · have hm := rd_mem (l := l) (i := i) (by omega)
      obtain ⟨m1, m2, m3⟩ := mn_small (rd_L2 l (i : Int)) 100
      have e : wrap64 ((i : Int) + 1) = ((i + 1 : Nat) : Int) := by rw [wrap64_small (by omega) (by omega)]; omega
      have m1' : 0 ≤ mn ((rd_L2 l (i : Int)).length : Int) 100 := m1
      have m2' : mn ((rd_L2 l (i : Int)).length : Int) 100 ≤ ((rd_L2 l (i : Int)).length : Int) := m2
      have m3' : (rd_L2 l (i : Int)).take ((mn ((rd_L2 l (i : Int)).length : Int) 100) : Int).toNat = (rd_L2 l (i : Int)).take 100 := m3
      rw [if_pos h, if_pos (by omega), if_pos (by omega), if_pos m1', if_pos m2', if_pos (by omega), m3', e]
      refine few_loop hl d (i + 1) k _ (by omega) (by omega) (by rw [List.length_append]; simp only [List.length_cons, List.length_nil]; omega) ⟨by rw [List.length_append]; simp only [List.length_cons, List.length_nil]; omega, fun z hz => ?_⟩
      rcases List.mem_append.1 hz with hz | hz
      · exact hf.2 z hz
      · rw [List.mem_singleton.1 hz]
        exact ⟨fun y hy => hl _ hm y (List.mem_of_mem_take hy), by rw [List.length_take]; omega⟩
    · rw [if_neg h]
      exact ⟨x, rfl, hf⟩
theorem few_is {l : List (List Int)} (hl : Pieces l) {k : Nat} (hk : 30 ≤ k) : ∃ r, sidesticklaw07_few.f k l = some r ∧ Few r := by
  unfold sidesticklaw07_few.f
  exact few_loop hl 20 0 k [] (by omega) (by omega) (Nat.le_refl _) ⟨by simp, fun x hx => by cases hx⟩
theorem all_frame {b m : List Int} (hb : isB b) (hn : b.length ≤ 32) (hm : isB m) : allL (frL b ++ m) = ((0, b) :: (allL m).1, (allL m).2) := by
  have hfm : isB (frL b ++ m) := isB_append (frL_isB hb hn) hm
  have e := next_frame hn m
  have h0 : (nextL (frL b ++ m)).1 ≠ 0 := by rw [e]; simp
  have e1 : itL (frL b ++ m) = [(0, b)] := by unfold itL; rw [e]; rfl
  have e2 : dropL (frL b ++ m) = m := by
    unfold dropL
    rw [e]
    show (frL b ++ m).drop ((b.length : Int) + 5).toNat = m
    rw [show ((b.length : Int) + 5).toNat = (frL b).length by rw [frL_length]; omega, List.drop_left]
  rw [all_step hfm h0, e1, e2]
  rfl
end Go.Proofs.Ytjmpoiafcdphbab.PStreamFrames
