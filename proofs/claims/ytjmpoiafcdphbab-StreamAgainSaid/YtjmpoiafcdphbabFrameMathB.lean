/- What more bytes behind do to what stands at the beginning. -/
import Derived.Test.YtjmpoiafcdphbabFrameMath
namespace Go.Proofs.Ytjmpoiafcdphbab.Frame
open Go Go.RowKit Go.Proofs.Ytjmpoiafcdphbab.Crc
theorem next_skip {a : Int} (r : List Int) (h : a ≠ 165) : nextL (a :: r) = (1, ((skipN (a :: r) : Nat) : Int), 0, []) := by
  simp only [nextL, ne_eq, h, not_false_eq_true, if_true]
theorem next_one : nextL [165] = (0, 0, 0, []) := rfl
theorem next_version {v : Int} (r : List Int) (h : v ≠ 1) : nextL (165 :: v :: r) = (3, 1, 10, []) := by
  simp only [nextL, ne_eq, not_true_eq_false, if_false, h, not_false_eq_true, if_true]
theorem next_two : nextL [165, 1] = (0, 0, 0, []) := rfl
theorem next_tail (n : Int) (r : List Int) : nextL (165 :: 1 :: n :: r) = tailL n r := rfl
/-- Each way that there is. -/
theorem next_cases (l : List Int) : l = [] ∨ (∃ a r, l = a :: r ∧ a ≠ 165) ∨ l = [165] ∨ (∃ v r, l = 165 :: v :: r ∧ v ≠ 1) ∨ l = [165, 1] ∨ ∃ n r, l = 165 :: 1 :: n :: r := by
  match l with
  | [] => exact .inl rfl
  | a :: r =>
    by_cases ha : a = 165
    · subst ha
      match r with
      | [] => exact .inr (.inr (.inl rfl))
      | v :: r =>
        by_cases hv : v = 1
        · subst hv
          match r with
          | [] => exact .inr (.inr (.inr (.inr (.inl rfl))))
          | n :: r => exact .inr (.inr (.inr (.inr (.inr ⟨n, r, rfl⟩))))
        · exact .inr (.inr (.inr (.inl ⟨v, r, rfl, hv⟩)))
    · exact .inr (.inl ⟨a, r, rfl, ha⟩)
theorem tail_cases (n : Int) (r : List Int) : (n > 32 ∧ tailL n r = (3, 1, 11, [])) ∨ (n ≤ 32 ∧ (r.length : Int) < n + 2 ∧ tailL n r = (0, 0, 0, [])) ∨
    (n ≤ 32 ∧ n + 2 ≤ (r.length : Int) ∧ sumI (1 :: n :: r.take n.toNat) = 256 * r.getD n.toNat 0 + r.getD (n.toNat + 1) 0 ∧ tailL n r = (2, n + 5, 0, r.take n.toNat)) ∨
    (n ≤ 32 ∧ n + 2 ≤ (r.length : Int) ∧ sumI (1 :: n :: r.take n.toNat) ≠ 256 * r.getD n.toNat 0 + r.getD (n.toNat + 1) 0 ∧ tailL n r = (3, 1, 12, [])) := by
  by_cases h1 : n > 32
  · exact .inl ⟨h1, by rw [tailL, if_pos h1]⟩
  · by_cases h2 : (r.length : Int) < n + 2
    · exact .inr (.inl ⟨by omega, h2, by rw [tailL, if_neg h1, if_pos h2]⟩)
    · by_cases h3 : sumI (1 :: n :: r.take n.toNat) = 256 * r.getD n.toNat 0 + r.getD (n.toNat + 1) 0
      · exact .inr (.inr (.inl ⟨by omega, by omega, h3, by rw [tailL, if_neg h1, if_neg h2, if_pos h3]⟩))
      · exact .inr (.inr (.inr ⟨by omega, by omega, h3, by rw [tailL, if_neg h1, if_neg h2, if_neg h3]⟩))
theorem next_wait {l : List Int} (h : (nextL l).1 = 0) : (nextL l).2.1 = 0 ∧ l.length < 37 := by
  rcases next_cases l with rfl | ⟨a, r, rfl, ha⟩ | rfl | ⟨v, r, rfl, hv⟩ | rfl | ⟨n, r, rfl⟩
  · exact ⟨rfl, by simp⟩
  · rw [next_skip r ha] at h; exact absurd h (by simp)
  · exact ⟨rfl, by simp⟩
  · rw [next_version r hv] at h; exact absurd h (by simp)
  · exact ⟨rfl, by simp⟩
  · rw [next_tail] at h ⊢
    rcases tail_cases n r with ⟨_, e⟩ | ⟨h1, h2, e⟩ | ⟨_, _, _, e⟩ | ⟨_, _, _, e⟩
    · rw [e] at h; exact absurd h (by simp)
    · rw [e]; exact ⟨rfl, by simp only [List.length_cons]; omega⟩
    · rw [e] at h; exact absurd h (by simp)
    · rw [e] at h; exact absurd h (by simp)
theorem skip_pos {a : Int} (r : List Int) (h : a ≠ 165) : 1 ≤ skipN (a :: r) := by
  rw [skipN, if_neg h]; omega
theorem next_size {l : List Int} (hb : isB l) (h : (nextL l).1 ≠ 0) : 1 ≤ (nextL l).2.1 ∧ (nextL l).2.1 ≤ (l.length : Int) := by
  rcases next_cases l with rfl | ⟨a, r, rfl, ha⟩ | rfl | ⟨v, r, rfl, hv⟩ | rfl | ⟨n, r, rfl⟩
  · exact absurd rfl h
  · rw [next_skip r ha]
    have h1 := skip_pos r ha
    have h2 := skip_le (a :: r)
    exact ⟨by show (1 : Int) ≤ ((skipN (a :: r) : Nat) : Int); omega, by show ((skipN (a :: r) : Nat) : Int) ≤ _; omega⟩
  · exact absurd rfl h
  · rw [next_version r hv]; exact ⟨Int.le_refl _, by simp only [List.length_cons]; omega⟩
  · exact absurd rfl h
  · have bn := isB_head (isB_tail (isB_tail hb))
    rw [next_tail] at h ⊢
    rcases tail_cases n r with ⟨_, e⟩ | ⟨h1, h2, e⟩ | ⟨_, h2, _, e⟩ | ⟨_, _, _, e⟩
    · rw [e]; exact ⟨Int.le_refl _, by simp only [List.length_cons]; omega⟩
    · rw [e] at h; exact absurd rfl h
    · rw [e]; exact ⟨by show (1 : Int) ≤ n + 5; omega, by show n + 5 ≤ _; simp only [List.length_cons]; omega⟩
    · rw [e]; exact ⟨Int.le_refl _, by simp only [List.length_cons]; omega⟩
theorem skip_more : ∀ (l m : List Int), skipN l ≤ skipN (l ++ m) ∧ (skipN (l ++ m) = skipN l ∨ skipN l = l.length)
  | [], m => ⟨Nat.zero_le _, .inr rfl⟩
  | a :: l, m => by
    have ih := skip_more l m
    rw [List.cons_append, skipN, skipN]
    split
    · exact ⟨Nat.le_refl _, .inl rfl⟩
    · refine ⟨by omega, ?_⟩
      rcases ih.2 with h | h
      · exact .inl (by omega)
      · exact .inr (by rw [List.length_cons]; omega)
theorem next_more_skip {l : List Int} (m : List Int) (h : (nextL l).1 = 1) : (nextL (l ++ m)).1 = 1 ∧ (nextL l).2.1 ≤ (nextL (l ++ m)).2.1 ∧ ((nextL (l ++ m)).2.1 = (nextL l).2.1 ∨ (nextL l).2.1 = (l.length : Int)) := by
  rcases next_cases l with rfl | ⟨a, r, rfl, ha⟩ | rfl | ⟨v, r, rfl, hv⟩ | rfl | ⟨n, r, rfl⟩
  · exact absurd h (by decide)
  · have := skip_more (a :: r) m
    rw [List.cons_append] at this ⊢
    rw [next_skip r ha, next_skip (r ++ m) ha]
    refine ⟨rfl, ?_, ?_⟩
    · show ((skipN (a :: r) : Nat) : Int) ≤ ((skipN (a :: (r ++ m)) : Nat) : Int)
      omega
    · show ((skipN (a :: (r ++ m)) : Nat) : Int) = ((skipN (a :: r) : Nat) : Int) ∨ ((skipN (a :: r) : Nat) : Int) = _
      omega
  · exact absurd h (by decide)
  · rw [next_version r hv] at h; exact absurd h (by simp)
  · exact absurd h (by decide)
  · rw [next_tail] at h
    rcases tail_cases n r with ⟨_, e⟩ | ⟨_, _, e⟩ | ⟨_, _, _, e⟩ | ⟨_, _, _, e⟩ <;> (rw [e] at h; exact absurd h (by simp))
theorem tail_more {n : Int} {r : List Int} (hn : 0 ≤ n) (m : List Int) (h : (tailL n r).1 ≠ 0) : tailL n (r ++ m) = tailL n r := by
  obtain ⟨k, rfl⟩ := Int.eq_ofNat_of_zero_le hn
  have key : (k : Int) + 2 ≤ (r.length : Int) → (r ++ m).take k = r.take k ∧ (r ++ m).getD k 0 = r.getD k 0 ∧ (r ++ m).getD (k + 1) 0 = r.getD (k + 1) 0 := by
    intro hk
    refine ⟨List.take_append_of_le_length (by omega), ?_, ?_⟩
    · rw [List.getD_eq_getElem?_getD, List.getElem?_append_left (by omega), List.getD_eq_getElem?_getD]
    · rw [List.getD_eq_getElem?_getD, List.getElem?_append_left (by omega), List.getD_eq_getElem?_getD]
  unfold tailL at h ⊢
  rw [Int.toNat_natCast] at h ⊢
  by_cases h1 : (k : Int) > 32
  · rw [if_pos h1, if_pos h1]
  · rw [if_neg h1] at h ⊢
    rw [if_neg h1]
    by_cases h2 : (r.length : Int) < (k : Int) + 2
    · rw [if_pos h2] at h; exact absurd rfl h
    · obtain ⟨e1, e2, e3⟩ := key (by omega)
      rw [if_neg h2, if_neg (by rw [List.length_append]; omega), e1, e2, e3]
theorem next_more {l : List Int} (hb : isB l) (m : List Int) (h0 : (nextL l).1 ≠ 0) (h1 : (nextL l).1 ≠ 1) : nextL (l ++ m) = nextL l := by
  rcases next_cases l with rfl | ⟨a, r, rfl, ha⟩ | rfl | ⟨v, r, rfl, hv⟩ | rfl | ⟨n, r, rfl⟩
  · exact absurd rfl h0
  · rw [next_skip r ha] at h1; exact absurd rfl h1
  · exact absurd rfl h0
  · rw [List.cons_append, List.cons_append, next_version r hv, next_version (r ++ m) hv]
  · exact absurd rfl h0
  · have bn := isB_head (isB_tail (isB_tail hb))
    rw [next_tail] at h0
    rw [List.cons_append, List.cons_append, List.cons_append, next_tail, next_tail, tail_more bn.1 m h0]
end Go.Proofs.Ytjmpoiafcdphbab.Frame
