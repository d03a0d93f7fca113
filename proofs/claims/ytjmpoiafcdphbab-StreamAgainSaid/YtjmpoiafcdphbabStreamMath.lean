/- The items of bytes, and what is left, as a function of lists; what more bytes, and a cut, do to them. -/
import Derived.Test.YtjmpoiafcdphbabFrameMathB
namespace Go.Proofs.Ytjmpoiafcdphbab.Stream
open Go Go.RowKit Go.Proofs.Ytjmpoiafcdphbab.Crc Go.Proofs.Ytjmpoiafcdphbab.Frame
/-- An item: its error, its body. -/
abbrev It := Int × List Int
def goL : Nat → List Int → List It × List Int
  | 0, l => ([], l)
  | n + 1, l => if (nextL l).1 = 0 then ([], l) else
    if (nextL l).1 = 2 then ((0, (nextL l).2.2.2) :: (goL n (l.drop (nextL l).2.1.toNat)).1, (goL n (l.drop (nextL l).2.1.toNat)).2)
    else if (nextL l).1 = 3 then (((nextL l).2.2.1, []) :: (goL n (l.drop (nextL l).2.1.toNat)).1, (goL n (l.drop (nextL l).2.1.toNat)).2)
    else goL n (l.drop (nextL l).2.1.toNat)
/-- What one step tells. -/
def itL (l : List Int) : List It := if (nextL l).1 = 2 then [(0, (nextL l).2.2.2)] else if (nextL l).1 = 3 then [((nextL l).2.2.1, [])] else []
def dropL (l : List Int) : List Int := l.drop (nextL l).2.1.toNat
def allL (l : List Int) : List It × List Int := goL l.length l
theorem goL_wait {n : Nat} {l : List Int} (h : (nextL l).1 = 0) : goL n l = ([], l) := by
  cases n with
  | zero => rfl
  | succ n => rw [goL, if_pos h]
theorem goL_step {n : Nat} {l : List Int} (h : (nextL l).1 ≠ 0) : goL (n + 1) l = (itL l ++ (goL n (dropL l)).1, (goL n (dropL l)).2) := by
  rw [goL, if_neg h, itL]
  unfold dropL
  by_cases h2 : (nextL l).1 = 2
  · rw [if_pos h2, if_pos h2]; rfl
  · rw [if_neg h2, if_neg h2]
    by_cases h3 : (nextL l).1 = 3
    · rw [if_pos h3, if_pos h3]; rfl
    · rw [if_neg h3, if_neg h3]; rfl
theorem isB_drop {l : List Int} (h : isB l) (n : Nat) : isB (l.drop n) := fun x hx => h x (List.mem_of_mem_drop hx)
theorem drop_lt {l : List Int} (hb : isB l) (h : (nextL l).1 ≠ 0) : (dropL l).length < l.length := by
  have := next_size hb h
  unfold dropL
  rw [List.length_drop]
  omega
theorem goL_fuel : ∀ (d : Nat) (l : List Int), l.length ≤ d → isB l → ∀ n, l.length ≤ n → goL n l = goL l.length l
  | 0, l, hd, _, n, _ => by
    obtain rfl : l = [] := List.length_eq_zero_iff.1 (by omega)
    rw [goL_wait (by rfl), goL_wait (by rfl)]
  | d + 1, l, hd, hb, n, hn => by
    by_cases h : (nextL l).1 = 0
    · rw [goL_wait h, goL_wait h]
    · have hlt := drop_lt hb h
      obtain ⟨m, hm⟩ : ∃ m, l.length = m + 1 := ⟨l.length - 1, by omega⟩
      obtain ⟨k, rfl⟩ : ∃ k, n = k + 1 := ⟨n - 1, by omega⟩
      have hb' : isB (dropL l) := isB_drop hb _
      rw [hm, goL_step h, goL_step h, goL_fuel d (dropL l) (by omega) hb' k (by omega), goL_fuel d (dropL l) (by omega) hb' m (by omega)]
theorem all_wait {l : List Int} (h : (nextL l).1 = 0) : allL l = ([], l) := goL_wait h
theorem all_step {l : List Int} (hb : isB l) (h : (nextL l).1 ≠ 0) : allL l = (itL l ++ (allL (dropL l)).1, (allL (dropL l)).2) := by
  have hlt := drop_lt hb h
  obtain ⟨m, hm⟩ : ∃ m, l.length = m + 1 := ⟨l.length - 1, by omega⟩
  unfold allL
  rw [hm, goL_step h, goL_fuel m (dropL l) (by omega) (isB_drop hb _) m (by omega)]
/-- Induction along the items. -/
theorem all_ind {P : List Int → Prop} (hw : ∀ l, isB l → (nextL l).1 = 0 → P l) (hs : ∀ l, isB l → (nextL l).1 ≠ 0 → P (dropL l) → P l) : ∀ (d : Nat) (l : List Int), l.length ≤ d → isB l → P l
  | 0, l, hd, hb => by
    obtain rfl : l = [] := List.length_eq_zero_iff.1 (by omega)
    exact hw [] hb rfl
  | d + 1, l, hd, hb => by
    by_cases h : (nextL l).1 = 0
    · exact hw l hb h
    · exact hs l hb h (all_ind hw hs d (dropL l) (by have := drop_lt hb h; omega) (isB_drop hb _))
theorem along {P : List Int → Prop} (hw : ∀ l, isB l → (nextL l).1 = 0 → P l) (hs : ∀ l, isB l → (nextL l).1 ≠ 0 → P (dropL l) → P l) {l : List Int} (hb : isB l) : P l := all_ind hw hs l.length l (Nat.le_refl _) hb
theorem rest_waits {l : List Int} (hb : isB l) : (nextL (allL l).2).1 = 0 :=
  along (P := fun l => (nextL (allL l).2).1 = 0) (fun l _ h => by rw [all_wait h]; exact h) (fun l hb h ih => by rw [all_step hb h]; exact ih) hb
theorem rest_drop {l : List Int} (hb : isB l) : ∃ k, k ≤ l.length ∧ (allL l).2 = l.drop k :=
  along (P := fun l => ∃ k, k ≤ l.length ∧ (allL l).2 = l.drop k) (fun l _ h => ⟨0, Nat.zero_le _, by rw [all_wait h, List.drop_zero]⟩)
    (fun l hb h ih => by
      obtain ⟨k, hk, e⟩ := ih
      have hs := next_size hb h
      unfold dropL at hk e
      rw [List.length_drop] at hk
      refine ⟨(nextL l).2.1.toNat + k, by omega, ?_⟩
      rw [all_step hb h]
      unfold dropL
      rw [e, List.drop_drop]) hb
theorem rest_small {l : List Int} (hb : isB l) : (allL l).2.length < 37 := (next_wait (rest_waits hb)).2
theorem rest_le {l : List Int} (hb : isB l) : (allL l).2.length ≤ l.length := by
  obtain ⟨k, hk, e⟩ := rest_drop hb
  rw [e, List.length_drop]
  omega
theorem rest_is {l : List Int} (hb : isB l) : (allL l).2 = l.drop (l.length - (allL l).2.length) := by
  obtain ⟨k, hk, e⟩ := rest_drop hb
  have : (allL l).2.length = l.length - k := by rw [e, List.length_drop]
  rw [this, show l.length - (l.length - k) = k by omega]
  exact e
theorem rest_isB {l : List Int} (hb : isB l) : isB (allL l).2 := by
  obtain ⟨k, hk, e⟩ := rest_drop hb
  rw [e]
  exact isB_drop hb k
/-- What waits begins with a mark, if it is not nothing. -/
theorem wait_mark {l : List Int} (h : (nextL l).1 = 0) : l = [] ∨ ∃ r, l = 165 :: r := by
  match l with
  | [] => exact .inl rfl
  | a :: r =>
    by_cases ha : a = 165
    · exact .inr ⟨r, by rw [ha]⟩
    · rw [next_skip r ha] at h; exact absurd h (by simp)
/-- Bytes without a mark ahead are nothing. -/
theorem all_skip_one {a : Int} {l : List Int} (hb : isB (a :: l)) (ha : a ≠ 165) : allL (a :: l) = allL l := by
  have h0 : (nextL (a :: l)).1 ≠ 0 := by rw [next_skip l ha]; simp
  have e1 : itL (a :: l) = [] := by rw [itL, next_skip l ha]; rfl
  have e2 : dropL (a :: l) = l.drop (skipN l) := by
    unfold dropL
    rw [next_skip l ha]
    show (a :: l).drop (((skipN (a :: l) : Nat) : Int)).toNat = _
    rw [Int.toNat_natCast, skipN, if_neg ha, List.drop_succ_cons]
  rw [all_step hb h0, e1, e2, List.nil_append]
  match l with
  | [] => rfl
  | b :: r =>
    by_cases h : b = 165
    · rw [skipN, if_pos h, List.drop_zero]
    · have h0 : (nextL (b :: r)).1 ≠ 0 := by rw [next_skip r h]; simp
      have e1 : itL (b :: r) = [] := by rw [itL, next_skip r h]; rfl
      have e2 : dropL (b :: r) = (b :: r).drop (skipN (b :: r)) := by
        unfold dropL
        rw [next_skip r h]
        show (b :: r).drop (((skipN (b :: r) : Nat) : Int)).toNat = _
        rw [Int.toNat_natCast]
      rw [all_step (isB_tail hb) h0, e1, e2, List.nil_append]
theorem all_calm : ∀ {c : List Int} {l : List Int}, isB (c ++ l) → (∀ x ∈ c, x ≠ 165) → allL (c ++ l) = allL l
  | [], l, _, _ => rfl
  | a :: c, l, hb, hc => by
    have hb' : isB (a :: (c ++ l)) := hb
    rw [List.cons_append, all_skip_one hb' (hc a List.mem_cons_self)]
    exact all_calm (isB_tail hb') (fun x hx => hc x (List.mem_cons_of_mem _ hx))
theorem skip_all : ∀ {l : List Int}, skipN l = l.length → ∀ x ∈ l, x ≠ 165
  | [], _ => fun x hx => by cases hx
  | a :: l, h => by
    rw [skipN] at h
    by_cases ha : a = 165
    · rw [if_pos ha] at h; simp at h
    · rw [if_neg ha] at h
      intro x hx
      rcases List.mem_cons.1 hx with rfl | hx
      · exact ha
      · exact skip_all (by rw [List.length_cons] at h; omega) x hx
theorem isB_append {a b : List Int} (ha : isB a) (hb : isB b) : isB (a ++ b) := fun z hz => (List.mem_append.1 hz).elim (ha z) (hb z)
theorem kinds (l : List Int) : (nextL l).1 = 0 ∨ (nextL l).1 = 1 ∨ (nextL l).1 = 2 ∨ (nextL l).1 = 3 := by
  rcases next_cases l with rfl | ⟨a, r, rfl, ha⟩ | rfl | ⟨v, r, rfl, hv⟩ | rfl | ⟨n, r, rfl⟩
  · exact .inl rfl
  · rw [next_skip r ha]; exact .inr (.inl rfl)
  · exact .inl rfl
  · rw [next_version r hv]; exact .inr (.inr (.inr rfl))
  · exact .inl rfl
  · rw [next_tail]
    rcases tail_cases n r with ⟨_, e⟩ | ⟨_, _, e⟩ | ⟨_, _, _, e⟩ | ⟨_, _, _, e⟩ <;> rw [e] <;> simp
theorem skip_form {l : List Int} (h : (nextL l).1 = 1) : (nextL l).2.1 = ((skipN l : Nat) : Int) ∧ itL l = [] ∧ dropL l = l.drop (skipN l) := by
  rcases next_cases l with rfl | ⟨a, r, rfl, ha⟩ | rfl | ⟨v, r, rfl, hv⟩ | rfl | ⟨n, r, rfl⟩
  · exact absurd h (by decide)
  · unfold itL dropL
    rw [next_skip r ha]
    exact ⟨rfl, rfl, by rw [Int.toNat_natCast]⟩
  · exact absurd h (by decide)
  · rw [next_version r hv] at h; exact absurd h (by simp)
  · exact absurd h (by decide)
  · rw [next_tail] at h
    rcases tail_cases n r with ⟨_, e⟩ | ⟨_, _, e⟩ | ⟨_, _, _, e⟩ | ⟨_, _, _, e⟩ <;> (rw [e] at h; exact absurd h (by simp))
/-- A cut changes nothing: the items of what came first, then those of what was left with what came then. -/
theorem all_append {a b : List Int} (ha : isB a) (hb : isB b) : allL (a ++ b) = ((allL a).1 ++ (allL ((allL a).2 ++ b)).1, (allL ((allL a).2 ++ b)).2) :=
  along (P := fun a => allL (a ++ b) = ((allL a).1 ++ (allL ((allL a).2 ++ b)).1, (allL ((allL a).2 ++ b)).2))
    (fun l _ h => by rw [all_wait h]; rfl)
    (fun l hl h ih => by
      have hlb := isB_append hl hb
      have hs := next_size hl h
      by_cases h1 : (nextL l).1 = 1
      · obtain ⟨e1, e2, e3⟩ := skip_form h1
        have hk : skipN l ≤ l.length := skip_le l
        have hc : ∀ x ∈ l.take (skipN l), x ≠ 165 := by
          have key : ∀ l : List Int, ∀ x ∈ l.take (skipN l), x ≠ 165 := by
            intro l
            induction l with
            | nil => intro x hx; simp at hx
            | cons a l ih =>
              intro x hx
              rw [skipN] at hx
              by_cases ha : a = 165
              · rw [if_pos ha] at hx; simp at hx
              · rw [if_neg ha, List.take_succ_cons] at hx
                rcases List.mem_cons.1 hx with rfl | hx
                · exact ha
                · exact ih x hx
          exact key l
        have e4 : l ++ b = l.take (skipN l) ++ (l.drop (skipN l) ++ b) := by rw [← List.append_assoc, List.take_append_drop]
        have e5 : allL (l ++ b) = allL (dropL l ++ b) := by
          rw [e4] at hlb ⊢
          rw [all_calm hlb hc, e3]
        rw [e5, all_step hl h, e2]
        exact ih
      · have e1 := next_more hl b h h1
        have e2 : itL (l ++ b) = itL l := by unfold itL; rw [e1]
        have e3 : dropL (l ++ b) = dropL l ++ b := by
          unfold dropL
          rw [e1, List.drop_append_of_le_length (by omega)]
        rw [all_step hlb (by rw [e1]; exact h), e2, e3, ih, all_step hl h]
        simp only [List.append_assoc]) ha
end Go.Proofs.Ytjmpoiafcdphbab.Stream
