/- CrcPairs: two bytes changed about. -/
import Derived.Test.YtjmpoiafcdphbaaCrcTellCrcPairs
import Derived.Test.YtjmpoiafcdphbaaCrcMathB
namespace Go.Proofs.Ytjmpoiafcdphbaa.Pure
set_option linter.unnecessarySimpa false
open Go.RowKit Go.Proofs.Ytjmpoiafcdphbaa.Crc Go.Proofs.Ytjmpoiafcdphbaa.PCrcPairs Go.Proofs.Ytjmpoiafcdphbaa.TellCrcPairs Go.Proofs.YtjmpoiafcdphbaaW.PrintWords Go.Proofs.YtjmpoiafcdphbaaW.PrintLast
theorem split2 : ∀ {l : List Int} {k : Nat}, k + 1 < l.length → ∃ p x y q, l = p ++ x :: y :: q ∧ p.length = k
  | x :: y :: q, 0, _ => ⟨[], x, y, q, rfl, rfl⟩
  | a :: l, k + 1, h => by
    obtain ⟨p, x, y, q, e, hp⟩ := split2 (l := l) (k := k) (by simp at h; omega)
    exact ⟨a :: p, x, y, q, by rw [e]; rfl, by simp [hp]⟩
  | [], _, h => by simp at h
  | [_], 0, h => by simp at h
theorem set_at (p : List Int) (x v : Int) (q : List Int) : (p ++ x :: q).set p.length v = p ++ v :: q := by
  rw [List.set_append_right _ _ (Nat.le_refl _), Nat.sub_self]; rfl
theorem rd_at (p : List Int) (x : Int) (q : List Int) : rd (p ++ x :: q) ((p.length : Nat) : Int) = x := by
  unfold rd
  simp [List.getD_eq_getElem?_getD]
theorem pairs_list {l : List Int} (hb : isBytes l) {k : Nat} (hk : k + 1 < l.length) :
    isBytes ((l.set k (rd l ((k + 1 : Nat) : Int))).set (k + 1) (rd l (k : Int))) ∧
    ((sumI ((l.set k (rd l ((k + 1 : Nat) : Int))).set (k + 1) (rd l (k : Int))) == sumI l) == (rd ((l.set k (rd l ((k + 1 : Nat) : Int))).set (k + 1) (rd l (k : Int))) (k : Int) == rd l (k : Int))) = true := by
  obtain ⟨p, x, y, q, rfl, rfl⟩ := split2 hk
  have e1 : p ++ x :: y :: q = (p ++ [x]) ++ y :: q := by simp
  have r1 : rd (p ++ x :: y :: q) ((p.length + 1 : Nat) : Int) = y := by
    have := rd_at (p ++ [x]) y q
    rw [← e1] at this
    simpa using this
  have e2 : p ++ y :: y :: q = (p ++ [y]) ++ y :: q := by simp
  have s2 : (p ++ y :: y :: q).set (p.length + 1) x = p ++ y :: x :: q := by
    have := set_at (p ++ [y]) y x q
    rw [← e2] at this
    simpa using this
  rw [r1, rd_at, set_at, s2, rd_at]
  have hx : 0 ≤ x ∧ x ≤ 255 := hb x (by simp)
  have hy : 0 ≤ y ∧ y ≤ 255 := hb y (by simp)
  refine ⟨fun z hz => hb z ?_, ?_⟩
  · simp only [List.mem_append, List.mem_cons] at hz ⊢
    rcases hz with h | h | h | h
    · exact .inl h
    · exact .inr (.inr (.inl h))
    · exact .inr (.inl h)
    · exact .inr (.inr (.inr h))
  · by_cases hxy : x = y
    · subst hxy; simp
    · have h1 : sumI (p ++ y :: x :: q) ≠ sumI (p ++ x :: y :: q) := fun h => hxy (swap_sum hx hy (sumI_inj h))
      have h2 : y ≠ x := fun h => hxy h.symm
      rw [beq_eq_false_iff_ne.2 h1, beq_eq_false_iff_ne.2 h2]
      rfl
theorem CrcPairs : sidesticklaw03_CrcPairs.Pure := by
  intro l0 a1 _ _ hl h1
  have hb := few_bytes (bytes_of hl)
  have hn := few_length l0
  have ha := u16_of h1
  refine ⟨400, ?_⟩
  unfold sidesticklaw03_CrcPairs.f
  rw [shown_is (by omega), Option.bind_some, Option.bind_some, few_is, Option.bind_some]
  generalize TellCrcPairs.fewL l0 = l at *
  rw [if_pos (by simp; omega), Option.bind_some, List.nil_append]
  by_cases h2 : (l.length : Int) < 2
  · rw [if_pos h2]
  · have ew : wrap64 ((l.length : Int) - 1) = (l.length : Int) - 1 := wrap64_small (by omega) (by omega)
    have ea : wrap64 a1 = a1 := wrap64_small (by omega) (by omega)
    have em : Int.tmod a1 ((l.length : Int) - 1) = a1 % ((l.length : Int) - 1) := Int.tmod_eq_emod_of_nonneg ha.1
    have m0 := Int.emod_nonneg a1 (show (l.length : Int) - 1 ≠ 0 by omega)
    have m1 := Int.emod_lt_of_pos a1 (show 0 < (l.length : Int) - 1 by omega)
    rw [if_neg h2, sum_is hb (by omega) (by omega), Option.bind_some, ew, ea, em, if_neg (by omega), if_pos m0, if_pos (by omega)]
    obtain ⟨k, hk⟩ := Int.eq_ofNat_of_zero_le m0
    rw [hk] at m1 ⊢
    have ek : wrap64 ((k : Int) + 1) = ((k + 1 : Nat) : Int) := by rw [wrap64_small (by omega) (by omega)]; omega
    rw [ek, if_pos (by omega), if_pos (by omega), Option.bind_some, if_pos rfl, Int.toNat_natCast, Int.toNat_natCast]
    obtain ⟨g1, g2⟩ := pairs_list hb (k := k) (by omega)
    rw [sum_is g1 (by simp; omega) (by simp; omega), Option.bind_some, g2]
end Go.Proofs.Ytjmpoiafcdphbaa.Pure
