/- NumComes: what goes toward something by steps comes there and stays, each step nearer and none beyond; for every two integers and every byte. -/
import Derived.Test.YtkglnkfoeedmoaaPNumComesx2
import Derived.OpenShut
namespace Go.Proofs.Ytkglnkfoeedmoaa.Pure
open Go.RowKit Go.Proofs.Ytkglnkfoeedmoaa.PNumComes Go.Proofs.YtkglnkfoeedmoaaW.PrintWords Go.Proofs.YtkglnkfoeedmoaaW.PrintLast Go.Proofs.YtkglnkfoeedmoaaW.PrintMore

namespace NumComesAux
def tow (a b c : Int) : Int := if c < 1 then a else if a < b ∧ c < b - a then a + c else if b < a ∧ c < a - b then a - c else b

theorem toward_eq (k : Nat) (a b c : Int) (ha : -9223372036854775808 ≤ a ∧ a ≤ 9223372036854775807) (hb : -9223372036854775808 ≤ b ∧ b ≤ 9223372036854775807) (hc : -9223372036854775808 ≤ c ∧ c ≤ 9223372036854775807) :
    num_Toward.f (k + 1) a b c = some (tow a b c) := by
  unfold num_Toward.f tow
  by_cases h1 : c < 1
  · rw [if_pos h1, if_pos h1]
  · rw [if_neg h1, if_neg h1]
    simp only [num_Toward.j0, IntKind.wrap_u64, wrap64]
    by_cases h2 : b > a
    · rw [if_pos h2]
      by_cases h3 : (b % 18446744073709551616 - a % 18446744073709551616) % 18446744073709551616 > c % 18446744073709551616
      · rw [if_pos (by simpa using h3), if_pos ⟨by omega, by omega⟩]
        congr 1; omega
      · rw [if_neg (by simpa using h3), if_neg (by omega), if_neg (by omega), if_neg (by omega)]
    · rw [if_neg h2, if_neg (by simp), if_neg (c := a < b ∧ c < b - a) (by omega)]
      by_cases h4 : b < a
      · rw [if_pos h4]
        by_cases h3 : (a % 18446744073709551616 - b % 18446744073709551616) % 18446744073709551616 > c % 18446744073709551616
        · rw [if_pos h3, if_pos ⟨by omega, by omega⟩]
          congr 1; omega
        · rw [if_neg h3, if_neg (by omega)]
      · rw [if_neg h4, if_neg (by omega)]

theorem shown_eq : sidesticklaw01_shown.f 5 = some true := by decide +kernel

theorem ends (a b : Int) (c : Int) (ha : -9223372036854775808 ≤ a ∧ a ≤ 9223372036854775807) (hb : -9223372036854775808 ≤ b ∧ b ≤ 9223372036854775807) (hc : 1 ≤ c ∧ c ≤ 64) (d : Nat) :
    ∀ (k : Nat) (n t x : Int), -1000 < n → n < 1000 → -1000 < t → t < 1000 → n - t ≤ d → t - n ≤ d → 0 ≤ x → x + d ≤ 1999 → 2 * d + 10 < k →
      sidesticklaw01_NumComes.l0 k a b true n t c x = some true := by
  induction d with
  | zero =>
    intro k n t x h1 h2 h3 h4 h5 h6 h7 h8 hk
    obtain ⟨k, rfl⟩ : ∃ q, k = q + 3 := ⟨k - 3, by omega⟩
    obtain rfl : n = t := by omega
    simp only [sidesticklaw01_NumComes.l0, sidesticklaw01_NumComes.j1, if_true, Bool.false_eq_true, if_false]
    rw [toward_eq _ _ _ _ (by omega) (by omega) (by omega), toward_eq _ _ _ _ (by omega) (by omega) (by omega), toward_eq _ _ _ _ ha hb (by unfold wrap64; omega)]
    simp only [Option.bind_some]
    have e1 : tow n n c = n := by unfold tow; rw [if_neg (by omega), if_neg (by omega), if_neg (by omega)]
    have e2 : tow n n 0 = n := by unfold tow; rw [if_pos (by omega)]
    have e3 : tow a b (wrap64 (-c)) = a := by unfold tow; rw [if_pos (by unfold wrap64; omega)]
    rw [e1, e2, e3, if_pos rfl, if_pos rfl]
    simp
  | succ d ih =>
    intro k n t x h1 h2 h3 h4 h5 h6 h7 h8 hk
    by_cases hnt : n = t
    · exact ih k n t x h1 h2 h3 h4 (by omega) (by omega) h7 (by omega) (by omega)
    · obtain ⟨k, rfl⟩ : ∃ q, k = q + 3 := ⟨k - 3, by omega⟩
      simp only [sidesticklaw01_NumComes.l0]
      rw [if_neg hnt, decide_eq_true (by omega : x < 2100)]
      simp only [sidesticklaw01_NumComes.j1, if_true]
      rw [toward_eq _ _ _ _ (by omega) (by omega) (by omega)]
      simp only [Option.bind_some]
      have hw : wrap64 (x + 1) = x + 1 := by unfold wrap64; omega
      rw [hw]
      have hm : (n < t → n < tow n t c ∧ tow n t c ≤ t ∧ tow n t c - n ≤ c) ∧ (t < n → tow n t c < n ∧ t ≤ tow n t c ∧ n - tow n t c ≤ c) := by
        unfold tow
        rw [if_neg (by omega)]
        by_cases c1 : n < t ∧ c < t - n
        · rw [if_pos c1]; omega
        · rw [if_neg c1]
          by_cases c2 : t < n ∧ c < n - t
          · rw [if_pos c2]; omega
          · rw [if_neg c2]; omega
      generalize tow n t c = m at *
      have w1 : wrap64 (m - n) = m - n := by unfold wrap64; omega
      have w2 : wrap64 (n - m) = n - m := by unfold wrap64; omega
      rw [w1, w2]
      rw [if_pos (by omega)]
      have hgo := ih (k + 1) m t (x + 1) (by omega) (by omega) (by omega) (by omega) (by omega) (by omega) (by omega) (by omega) (by omega)
      by_cases c1 : n < t
      · rw [if_pos c1, if_pos (by omega), if_pos (by omega), if_pos (by omega)]; exact hgo
      · rw [if_neg c1, if_pos (by omega), if_pos (by omega), if_pos (by omega), if_pos (by omega)]; exact hgo
end NumComesAux
open NumComesAux
theorem NumComes : sidesticklaw01_NumComes.Pure := by
  intro a0 a1 a2 h0 h1 h2
  have b0 := bounds_i64 h0
  have b1 := bounds_i64 h1
  have b2 := bounds_u8 h2
  refine ⟨5000, ?_⟩
  unfold sidesticklaw01_NumComes.f
  rw [at_rounds (g := fun k => sidesticklaw01_shown.f k) (fun k => sidesticklaw01_shown.mono k) (by omega : 5 ≤ 5000) shown_eq]
  simp only [Option.bind_some]
  have t0 : -1000 < Int.tmod a0 1000 ∧ Int.tmod a0 1000 < 1000 := ⟨Int.lt_tmod_of_pos a0 (by decide), Int.tmod_lt_of_pos a0 (by decide)⟩
  have t1 : -1000 < Int.tmod a1 1000 ∧ Int.tmod a1 1000 < 1000 := ⟨Int.lt_tmod_of_pos a1 (by decide), Int.tmod_lt_of_pos a1 (by decide)⟩
  generalize Int.tmod a0 1000 = n at *
  generalize Int.tmod a1 1000 = t at *
  have e : wrap64 a2 = a2 := by unfold wrap64; omega
  rw [e, Int.tmod_eq_emod_of_nonneg b2.1]
  have e2 : wrap64 (1 + a2 % 64) = 1 + a2 % 64 := by unfold wrap64; omega
  rw [e2]
  exact ends a0 a1 _ b0 b1 (by omega) 1998 5000 n t 0 (by omega) (by omega) (by omega) (by omega) (by omega) (by omega) (by omega) (by omega) (by omega)
end Go.Proofs.Ytkglnkfoeedmoaa.Pure
