/- NumMirrors: going toward something and being within bounds turn about with their signs; for every three integers. -/
import Derived.Test.YtkglnkfoeedmoaaPNumMirrorsx1
namespace Go.Proofs.Ytkglnkfoeedmoaa.Pure
open Go.RowKit Go.Proofs.Ytkglnkfoeedmoaa.PNumMirrors Go.Proofs.YtkglnkfoeedmoaaW.PrintWords Go.Proofs.YtkglnkfoeedmoaaW.PrintLast Go.Proofs.YtkglnkfoeedmoaaW.PrintMore

def tow (a b c : Int) : Int := if c < 1 then a else if a < b ∧ c < b - a then a + c else if b < a ∧ c < a - b then a - c else b

theorem toward_eq (k : Nat) (a b c : Int) (ha : -9223372036854775808 ≤ a ∧ a ≤ 9223372036854775807) (hb : -9223372036854775808 ≤ b ∧ b ≤ 9223372036854775807) (hc : -9223372036854775808 ≤ c ∧ c ≤ 9223372036854775807) :
    num_Toward.f (k + 1) a b c = some (tow a b c) := by
  unfold num_Toward.f tow
  by_cases h1 : c < 1
  · rw [if_pos h1, if_pos h1]
  · rw [if_neg h1, if_neg h1]
    simp only [num_Toward.j0, IntKind.wrap_u64, wrap64]
    by_cases h2 : b > a
    · rw [if_pos h2]
      by_cases h3 : (b % 18446744073709551616 - a % 18446744073709551616) % 18446744073709551616 > c % 18446744073709551616
      · rw [if_pos (by simpa using h3), if_pos ⟨by omega, by omega⟩]
        congr 1; omega
      · rw [if_neg (by simpa using h3), if_neg (by omega), if_neg (by omega), if_neg (by omega)]
    · rw [if_neg h2, if_neg (by simp), if_neg (c := a < b ∧ c < b - a) (by omega)]
      by_cases h4 : b < a
      · rw [if_pos h4]
        by_cases h3 : (a % 18446744073709551616 - b % 18446744073709551616) % 18446744073709551616 > c % 18446744073709551616
        · rw [if_pos h3, if_pos ⟨by omega, by omega⟩]
          congr 1; omega
        · rw [if_neg h3, if_neg (by omega)]
      · rw [if_neg h4, if_neg (by omega)]

theorem shown_eq (k : Nat) : sidesticklaw01_shown.f (k + 1) = some true := by
  unfold sidesticklaw01_shown.f
  rw [toward_eq _ _ _ _ (by omega) (by omega) (by omega), toward_eq _ _ _ _ (by omega) (by omega) (by omega)]
  decide +kernel

theorem tow_neg (x y c : Int) : tow (-x) (-y) c = - tow x y c := by
  unfold tow
  repeat' split
  all_goals omega
theorem tow_bd (x y c : Int) (ha : -9223372036854775807 ≤ x ∧ x ≤ 9223372036854775807) (hb : -9223372036854775807 ≤ y ∧ y ≤ 9223372036854775807) : -9223372036854775807 ≤ tow x y c ∧ tow x y c ≤ 9223372036854775807 := by
  unfold tow
  repeat' split
  all_goals omega
def cl (a b c : Int) : Int := if a < b then b else if a > c then c else a
theorem clamp_eq (a b c : Int) : num_Clamp.f a b c = some (cl a b c) := by
  unfold num_Clamp.f cl
  repeat' split
  all_goals rfl
theorem wrap_neg (x : Int) (ha : -9223372036854775807 ≤ x ∧ x ≤ 9223372036854775807) : wrap64 (-x) = -x := by unfold wrap64; omega
theorem mx_bd (a : Int) (ha : -9223372036854775808 ≤ a ∧ a ≤ 9223372036854775807) : -9223372036854775807 ≤ mx a (-9223372036854775807) ∧ mx a (-9223372036854775807) ≤ 9223372036854775807 := by
  unfold mx; split <;> omega

theorem NumMirrors : sidesticklaw01_NumMirrors.Pure := by
  intro a0 a1 a2 h0 h1 h2
  have b0 : -9223372036854775808 ≤ a0 ∧ a0 ≤ 9223372036854775807 := by have := h0; simp [Lit.wf, IntKind.min, IntKind.max, IntKind.bits, IntKind.signed] at this; omega
  have b1 : -9223372036854775808 ≤ a1 ∧ a1 ≤ 9223372036854775807 := by have := h1; simp [Lit.wf, IntKind.min, IntKind.max, IntKind.bits, IntKind.signed] at this; omega
  have b2 : -9223372036854775808 ≤ a2 ∧ a2 ≤ 9223372036854775807 := by have := h2; simp [Lit.wf, IntKind.min, IntKind.max, IntKind.bits, IntKind.signed] at this; omega
  refine ⟨1, ?_⟩
  unfold sidesticklaw01_NumMirrors.f
  have x := mx_bd a0 b0
  have y := mx_bd a1 b1
  have z := mx_bd a2 b2
  generalize mx a0 (-9223372036854775807) = x0 at *
  generalize mx a1 (-9223372036854775807) = y0 at *
  generalize mx a2 (-9223372036854775807) = z0 at *
  rw [shown_eq 0]
  simp only [Option.bind_some, if_true]
  rw [wrap_neg _ x, wrap_neg _ y]
  rw [toward_eq 0 (-x0) (-y0) a2 (by omega) (by omega) (by omega), toward_eq 0 x0 y0 a2 (by omega) (by omega) (by omega)]
  simp only [Option.bind_some]
  rw [wrap_neg _ (tow_bd _ _ _ x y), if_pos (tow_neg _ _ _)]
  have mb : -9223372036854775807 ≤ mn y0 z0 ∧ mn y0 z0 ≤ 9223372036854775807 := by unfold mn; split <;> omega
  have mc : -9223372036854775807 ≤ mx y0 z0 ∧ mx y0 z0 ≤ 9223372036854775807 := by unfold mx; split <;> omega
  have mm : mn y0 z0 ≤ mx y0 z0 := by unfold mx mn; split <;> split <;> omega
  generalize mn y0 z0 = lo at *
  generalize mx y0 z0 = hi at *
  rw [wrap_neg _ mb, wrap_neg _ mc, clamp_eq, clamp_eq]
  simp only [Option.bind_some]
  have e : cl (-x0) (-hi) (-lo) = - cl x0 lo hi := by
    unfold cl
    repeat' split
    all_goals omega
  have bd : -9223372036854775807 ≤ cl x0 lo hi ∧ cl x0 lo hi ≤ 9223372036854775807 := by
    unfold cl
    repeat' split
    all_goals omega
  rw [wrap_neg _ bd, e]
  simp

end Go.Proofs.Ytkglnkfoeedmoaa.Pure
