/- What Fit makes of a policy: its sources stand as they may; its other cells lie within bounds. -/
import Derived.Test.YtkglnkfoeedmoabFit
import Derived.Test.YtkglnkfoeedmoabSx18
namespace Go.Proofs.Ytkglnkfoeedmoab.Fit
open Go.RowKit Go.Proofs.YtkglnkfoeedmoabSx
set_option linter.unusedVariables false
set_option linter.unusedSimpArgs false
def perms : List (Int × Int × Int) := [(1, 2, 3), (1, 3, 2), (2, 1, 3), (2, 3, 1), (3, 1, 2), (3, 2, 1)]
theorem mod_is (x m b : Int) (hm : 0 < m) (hm' : m < 2000) (hb : 0 ≤ b) (hb' : b < 2000) : ∃ k, IntKind.i64.wrap (b + (IntKind.i64.wrap (x.tmod m + m)).tmod m) = b + k ∧ 0 ≤ k ∧ k < m := by
  have h := tmod_bounds x m hm
  have e1 : IntKind.i64.wrap (x.tmod m + m) = x.tmod m + m := by rw [IntKind.wrap_i64]; omega
  rw [e1]
  have h2 := tmod_bounds (x.tmod m + m) m hm
  have h3 : 0 ≤ (x.tmod m + m).tmod m := by rw [tmod_nonneg _ _ (by omega)]; exact Int.emod_nonneg _ (by omega)
  have e2 : IntKind.i64.wrap (b + (x.tmod m + m).tmod m) = b + (x.tmod m + m).tmod m := by rw [IntKind.wrap_i64]; omega
  rw [e2]
  exact ⟨_, rfl, h3, h2.2⟩
theorem order {ι : Env} (hs : Stands 200 56 fitCells ι) : ι.int 200 = 0 ∧ ι.int 204 = 4 ∧ (ι.int 201, ι.int 202, ι.int 203) ∈ perms := by
  have h0 := (hs 0).1 .i64 _ rfl rfl
  have h1 := (hs 1).1 .i64 _ rfl rfl
  have h2 := (hs 2).1 .i64 _ rfl rfl
  have h3 := (hs 3).1 .i64 _ rfl rfl
  have h4 := (hs 4).1 .i64 _ rfl rfl
  obtain ⟨a, e1, a1, a2⟩ := mod_is (ι.int 1) 3 1 (by decide) (by decide) (by decide) (by decide)
  obtain ⟨b, e2, b1, b2⟩ := mod_is (ι.int 2) 2 2 (by decide) (by decide) (by decide) (by decide)
  simp only [e_ite, b_eq, e_lit, e_add, e_rem, e_var, e1, e2, Nat.add_zero] at h0 h1 h2 h3 h4
  simp only [Nat.reduceAdd] at h1 h2 h3 h4
  have ha : a = 0 ∨ a = 1 ∨ a = 2 := by omega
  have hb : b = 0 ∨ b = 1 := by omega
  rw [h0, h1, h2, h3, h4]
  rcases ha with rfl | rfl | rfl <;> rcases hb with rfl | rfl <;> decide
end Go.Proofs.Ytkglnkfoeedmoab.Fit
