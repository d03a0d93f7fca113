/- 'TickKeeps': by the executor's tree. -/
import Derived.Test.YtkglnkfoeedmoaaRows
import Derived.Test.YtkglnkfoeedmoaaSx15

namespace Go.Proofs.Ytkglnkfoeedmoaa.tickKeeps
open Go.ChangeShapes Go.WideShapes Go.ChangeAt Go.RowKit Go.Proofs.YtkglnkfoeedmoaaSx
set_option linter.unusedVariables false
set_option linter.unusedSimpArgs false
theorem own : ownKnob Try.prog.godebug = none := by kernel_rfl
theorem laid : laidOutB Try.prog = true := by kernel_rfl
theorem mixed : Try.prog.follows .mixedOrders = true := by kernel_rfl
noncomputable def cx : Ctx := { P := Try.prog, ro := 0, glob := [] }
def svs : List SV := [.agg [.int .i64 (.var 0), .int .i64 (.var 1)]]
def ks : List CK := [.int .i64, .int .i64]
def tree : T SV :=
(.br
 (.not (.beq (.le (.var 1) (.var 0)) (.le (.var 1) (.var 0))))
 (.leaf (.bool (.lit .false)))
 (.br
 (.le (.var 1) (.var 0))
 (.br
 (.le (.var 1) (.ite (.le (.var 1) (.var 0)) (.var 1) (.bin .add .i64 (.var 0) (.lit 1))))
 (.leaf (.bool (.eq (.ite (.le (.var 1) (.var 0)) (.var 1) (.bin .add .i64 (.var 0) (.lit 1))) (.var 1))))
 (.leaf (.bool (.lit .false))))
 (.br
 (.eq (.bin .sub .i64 (.ite (.le (.var 1) (.var 0)) (.var 1) (.bin .add .i64 (.var 0) (.lit 1))) (.lit 1)) (.var 0))
 (.leaf (.bool (.beq (.le (.var 1) (.ite (.le (.var 1) (.var 0)) (.var 1) (.bin .add .i64 (.var 0) (.lit 1)))) (.eq (.ite (.le (.var 1) (.var 0)) (.var 1) (.bin .add .i64 (.var 0) (.lit 1))) (.var 1)))))
 (.leaf (.bool (.lit .false))))))
theorem ran : ((execCall 30 20 cx 4 svs [] 0 []).bind fun x => .leaf x.1) = tree := by kernel_rfl
theorem pure (ι : Env) (h0 : (Lit.int .i64 (ι.int 0)).wf = true) (h1 : (Lit.int .i64 (ι.int 1)).wf = true) : okT ι tree := by
  have h0 := bounds_i64 h0
  have h1 := bounds_i64 h1
  simp only [tree, okT, b_true, b_false, b_lt, b_le, b_eq, b_not, b_and, b_or, b_beq, e_lit, e_var, e_add, e_sub, e_ite, IntKind.wrap_i64]
  generalize ι.int 0 = x at *
  generalize ι.int 1 = y at *
  simp only [iff_self, not_true_eq_false, not_false_eq_true, false_implies, true_implies, true_and, and_true]
  repeat' (first | apply And.intro | intro _)
  all_goals omega
theorem main (W : World) (cells : List Value) (args : Array Value) (hc : AllIs ks cells) (hden : ∀ ext β, SV.denL (envOf cells ext) β svs = args.toList) : IsTrue Try.prog 4 args W := by
  obtain ⟨v, h1, h2⟩ := okT_pick (pure (envOf cells ext0) (hc.wf ext0 rfl) (hc.wf ext0 rfl))
  exact isTrue_of_pick (c := cx) (Hyp.nil mixed) (fun g cs h => (by cases h)) (hden ext0) (by rw [ran]; exact h1) h2

set_option maxRecDepth 100000 in
theorem lifted (os : Os) (started : os.Started) (H : Type) (enc : TypeId × Value → H) :
    ReturnsInHanded {} Try.checked os 4 .any (Rows.tickKeepsSpec.pre6 enc Try.prog Try.f4 Rows.tickKeepsRow.domain false) (Rows.tickKeepsSpec.post enc Try.prog Try.f4 false true false false) :=
  lifted_of (C := Try.checked) (n := 1) (svs := svs) (ks := ks) own started (by kernel_rfl) Try.func4
    (ChangeSpec.witness6 (enc := enc) (C := Try.checked) false ⟨#[], #[.agg #[.int .i64 0, .int .i64 0]], []⟩ 8 (by kernel_rfl) (by kernel_rfl) (by kernel_rfl) (by kernel_rfl))
    rfl rfl (by kernel_rfl) laid (by kernel_rfl) rfl (fun ds h => by
      match ds, h with
      | [d0], _ => exact ⟨rfl, rfl, rfl⟩)
    (by kernel_rfl) (fun W cells args ds p hc hden _ => main W cells args hc hden)
theorem over : Rows.tickKeepsRow.holds Try.pinned (OpenSpec.ofChange Rows.tickKeepsSpec) :=
  OpenClaim.holds_of_wide 4 Try.f4 rfl rfl rfl rfl rfl rfl rfl ⟨rfl, rfl, rfl, rfl, rfl⟩ rfl rfl rfl rfl rfl (by kernel_rfl) Try.func4 (by kernel_rfl)
    (of_decide_eq_true (by kernel_rfl)) (by unfold Func.isWrapper; first | (rw [if_pos (by decide +kernel)]; kernel_rfl) | (rw [if_neg (by decide +kernel)]; exact ⟨rfl, rfl⟩))
    (fun os started H enc _ => lifted os started H enc)
theorem proved : Rows.TickKeepsSaid := over
#print axioms proved
end Go.Proofs.Ytkglnkfoeedmoaa.tickKeeps
namespace Go.Proofs.Ytkglnkfoeedmoaa
/-- The row, under a short name, for the claim. -/
theorem tickKeeps_holds : Rows.TickKeepsSaid := tickKeeps.proved
end Go.Proofs.Ytkglnkfoeedmoaa
