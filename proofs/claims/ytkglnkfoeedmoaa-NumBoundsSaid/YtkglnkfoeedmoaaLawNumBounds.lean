/- 'NumBounds': by the executor's tree. -/
import Derived.Test.YtkglnkfoeedmoaaRows
import Derived.Test.YtkglnkfoeedmoaaSx15

namespace Go.Proofs.Ytkglnkfoeedmoaa.numBounds
open Go.ChangeShapes Go.WideShapes Go.ChangeAt Go.RowKit Go.Proofs.YtkglnkfoeedmoaaSx
set_option linter.unusedVariables false
set_option linter.unusedSimpArgs false
theorem own : ownKnob Try.prog.godebug = none := by kernel_rfl
theorem laid : laidOutB Try.prog = true := by kernel_rfl
theorem mixed : Try.prog.follows .mixedOrders = true := by kernel_rfl
noncomputable def cx : Ctx := { P := Try.prog, ro := 0, glob := [] }
def svs : List SV := [(.int .i64 (.var 0)), (.int .i64 (.var 1)), (.int .i64 (.var 2))]
def ks : List CK := [(.int .i64), (.int .i64), (.int .i64)]
def tree : T SV :=
(.br
 (.le (.mn (.var 1) (.var 2)) (.ite (.lt (.var 0) (.mn (.var 1) (.var 2))) (.mn (.var 1) (.var 2)) (.ite (.lt (.mx (.var 1) (.var 2)) (.var 0)) (.mx (.var 1) (.var 2)) (.var 0))))
 (.br
 (.le (.ite (.lt (.var 0) (.mn (.var 1) (.var 2))) (.mn (.var 1) (.var 2)) (.ite (.lt (.mx (.var 1) (.var 2)) (.var 0)) (.mx (.var 1) (.var 2)) (.var 0))) (.mx (.var 1) (.var 2)))
 (.br
 (.lt (.var 0) (.mn (.var 1) (.var 2)))
 (.br
 (.eq (.ite (.lt (.var 0) (.mn (.var 1) (.var 2))) (.mn (.var 1) (.var 2)) (.ite (.lt (.mx (.var 1) (.var 2)) (.var 0)) (.mx (.var 1) (.var 2)) (.var 0))) (.mn (.var 1) (.var 2)))
 (.br
 (.le (.var 0) (.mx (.var 1) (.var 2)))
 (.br
 (.le (.ite (.le (.mx (.var 1) (.var 2)) (.var 0)) (.mx (.var 1) (.var 2)) (.bin .add .i64 (.var 0) (.lit 1))) (.mx (.var 1) (.var 2)))
 (.br
 (.le (.mx (.var 1) (.var 2)) (.var 0))
 (.leaf (.bool (.eq (.mx (.var 1) (.var 2)) (.mx (.var 1) (.var 2)))))
 (.br
 (.lt (.var 0) (.ite (.le (.mx (.var 1) (.var 2)) (.var 0)) (.mx (.var 1) (.var 2)) (.bin .add .i64 (.var 0) (.lit 1))))
 (.br
 (.eq (.bin .sub .i64 (.ite (.le (.mx (.var 1) (.var 2)) (.var 0)) (.mx (.var 1) (.var 2)) (.bin .add .i64 (.var 0) (.lit 1))) (.var 0)) (.lit 1))
 (.leaf (.bool (.eq (.mx (.var 1) (.var 2)) (.mx (.var 1) (.var 2)))))
 (.leaf (.bool (.lit .false))))
 (.leaf (.bool (.lit .false)))))
 (.leaf (.bool (.lit .false))))
 (.br
 (.eq (.ite (.lt (.var 0) (.mn (.var 1) (.var 2))) (.mn (.var 1) (.var 2)) (.ite (.lt (.mx (.var 1) (.var 2)) (.var 0)) (.mx (.var 1) (.var 2)) (.var 0))) (.mx (.var 1) (.var 2)))
 (.br
 (.le (.ite (.le (.mx (.var 1) (.var 2)) (.var 0)) (.mx (.var 1) (.var 2)) (.bin .add .i64 (.var 0) (.lit 1))) (.mx (.var 1) (.var 2)))
 (.leaf (.bool (.eq (.mx (.var 1) (.var 2)) (.mx (.var 1) (.var 2)))))
 (.leaf (.bool (.lit .false))))
 (.leaf (.bool (.lit .false)))))
 (.leaf (.bool (.lit .false))))
 (.br
 (.lt (.mx (.var 1) (.var 2)) (.var 0))
 (.br
 (.eq (.ite (.lt (.var 0) (.mn (.var 1) (.var 2))) (.mn (.var 1) (.var 2)) (.ite (.lt (.mx (.var 1) (.var 2)) (.var 0)) (.mx (.var 1) (.var 2)) (.var 0))) (.mx (.var 1) (.var 2)))
 (.br
 (.le (.ite (.le (.mx (.var 1) (.var 2)) (.var 0)) (.mx (.var 1) (.var 2)) (.bin .add .i64 (.var 0) (.lit 1))) (.mx (.var 1) (.var 2)))
 (.leaf (.bool (.eq (.mx (.var 1) (.var 2)) (.mx (.var 1) (.var 2)))))
 (.leaf (.bool (.lit .false))))
 (.leaf (.bool (.lit .false))))
 (.br
 (.eq (.ite (.lt (.var 0) (.mn (.var 1) (.var 2))) (.mn (.var 1) (.var 2)) (.ite (.lt (.mx (.var 1) (.var 2)) (.var 0)) (.mx (.var 1) (.var 2)) (.var 0))) (.var 0))
 (.br
 (.le (.ite (.le (.mx (.var 1) (.var 2)) (.var 0)) (.mx (.var 1) (.var 2)) (.bin .add .i64 (.var 0) (.lit 1))) (.mx (.var 1) (.var 2)))
 (.br
 (.le (.mx (.var 1) (.var 2)) (.var 0))
 (.leaf (.bool (.eq (.mx (.var 1) (.var 2)) (.mx (.var 1) (.var 2)))))
 (.br
 (.lt (.var 0) (.ite (.le (.mx (.var 1) (.var 2)) (.var 0)) (.mx (.var 1) (.var 2)) (.bin .add .i64 (.var 0) (.lit 1))))
 (.br
 (.eq (.bin .sub .i64 (.ite (.le (.mx (.var 1) (.var 2)) (.var 0)) (.mx (.var 1) (.var 2)) (.bin .add .i64 (.var 0) (.lit 1))) (.var 0)) (.lit 1))
 (.leaf (.bool (.eq (.mx (.var 1) (.var 2)) (.mx (.var 1) (.var 2)))))
 (.leaf (.bool (.lit .false))))
 (.leaf (.bool (.lit .false)))))
 (.leaf (.bool (.lit .false))))
 (.leaf (.bool (.lit .false))))))
 (.leaf (.bool (.lit .false))))
 (.leaf (.bool (.lit .false))))
theorem ran : ((execCall 30 20 cx 11 svs [] 0 []).bind fun x => .leaf x.1) = tree := by kernel_rfl
theorem pure (ι : Env) (h0 : (Lit.int .i64 (ι.int 0)).wf = true) (h1 : (Lit.int .i64 (ι.int 1)).wf = true) (h2 : (Lit.int .i64 (ι.int 2)).wf = true) : okT ι tree := by
  have h0 := bounds_i64 h0
  have h1 := bounds_i64 h1
  have h2 := bounds_i64 h2
  obtain ⟨x0, e0⟩ : ∃ x, ι.int 0 = x := ⟨_, rfl⟩
  rw [e0] at h0
  obtain ⟨x1, e1⟩ : ∃ x, ι.int 1 = x := ⟨_, rfl⟩
  rw [e1] at h1
  obtain ⟨x2, e2⟩ : ∃ x, ι.int 2 = x := ⟨_, rfl⟩
  rw [e2] at h2
  simp only [tree, okT, b_true, b_false, b_var, b_lt, b_le, b_eq, b_not, b_and, b_or, b_beq, b_ite, e_lit, e_var, e_add, e_sub, e_mul, e_ite, e_mx, e_mn, e_wrap, IntKind.wrap_i64, e0, e1, e2]
  simp only [iff_self, not_true_eq_false, not_false_eq_true, false_implies, true_implies, implies_true, true_and, and_true]
  repeat' (first | apply And.intro | intro _)
  all_goals omega

theorem main (W : World) (cells : List Value) (args : Array Value) (hc : AllIs ks cells) (hden : ∀ ext β, SV.denL (envOf cells ext) β svs = args.toList) : IsTrue Try.prog 11 args W := by
  obtain ⟨v, h1, h2⟩ := okT_pick (pure (envOf cells ext0) (hc.wf ext0 rfl) (hc.wf ext0 rfl) (hc.wf ext0 rfl))
  exact isTrue_of_pick (c := cx) (Hyp.nil mixed) (fun g cs h => (by cases h)) (hden ext0) (by rw [ran]; exact h1) h2

set_option maxRecDepth 100000 in
theorem lifted (os : Os) (started : os.Started) (H : Type) (enc : TypeId × Value → H) :
    ReturnsInHanded {} Try.checked os 11 .any (Rows.numBoundsSpec.pre6 enc Try.prog Try.f11 Rows.numBoundsRow.domain false) (Rows.numBoundsSpec.post enc Try.prog Try.f11 false true false false) :=
  lifted_of (C := Try.checked) (n := 3) (svs := svs) (ks := ks) own started (by kernel_rfl) Try.func11
    (ChangeSpec.witness6 (enc := enc) (C := Try.checked) false ⟨#[], #[.int .i64 0, .int .i64 0, .int .i64 0], []⟩ 8 (by kernel_rfl) (by kernel_rfl) (by kernel_rfl) (by kernel_rfl))
    rfl rfl (by kernel_rfl) laid (by kernel_rfl) rfl (fun ds h => by
      match ds, h with
      | [d0, d1, d2], _ => exact ⟨rfl, rfl, rfl⟩)
    (by kernel_rfl) (fun W cells args ds p hc hden _ => main W cells args hc hden)
theorem over : Rows.numBoundsRow.holds Try.pinned (OpenSpec.ofChange Rows.numBoundsSpec) :=
  OpenClaim.holds_of_wide 11 Try.f11 rfl rfl rfl rfl rfl rfl rfl ⟨rfl, rfl, rfl, rfl, rfl⟩ rfl rfl rfl rfl rfl (by kernel_rfl) Try.func11 (by kernel_rfl)
    (of_decide_eq_true (by kernel_rfl)) (by unfold Func.isWrapper; first | (rw [if_pos (by decide +kernel)]; kernel_rfl) | (rw [if_neg (by decide +kernel)]; exact ⟨rfl, rfl⟩))
    (fun os started H enc _ => lifted os started H enc)
theorem proved : Rows.NumBoundsSaid := over
#print axioms proved
end Go.Proofs.Ytkglnkfoeedmoaa.numBounds
namespace Go.Proofs.Ytkglnkfoeedmoaa
/-- The row, under a short name, for the claim. -/
theorem numBounds_holds : Rows.NumBoundsSaid := numBounds.proved
end Go.Proofs.Ytkglnkfoeedmoaa
