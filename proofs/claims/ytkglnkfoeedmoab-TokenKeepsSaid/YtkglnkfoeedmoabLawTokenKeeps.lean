/- 'TokenKeeps': by the executor's tree. -/
import Derived.Test.YtkglnkfoeedmoabRows
import Derived.Test.YtkglnkfoeedmoabSx16

namespace Go.Proofs.Ytkglnkfoeedmoab.tokenKeeps
open Go.ChangeShapes Go.WideShapes Go.ChangeAt Go.RowKit Go.Proofs.YtkglnkfoeedmoabSx
set_option linter.unusedVariables false
set_option linter.unusedSimpArgs false
theorem own : ownKnob Try.prog.godebug = none := by kernel_rfl
theorem laid : laidOutB Try.prog = true := by kernel_rfl
theorem mixed : Try.prog.follows .mixedOrders = true := by kernel_rfl
noncomputable def cx : Ctx := { P := Try.prog, ro := 0, glob := [] }
def svs : List SV := [(.agg [(.int .i64 (.var 0)), (.int .i64 (.var 1)), (.int .i64 (.var 2)), (.int .i64 (.var 3)), (.int .i64 (.var 4)), (.int .i64 (.var 5)), (.int .i64 (.var 6)), (.bool (.var 7))]), (.int .i64 (.var 8))]
def ks : List CK := [(.int .i64), (.int .i64), (.int .i64), (.int .i64), (.int .i64), (.int .i64), (.int .i64), .bool, (.int .i64)]
def tree : T SV :=
(.br
 (.not (.and (.not (.lt (.var 8) (.lit 0))) (.and (.not (.le (.lit 5) (.var 8))) (.and (.not (.eq (.var 8) (.var 0))) (.not (.le (.lit 65535) (.var 1)))))))
 (.br
 (.and (.eq (.ite (.lt (.var 8) (.lit 0)) (.var 0) (.ite (.le (.lit 5) (.var 8)) (.var 0) (.ite (.eq (.var 8) (.var 0)) (.var 0) (.ite (.le (.lit 65535) (.var 1)) (.var 0) (.var 8))))) (.var 0)) (.and (.eq (.ite (.lt (.var 8) (.lit 0)) (.var 1) (.ite (.le (.lit 5) (.var 8)) (.var 1) (.ite (.eq (.var 8) (.var 0)) (.var 1) (.ite (.le (.lit 65535) (.var 1)) (.var 1) (.bin .add .i64 (.var 1) (.lit 1)))))) (.var 1)) (.and (.eq (.ite (.lt (.var 8) (.lit 0)) (.var 2) (.ite (.le (.lit 5) (.var 8)) (.var 2) (.ite (.eq (.var 8) (.var 0)) (.var 2) (.ite (.le (.lit 65535) (.var 1)) (.var 2) (.lit (-1)))))) (.var 2)) (.and (.and (.eq (.ite (.lt (.var 8) (.lit 0)) (.var 3) (.ite (.le (.lit 5) (.var 8)) (.var 3) (.ite (.eq (.var 8) (.var 0)) (.var 3) (.ite (.le (.lit 65535) (.var 1)) (.var 3) (.lit 0))))) (.var 3)) (.eq (.ite (.lt (.var 8) (.lit 0)) (.var 4) (.ite (.le (.lit 5) (.var 8)) (.var 4) (.ite (.eq (.var 8) (.var 0)) (.var 4) (.ite (.le (.lit 65535) (.var 1)) (.var 4) (.lit 0))))) (.var 4))) (.and (.and (.eq (.ite (.lt (.var 8) (.lit 0)) (.var 5) (.ite (.le (.lit 5) (.var 8)) (.var 5) (.ite (.eq (.var 8) (.var 0)) (.var 5) (.ite (.le (.lit 65535) (.var 1)) (.var 5) (.lit 0))))) (.var 5)) (.eq (.ite (.lt (.var 8) (.lit 0)) (.var 6) (.ite (.le (.lit 5) (.var 8)) (.var 6) (.ite (.eq (.var 8) (.var 0)) (.var 6) (.ite (.le (.lit 65535) (.var 1)) (.var 6) (.lit 0))))) (.var 6))) (.beq (.var 7) (.var 7)))))))
 (.br
 (.or (.lt (.var 8) (.lit 0)) (.le (.lit 5) (.var 8)))
 (.leaf (.bool (.lit .true)))
 (.br
 (.and (.not (.lt (.var 8) (.lit 0))) (.and (.not (.le (.lit 5) (.var 8))) (.eq (.var 8) (.var 0))))
 (.leaf (.bool (.lit .true)))
 (.leaf (.bool (.and (.not (.lt (.var 8) (.lit 0))) (.and (.not (.le (.lit 5) (.var 8))) (.and (.not (.eq (.var 8) (.var 0))) (.le (.lit 65535) (.var 1)))))))))
 (.leaf (.bool (.lit .false))))
 (.br
 (.eq (.ite (.lt (.var 8) (.lit 0)) (.var 0) (.ite (.le (.lit 5) (.var 8)) (.var 0) (.ite (.eq (.var 8) (.var 0)) (.var 0) (.ite (.le (.lit 65535) (.var 1)) (.var 0) (.var 8))))) (.var 8))
 (.br
 (.eq (.ite (.lt (.var 8) (.lit 0)) (.var 2) (.ite (.le (.lit 5) (.var 8)) (.var 2) (.ite (.eq (.var 8) (.var 0)) (.var 2) (.ite (.le (.lit 65535) (.var 1)) (.var 2) (.lit (-1)))))) (.lit (-1)))
 (.br
 (.and (.eq (.ite (.lt (.var 8) (.lit 0)) (.var 3) (.ite (.le (.lit 5) (.var 8)) (.var 3) (.ite (.eq (.var 8) (.var 0)) (.var 3) (.ite (.le (.lit 65535) (.var 1)) (.var 3) (.lit 0))))) (.lit 0)) (.eq (.ite (.lt (.var 8) (.lit 0)) (.var 4) (.ite (.le (.lit 5) (.var 8)) (.var 4) (.ite (.eq (.var 8) (.var 0)) (.var 4) (.ite (.le (.lit 65535) (.var 1)) (.var 4) (.lit 0))))) (.lit 0)))
 (.br
 (.and (.eq (.ite (.lt (.var 8) (.lit 0)) (.var 5) (.ite (.le (.lit 5) (.var 8)) (.var 5) (.ite (.eq (.var 8) (.var 0)) (.var 5) (.ite (.le (.lit 65535) (.var 1)) (.var 5) (.lit 0))))) (.lit 0)) (.eq (.ite (.lt (.var 8) (.lit 0)) (.var 6) (.ite (.le (.lit 5) (.var 8)) (.var 6) (.ite (.eq (.var 8) (.var 0)) (.var 6) (.ite (.le (.lit 65535) (.var 1)) (.var 6) (.lit 0))))) (.lit 0)))
 (.leaf (.bool (.eq (.bin .sub .i64 (.ite (.lt (.var 8) (.lit 0)) (.var 1) (.ite (.le (.lit 5) (.var 8)) (.var 1) (.ite (.eq (.var 8) (.var 0)) (.var 1) (.ite (.le (.lit 65535) (.var 1)) (.var 1) (.bin .add .i64 (.var 1) (.lit 1)))))) (.lit 1)) (.var 1))))
 (.leaf (.bool (.lit .false))))
 (.leaf (.bool (.lit .false))))
 (.leaf (.bool (.lit .false))))
 (.leaf (.bool (.lit .false)))))
theorem ran : ((execCall 30 20 cx 3 svs [] 0 []).bind fun x => .leaf x.1) = tree := by kernel_rfl
theorem pure (ι : Env) (h0 : (Lit.int .i64 (ι.int 0)).wf = true) (h1 : (Lit.int .i64 (ι.int 1)).wf = true) (h2 : (Lit.int .i64 (ι.int 2)).wf = true) (h3 : (Lit.int .i64 (ι.int 3)).wf = true) (h4 : (Lit.int .i64 (ι.int 4)).wf = true) (h5 : (Lit.int .i64 (ι.int 5)).wf = true) (h6 : (Lit.int .i64 (ι.int 6)).wf = true) (h8 : (Lit.int .i64 (ι.int 8)).wf = true) : okT ι tree := by
  have h0 := bounds_i64 h0
  have h1 := bounds_i64 h1
  have h2 := bounds_i64 h2
  have h3 := bounds_i64 h3
  have h4 := bounds_i64 h4
  have h5 := bounds_i64 h5
  have h6 := bounds_i64 h6
  have h8 := bounds_i64 h8
  obtain ⟨x0, e0⟩ : ∃ x, ι.int 0 = x := ⟨_, rfl⟩
  rw [e0] at h0
  obtain ⟨x1, e1⟩ : ∃ x, ι.int 1 = x := ⟨_, rfl⟩
  rw [e1] at h1
  obtain ⟨x2, e2⟩ : ∃ x, ι.int 2 = x := ⟨_, rfl⟩
  rw [e2] at h2
  obtain ⟨x3, e3⟩ : ∃ x, ι.int 3 = x := ⟨_, rfl⟩
  rw [e3] at h3
  obtain ⟨x4, e4⟩ : ∃ x, ι.int 4 = x := ⟨_, rfl⟩
  rw [e4] at h4
  obtain ⟨x5, e5⟩ : ∃ x, ι.int 5 = x := ⟨_, rfl⟩
  rw [e5] at h5
  obtain ⟨x6, e6⟩ : ∃ x, ι.int 6 = x := ⟨_, rfl⟩
  rw [e6] at h6
  obtain ⟨x8, e8⟩ : ∃ x, ι.int 8 = x := ⟨_, rfl⟩
  rw [e8] at h8
  simp only [tree, okT, b_true, b_false, b_var, b_lt, b_le, b_eq, b_not, b_and, b_or, b_beq, b_ite, e_lit, e_var, e_add, e_sub, e_mul, e_rem, e_and, e_ite, e_mx, e_mn, e_wrap, IntKind.wrap_i64, IntKind.wrap_u16, and1_u8, and3_u16, and65535_i64, and1023_i64, and1_i64, and15_i64, and31_i64, e0, e1, e2, e3, e4, e5, e6, e8]
  try simp only [iff_self, not_true_eq_false, not_false_eq_true, false_implies, true_implies, implies_true, true_and, and_true]
  first | grind | (repeat' (first | apply And.intro | intro _)) <;> (first | omega | grind)

theorem main (W : World) (cells : List Value) (args : Array Value) (hc : AllIs ks cells) (hden : ∀ ext β, SV.denL (envOf cells ext) β svs = args.toList) : IsTrue Try.prog 3 args W := by
  obtain ⟨v, h1, h2⟩ := okT_pick (pure (envOf cells ext0) (hc.wf ext0 rfl) (hc.wf ext0 rfl) (hc.wf ext0 rfl) (hc.wf ext0 rfl) (hc.wf ext0 rfl) (hc.wf ext0 rfl) (hc.wf ext0 rfl) (hc.wf ext0 rfl))
  exact isTrue_of_pick (c := cx) (Hyp.nil mixed) (fun g cs h => (by cases h)) (hden ext0) (by rw [ran]; exact h1) h2

set_option maxRecDepth 100000 in
theorem lifted (os : Os) (started : os.Started) (H : Type) (enc : TypeId × Value → H) :
    ReturnsInHanded {} Try.checked os 3 .any (Rows.tokenKeepsSpec.pre6 enc Try.prog Try.f3 Rows.tokenKeepsRow.domain false) (Rows.tokenKeepsSpec.post enc Try.prog Try.f3 false true false false) :=
  lifted_of (C := Try.checked) (n := 2) (svs := svs) (ks := ks) own started (by kernel_rfl) Try.func3
    (ChangeSpec.witness6 (enc := enc) (C := Try.checked) false ⟨#[], #[.agg #[.int .i64 0, .int .i64 0, .int .i64 0, .int .i64 0, .int .i64 0, .int .i64 0, .int .i64 0, .bool false], .int .i64 0], []⟩ 8 (by kernel_rfl) (by kernel_rfl) (by kernel_rfl) (by kernel_rfl))
    rfl rfl (by kernel_rfl) laid (by kernel_rfl) rfl (fun ds h => by
      match ds, h with
      | [d0, d1], _ => exact ⟨rfl, rfl, rfl⟩)
    (by kernel_rfl) (fun W cells args ds p hc hden _ => main W cells args hc hden)
theorem over : Rows.tokenKeepsRow.holds Try.pinned (OpenSpec.ofChange Rows.tokenKeepsSpec) :=
  OpenClaim.holds_of_wide 3 Try.f3 rfl rfl rfl rfl rfl rfl rfl ⟨rfl, rfl, rfl, rfl, rfl⟩ rfl rfl rfl rfl rfl (by kernel_rfl) Try.func3 (by kernel_rfl)
    (of_decide_eq_true (by kernel_rfl)) (by unfold Func.isWrapper; first | (rw [if_pos (by decide +kernel)]; kernel_rfl) | (rw [if_neg (by decide +kernel)]; exact ⟨rfl, rfl⟩))
    (fun os started H enc _ => lifted os started H enc)
theorem proved : Rows.TokenKeepsSaid := over
#print axioms proved
end Go.Proofs.Ytkglnkfoeedmoab.tokenKeeps
namespace Go.Proofs.Ytkglnkfoeedmoab
/-- The row, under a short name, for the claim. -/
theorem tokenKeeps_holds : Rows.TokenKeepsSaid := tokenKeeps.proved
end Go.Proofs.Ytkglnkfoeedmoab
