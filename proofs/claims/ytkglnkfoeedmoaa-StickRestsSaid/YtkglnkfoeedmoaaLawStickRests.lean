/- 'StickRests': by the executor's tree. -/
import Derived.Test.YtkglnkfoeedmoaaRows
import Derived.Test.YtkglnkfoeedmoaaSx16

namespace Go.Proofs.Ytkglnkfoeedmoaa.stickRests
open Go.ChangeShapes Go.WideShapes Go.ChangeAt Go.RowKit Go.Proofs.YtkglnkfoeedmoaaSx
set_option linter.unusedVariables false
set_option linter.unusedSimpArgs false
theorem own : ownKnob Try.prog.godebug = none := by kernel_rfl
theorem laid : laidOutB Try.prog = true := by kernel_rfl
theorem mixed : Try.prog.follows .mixedOrders = true := by kernel_rfl
noncomputable def cx : Ctx := { P := Try.prog, ro := 0, glob := [] }
def svs : List SV := [(.agg [(.int .u16 (.var 0)), (.int .u16 (.var 1))]), (.int .u16 (.var 2)), (.agg [(.bool (.var 3)), (.int .i64 (.var 4)), (.int .i64 (.var 5)), (.int .i64 (.var 6)), (.int .i64 (.var 7)), (.bool (.var 8))])]
def ks : List CK := [(.int .u16), (.int .u16), (.int .u16), .bool, (.int .i64), (.int .i64), (.int .i64), (.int .i64), .bool]
def tree : T SV :=
(.need (.not (.eq (.bin .add .i64 (.bin .rem .i64 (.wrap .i64 (.var 1)) (.lit 1001)) (.lit 1)) (.lit 0))) (.need (.not (.eq (.bin .add .i64 (.bin .rem .i64 (.wrap .i64 (.var 1)) (.lit 1001)) (.lit 1)) (.lit 0))) (.need (.not (.eq (.bin .add .i64 (.bin .rem .i64 (.wrap .i64 (.var 1)) (.lit 1001)) (.lit 1)) (.lit 0))) (.need (.not (.eq (.bin .add .i64 (.bin .rem .i64 (.wrap .i64 (.var 1)) (.lit 1001)) (.lit 1)) (.lit 0))) (.need (.le (.lit 0) (.bin .and .u16 (.var 2) (.lit 3))) (.need (.lt (.bin .and .u16 (.var 2) (.lit 3)) (.lit 4)) (.need (.le (.lit 0) (.bin .and .u16 (.var 2) (.lit 3))) (.need (.lt (.bin .and .u16 (.var 2) (.lit 3)) (.lit 4)) (.br
 (.eq (.ite (.not (.var 3)) (.lit 0) (.ite (.not (.or (.or (.lt (.bin .rem .i64 (.wrap .i64 (.var 1)) (.lit 1001)) (.bin .rem .i64 (.var 4) (.bin .add .i64 (.bin .rem .i64 (.wrap .i64 (.var 1)) (.lit 1001)) (.lit 1)))) (.lt (.bin .rem .i64 (.var 4) (.bin .add .i64 (.bin .rem .i64 (.wrap .i64 (.var 1)) (.lit 1001)) (.lit 1))) (.bin .sub .i64 (.lit 0) (.bin .rem .i64 (.wrap .i64 (.var 1)) (.lit 1001))))) (.or (.or (.lt (.bin .rem .i64 (.wrap .i64 (.var 1)) (.lit 1001)) (.bin .rem .i64 (.var 5) (.bin .add .i64 (.bin .rem .i64 (.wrap .i64 (.var 1)) (.lit 1001)) (.lit 1)))) (.lt (.bin .rem .i64 (.var 5) (.bin .add .i64 (.bin .rem .i64 (.wrap .i64 (.var 1)) (.lit 1001)) (.lit 1))) (.bin .sub .i64 (.lit 0) (.bin .rem .i64 (.wrap .i64 (.var 1)) (.lit 1001))))) (.or (.or (.lt (.bin .rem .i64 (.wrap .i64 (.var 1)) (.lit 1001)) (.bin .rem .i64 (.var 6) (.bin .add .i64 (.bin .rem .i64 (.wrap .i64 (.var 1)) (.lit 1001)) (.lit 1)))) (.lt (.bin .rem .i64 (.var 6) (.bin .add .i64 (.bin .rem .i64 (.wrap .i64 (.var 1)) (.lit 1001)) (.lit 1))) (.bin .sub .i64 (.lit 0) (.bin .rem .i64 (.wrap .i64 (.var 1)) (.lit 1001))))) (.or (.lt (.bin .rem .i64 (.wrap .i64 (.var 1)) (.lit 1001)) (.bin .rem .i64 (.var 7) (.bin .add .i64 (.bin .rem .i64 (.wrap .i64 (.var 1)) (.lit 1001)) (.lit 1)))) (.lt (.bin .rem .i64 (.var 7) (.bin .add .i64 (.bin .rem .i64 (.wrap .i64 (.var 1)) (.lit 1001)) (.lit 1))) (.bin .sub .i64 (.lit 0) (.bin .rem .i64 (.wrap .i64 (.var 1)) (.lit 1001))))))))) (.lit 0) (.ite (.le (.bin .add .i64 (.lit 1) (.bin .rem .i64 (.wrap .i64 (.var 0)) (.lit 1000))) (.mx (.bin .rem .i64 (.wrap .i64 (.var 2)) (.lit 1001)) (.lit 0))) (.bin .add .i64 (.lit 1) (.bin .rem .i64 (.wrap .i64 (.var 0)) (.lit 1000))) (.bin .add .i64 (.mx (.bin .rem .i64 (.wrap .i64 (.var 2)) (.lit 1001)) (.lit 0)) (.lit 1))))) (.lit 0))
 (.br
 (.not (.and (.var 3) (.and (.or (.or (.lt (.bin .rem .i64 (.wrap .i64 (.var 1)) (.lit 1001)) (.bin .rem .i64 (.var 4) (.bin .add .i64 (.bin .rem .i64 (.wrap .i64 (.var 1)) (.lit 1001)) (.lit 1)))) (.lt (.bin .rem .i64 (.var 4) (.bin .add .i64 (.bin .rem .i64 (.wrap .i64 (.var 1)) (.lit 1001)) (.lit 1))) (.bin .sub .i64 (.lit 0) (.bin .rem .i64 (.wrap .i64 (.var 1)) (.lit 1001))))) (.or (.or (.lt (.bin .rem .i64 (.wrap .i64 (.var 1)) (.lit 1001)) (.bin .rem .i64 (.var 5) (.bin .add .i64 (.bin .rem .i64 (.wrap .i64 (.var 1)) (.lit 1001)) (.lit 1)))) (.lt (.bin .rem .i64 (.var 5) (.bin .add .i64 (.bin .rem .i64 (.wrap .i64 (.var 1)) (.lit 1001)) (.lit 1))) (.bin .sub .i64 (.lit 0) (.bin .rem .i64 (.wrap .i64 (.var 1)) (.lit 1001))))) (.or (.or (.lt (.bin .rem .i64 (.wrap .i64 (.var 1)) (.lit 1001)) (.bin .rem .i64 (.var 6) (.bin .add .i64 (.bin .rem .i64 (.wrap .i64 (.var 1)) (.lit 1001)) (.lit 1)))) (.lt (.bin .rem .i64 (.var 6) (.bin .add .i64 (.bin .rem .i64 (.wrap .i64 (.var 1)) (.lit 1001)) (.lit 1))) (.bin .sub .i64 (.lit 0) (.bin .rem .i64 (.wrap .i64 (.var 1)) (.lit 1001))))) (.or (.lt (.bin .rem .i64 (.wrap .i64 (.var 1)) (.lit 1001)) (.bin .rem .i64 (.var 7) (.bin .add .i64 (.bin .rem .i64 (.wrap .i64 (.var 1)) (.lit 1001)) (.lit 1)))) (.lt (.bin .rem .i64 (.var 7) (.bin .add .i64 (.bin .rem .i64 (.wrap .i64 (.var 1)) (.lit 1001)) (.lit 1))) (.bin .sub .i64 (.lit 0) (.bin .rem .i64 (.wrap .i64 (.var 1)) (.lit 1001)))))))) (.le (.bin .add .i64 (.lit 1) (.bin .rem .i64 (.wrap .i64 (.var 0)) (.lit 1000))) (.ite (.le (.bin .add .i64 (.lit 1) (.bin .rem .i64 (.wrap .i64 (.var 0)) (.lit 1000))) (.mx (.bin .rem .i64 (.wrap .i64 (.var 2)) (.lit 1001)) (.lit 0))) (.bin .add .i64 (.lit 1) (.bin .rem .i64 (.wrap .i64 (.var 0)) (.lit 1000))) (.bin .add .i64 (.mx (.bin .rem .i64 (.wrap .i64 (.var 2)) (.lit 1001)) (.lit 0)) (.lit 1)))))))
 (.br
 (.eq (.ite (.not (.or (.or (.lt (.bin .rem .i64 (.wrap .i64 (.var 1)) (.lit 1001)) (.ite (.eq (.bin .and .u16 (.var 2) (.lit 3)) (.lit 0)) (.bin .add .i64 (.bin .rem .i64 (.wrap .i64 (.var 1)) (.lit 1001)) (.lit 1)) (.var 4))) (.lt (.ite (.eq (.bin .and .u16 (.var 2) (.lit 3)) (.lit 0)) (.bin .add .i64 (.bin .rem .i64 (.wrap .i64 (.var 1)) (.lit 1001)) (.lit 1)) (.var 4)) (.bin .sub .i64 (.lit 0) (.bin .rem .i64 (.wrap .i64 (.var 1)) (.lit 1001))))) (.or (.or (.lt (.bin .rem .i64 (.wrap .i64 (.var 1)) (.lit 1001)) (.ite (.eq (.bin .and .u16 (.var 2) (.lit 3)) (.lit 1)) (.bin .add .i64 (.bin .rem .i64 (.wrap .i64 (.var 1)) (.lit 1001)) (.lit 1)) (.var 5))) (.lt (.ite (.eq (.bin .and .u16 (.var 2) (.lit 3)) (.lit 1)) (.bin .add .i64 (.bin .rem .i64 (.wrap .i64 (.var 1)) (.lit 1001)) (.lit 1)) (.var 5)) (.bin .sub .i64 (.lit 0) (.bin .rem .i64 (.wrap .i64 (.var 1)) (.lit 1001))))) (.or (.or (.lt (.bin .rem .i64 (.wrap .i64 (.var 1)) (.lit 1001)) (.ite (.eq (.bin .and .u16 (.var 2) (.lit 3)) (.lit 2)) (.bin .add .i64 (.bin .rem .i64 (.wrap .i64 (.var 1)) (.lit 1001)) (.lit 1)) (.var 6))) (.lt (.ite (.eq (.bin .and .u16 (.var 2) (.lit 3)) (.lit 2)) (.bin .add .i64 (.bin .rem .i64 (.wrap .i64 (.var 1)) (.lit 1001)) (.lit 1)) (.var 6)) (.bin .sub .i64 (.lit 0) (.bin .rem .i64 (.wrap .i64 (.var 1)) (.lit 1001))))) (.or (.lt (.bin .rem .i64 (.wrap .i64 (.var 1)) (.lit 1001)) (.ite (.eq (.bin .and .u16 (.var 2) (.lit 3)) (.lit 3)) (.bin .add .i64 (.bin .rem .i64 (.wrap .i64 (.var 1)) (.lit 1001)) (.lit 1)) (.var 7))) (.lt (.ite (.eq (.bin .and .u16 (.var 2) (.lit 3)) (.lit 3)) (.bin .add .i64 (.bin .rem .i64 (.wrap .i64 (.var 1)) (.lit 1001)) (.lit 1)) (.var 7)) (.bin .sub .i64 (.lit 0) (.bin .rem .i64 (.wrap .i64 (.var 1)) (.lit 1001))))))))) (.lit 0) (.ite (.le (.bin .add .i64 (.lit 1) (.bin .rem .i64 (.wrap .i64 (.var 0)) (.lit 1000))) (.mx (.bin .rem .i64 (.wrap .i64 (.var 2)) (.lit 1001)) (.lit 0))) (.bin .add .i64 (.lit 1) (.bin .rem .i64 (.wrap .i64 (.var 0)) (.lit 1000))) (.bin .add .i64 (.mx (.bin .rem .i64 (.wrap .i64 (.var 2)) (.lit 1001)) (.lit 0)) (.lit 1)))) (.mn (.bin .add .i64 (.bin .rem .i64 (.wrap .i64 (.var 2)) (.lit 1001)) (.lit 1)) (.bin .add .i64 (.lit 1) (.bin .rem .i64 (.wrap .i64 (.var 0)) (.lit 1000)))))
 (.leaf (.bool (.beq (.and (.or (.or (.lt (.bin .rem .i64 (.wrap .i64 (.var 1)) (.lit 1001)) (.ite (.eq (.bin .and .u16 (.var 2) (.lit 3)) (.lit 0)) (.bin .add .i64 (.bin .rem .i64 (.wrap .i64 (.var 1)) (.lit 1001)) (.lit 1)) (.var 4))) (.lt (.ite (.eq (.bin .and .u16 (.var 2) (.lit 3)) (.lit 0)) (.bin .add .i64 (.bin .rem .i64 (.wrap .i64 (.var 1)) (.lit 1001)) (.lit 1)) (.var 4)) (.bin .sub .i64 (.lit 0) (.bin .rem .i64 (.wrap .i64 (.var 1)) (.lit 1001))))) (.or (.or (.lt (.bin .rem .i64 (.wrap .i64 (.var 1)) (.lit 1001)) (.ite (.eq (.bin .and .u16 (.var 2) (.lit 3)) (.lit 1)) (.bin .add .i64 (.bin .rem .i64 (.wrap .i64 (.var 1)) (.lit 1001)) (.lit 1)) (.var 5))) (.lt (.ite (.eq (.bin .and .u16 (.var 2) (.lit 3)) (.lit 1)) (.bin .add .i64 (.bin .rem .i64 (.wrap .i64 (.var 1)) (.lit 1001)) (.lit 1)) (.var 5)) (.bin .sub .i64 (.lit 0) (.bin .rem .i64 (.wrap .i64 (.var 1)) (.lit 1001))))) (.or (.or (.lt (.bin .rem .i64 (.wrap .i64 (.var 1)) (.lit 1001)) (.ite (.eq (.bin .and .u16 (.var 2) (.lit 3)) (.lit 2)) (.bin .add .i64 (.bin .rem .i64 (.wrap .i64 (.var 1)) (.lit 1001)) (.lit 1)) (.var 6))) (.lt (.ite (.eq (.bin .and .u16 (.var 2) (.lit 3)) (.lit 2)) (.bin .add .i64 (.bin .rem .i64 (.wrap .i64 (.var 1)) (.lit 1001)) (.lit 1)) (.var 6)) (.bin .sub .i64 (.lit 0) (.bin .rem .i64 (.wrap .i64 (.var 1)) (.lit 1001))))) (.or (.lt (.bin .rem .i64 (.wrap .i64 (.var 1)) (.lit 1001)) (.ite (.eq (.bin .and .u16 (.var 2) (.lit 3)) (.lit 3)) (.bin .add .i64 (.bin .rem .i64 (.wrap .i64 (.var 1)) (.lit 1001)) (.lit 1)) (.var 7))) (.lt (.ite (.eq (.bin .and .u16 (.var 2) (.lit 3)) (.lit 3)) (.bin .add .i64 (.bin .rem .i64 (.wrap .i64 (.var 1)) (.lit 1001)) (.lit 1)) (.var 7)) (.bin .sub .i64 (.lit 0) (.bin .rem .i64 (.wrap .i64 (.var 1)) (.lit 1001)))))))) (.le (.bin .add .i64 (.lit 1) (.bin .rem .i64 (.wrap .i64 (.var 0)) (.lit 1000))) (.ite (.le (.bin .add .i64 (.lit 1) (.bin .rem .i64 (.wrap .i64 (.var 0)) (.lit 1000))) (.mx (.bin .rem .i64 (.wrap .i64 (.var 2)) (.lit 1001)) (.lit 0))) (.bin .add .i64 (.lit 1) (.bin .rem .i64 (.wrap .i64 (.var 0)) (.lit 1000))) (.bin .add .i64 (.mx (.bin .rem .i64 (.wrap .i64 (.var 2)) (.lit 1001)) (.lit 0)) (.lit 1))))) (.le (.bin .add .i64 (.lit 1) (.bin .rem .i64 (.wrap .i64 (.var 0)) (.lit 1000))) (.bin .add .i64 (.bin .rem .i64 (.wrap .i64 (.var 2)) (.lit 1001)) (.lit 1))))))
 (.leaf (.bool (.lit .false))))
 (.leaf (.bool (.lit .false))))
 (.leaf (.bool (.lit .false))))))))))))
theorem ran : ((execCall 30 20 cx 10 svs [] 0 []).bind fun x => .leaf x.1) = tree := by kernel_rfl
theorem pure (ι : Env) (h0 : (Lit.int .u16 (ι.int 0)).wf = true) (h1 : (Lit.int .u16 (ι.int 1)).wf = true) (h2 : (Lit.int .u16 (ι.int 2)).wf = true) (h4 : (Lit.int .i64 (ι.int 4)).wf = true) (h5 : (Lit.int .i64 (ι.int 5)).wf = true) (h6 : (Lit.int .i64 (ι.int 6)).wf = true) (h7 : (Lit.int .i64 (ι.int 7)).wf = true) : okT ι tree := by
  have h0 := bounds_u16 h0
  have h1 := bounds_u16 h1
  have h2 := bounds_u16 h2
  have h4 := bounds_i64 h4
  have h5 := bounds_i64 h5
  have h6 := bounds_i64 h6
  have h7 := bounds_i64 h7
  obtain ⟨x0, e0⟩ : ∃ x, ι.int 0 = x := ⟨_, rfl⟩
  obtain ⟨x1, e1⟩ : ∃ x, ι.int 1 = x := ⟨_, rfl⟩
  obtain ⟨x2, e2⟩ : ∃ x, ι.int 2 = x := ⟨_, rfl⟩
  obtain ⟨x4, e4⟩ : ∃ x, ι.int 4 = x := ⟨_, rfl⟩
  obtain ⟨x5, e5⟩ : ∃ x, ι.int 5 = x := ⟨_, rfl⟩
  obtain ⟨x6, e6⟩ : ∃ x, ι.int 6 = x := ⟨_, rfl⟩
  obtain ⟨x7, e7⟩ : ∃ x, ι.int 7 = x := ⟨_, rfl⟩
  rw [e0] at h0
  rw [e1] at h1
  rw [e2] at h2
  have w0 : IntKind.i64.wrap x0 = x0 := by rw [IntKind.wrap_i64]; omega
  have w1 : IntKind.i64.wrap x1 = x1 := by rw [IntKind.wrap_i64]; omega
  have w2 : IntKind.i64.wrap x2 = x2 := by rw [IntKind.wrap_i64]; omega
  have r0 : x0.tmod 1000 = x0 % 1000 := tmod_nonneg _ _ h0.1
  have r1 : x1.tmod 1001 = x1 % 1001 := tmod_nonneg _ _ h1.1
  have r2 : x2.tmod 1001 = x2 % 1001 := tmod_nonneg _ _ h2.1
  simp only [tree, okT, b_true, b_false, b_var, b_lt, b_le, b_eq, b_not, b_and, b_or, b_beq, b_ite, e_lit, e_var, e_add, e_sub, e_rem, e_and, e_mul, e_ite, e_mx, e_mn, e_wrap, e0, e1, e2, e4, e5, e6, e7, w0, w1, w2, r0, r1, r2, and3_u16]
  have a1 : IntKind.i64.wrap (x1 % 1001 + 1) = x1 % 1001 + 1 := by rw [IntKind.wrap_i64]; omega
  have a0 : IntKind.i64.wrap (1 + x0 % 1000) = 1 + x0 % 1000 := by rw [IntKind.wrap_i64]; omega
  have a2 : IntKind.i64.wrap (x2 % 1001 + 1) = x2 % 1001 + 1 := by rw [IntKind.wrap_i64]; omega
  have a3 : IntKind.i64.wrap (0 - x1 % 1001) = 0 - x1 % 1001 := by rw [IntKind.wrap_i64]; omega
  have m2 : (if x2 % 1001 < 0 then 0 else x2 % 1001) = x2 % 1001 := if_neg (by omega)
  simp only [a0, a1, a2, a3, m2]
  have b4 := tmod_bounds x4 (x1 % 1001 + 1) (by omega)
  have b5 := tmod_bounds x5 (x1 % 1001 + 1) (by omega)
  have b6 := tmod_bounds x6 (x1 % 1001 + 1) (by omega)
  have b7 := tmod_bounds x7 (x1 % 1001 + 1) (by omega)
  generalize x4.tmod (x1 % 1001 + 1) = t4 at *
  generalize x5.tmod (x1 % 1001 + 1) = t5 at *
  generalize x6.tmod (x1 % 1001 + 1) = t6 at *
  generalize x7.tmod (x1 % 1001 + 1) = t7 at *
  have hb : 0 ≤ x1 % 1001 := by omega
  have ha : 0 ≤ x0 % 1000 := by omega
  have hn : 0 ≤ x2 % 1001 := by omega
  have hr : x2 % 4 = 0 ∨ x2 % 4 = 1 ∨ x2 % 4 = 2 ∨ x2 % 4 = 3 := by omega
  generalize x1 % 1001 = B at *
  generalize x0 % 1000 = A at *
  generalize x2 % 1001 = N at *
  generalize x2 % 4 = R at *
  rcases hr with rfl | rfl | rfl | rfl <;> grind

theorem main (W : World) (cells : List Value) (args : Array Value) (hc : AllIs ks cells) (hden : ∀ ext β, SV.denL (envOf cells ext) β svs = args.toList) : IsTrue Try.prog 10 args W := by
  obtain ⟨v, h1, h2⟩ := okT_pick (pure (envOf cells ext0) (hc.wf ext0 rfl) (hc.wf ext0 rfl) (hc.wf ext0 rfl) (hc.wf ext0 rfl) (hc.wf ext0 rfl) (hc.wf ext0 rfl) (hc.wf ext0 rfl))
  exact isTrue_of_pick (c := cx) (Hyp.nil mixed) (fun g cs h => (by cases h)) (hden ext0) (by rw [ran]; exact h1) h2

set_option maxRecDepth 100000 in
theorem lifted (os : Os) (started : os.Started) (H : Type) (enc : TypeId × Value → H) :
    ReturnsInHanded {} Try.checked os 10 .any (Rows.stickRestsSpec.pre6 enc Try.prog Try.f10 Rows.stickRestsRow.domain false) (Rows.stickRestsSpec.post enc Try.prog Try.f10 false true false false) :=
  lifted_of (C := Try.checked) (n := 3) (svs := svs) (ks := ks) own started (by kernel_rfl) Try.func10
    (ChangeSpec.witness6 (enc := enc) (C := Try.checked) false ⟨#[], #[.agg #[.int .u16 0, .int .u16 0], .int .u16 0, .agg #[.bool false, .int .i64 0, .int .i64 0, .int .i64 0, .int .i64 0, .bool false]], []⟩ 8 (by kernel_rfl) (by kernel_rfl) (by kernel_rfl) (by kernel_rfl))
    rfl rfl (by kernel_rfl) laid (by kernel_rfl) rfl (fun ds h => by
      match ds, h with
      | [d0, d1, d2], _ => exact ⟨rfl, rfl, rfl⟩)
    (by kernel_rfl) (fun W cells args ds p hc hden _ => main W cells args hc hden)
theorem over : Rows.stickRestsRow.holds Try.pinned (OpenSpec.ofChange Rows.stickRestsSpec) :=
  OpenClaim.holds_of_wide 10 Try.f10 rfl rfl rfl rfl rfl rfl rfl ⟨rfl, rfl, rfl, rfl, rfl⟩ rfl rfl rfl rfl rfl (by kernel_rfl) Try.func10 (by kernel_rfl)
    (of_decide_eq_true (by kernel_rfl)) (by unfold Func.isWrapper; first | (rw [if_pos (by decide +kernel)]; kernel_rfl) | (rw [if_neg (by decide +kernel)]; exact ⟨rfl, rfl⟩))
    (fun os started H enc _ => lifted os started H enc)
theorem proved : Rows.StickRestsSaid := over
#print axioms proved
end Go.Proofs.Ytkglnkfoeedmoaa.stickRests
namespace Go.Proofs.Ytkglnkfoeedmoaa
/-- The row, under a short name, for the claim. -/
theorem stickRests_holds : Rows.StickRestsSaid := stickRests.proved
end Go.Proofs.Ytkglnkfoeedmoaa
