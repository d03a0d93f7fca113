/- 'StickSides': by the executor's tree. -/
import Derived.Test.YtkglnkfoeedmoaaRows
import Derived.Test.YtkglnkfoeedmoaaSx15

namespace Go.Proofs.Ytkglnkfoeedmoaa.stickSides
open Go.ChangeShapes Go.WideShapes Go.ChangeAt Go.RowKit Go.Proofs.YtkglnkfoeedmoaaSx
set_option linter.unusedVariables false
set_option linter.unusedSimpArgs false
theorem own : ownKnob Try.prog.godebug = none := by kernel_rfl
theorem laid : laidOutB Try.prog = true := by kernel_rfl
theorem mixed : Try.prog.follows .mixedOrders = true := by kernel_rfl
noncomputable def cx : Ctx := { P := Try.prog, ro := 0, glob := [] }
def svs : List SV := [(.agg [(.int .i64 (.var 0)), (.int .i64 (.var 1)), (.int .i64 (.var 2)), (.int .i64 (.var 3)), (.int .i64 (.var 4)), (.slc 5), (.slc 6), (.slc 7), (.slc 8), (.int .i64 (.var 9)), (.int .i64 (.var 10)), (.int .i64 (.var 11)), (.int .i64 (.var 12)), (.int .i64 (.var 13)), (.int .i64 (.var 14)), (.int .i64 (.var 15)), (.int .i64 (.var 16)), (.int .i64 (.var 17)), (.int .i64 (.var 18)), (.int .i64 (.var 19)), (.int .i64 (.var 20)), (.int .i64 (.var 21)), (.int .i64 (.var 22)), (.int .i64 (.var 23)), (.int .i64 (.var 24)), (.int .i64 (.var 25)), (.int .i64 (.var 26)), (.int .i64 (.var 27)), (.int .i64 (.var 28)), (.int .i64 (.var 29)), (.int .i64 (.var 30)), (.int .i64 (.var 31)), (.int .i64 (.var 32)), (.int .i64 (.var 33)), (.int .i64 (.var 34)), (.int .i64 (.var 35)), (.int .i64 (.var 36)), (.int .i64 (.var 37)), (.int .i64 (.var 38)), (.int .i64 (.var 39)), (.int .i64 (.var 40)), (.int .i64 (.var 41)), (.int .i64 (.var 42)), (.int .i64 (.var 43)), (.int .i64 (.var 44)), (.int .i64 (.var 45)), (.int .i64 (.var 46)), (.int .i64 (.var 47)), (.int .i64 (.var 48)), (.int .i64 (.var 49)), (.int .i64 (.var 50)), (.int .i64 (.var 51)), (.int .i64 (.var 52)), (.int .i64 (.var 53)), (.int .i64 (.var 54)), (.int .i64 (.var 55))]), (.int .i64 (.var 56)), (.agg [(.bool (.var 57)), (.int .i64 (.var 58)), (.int .i64 (.var 59)), (.int .i64 (.var 60)), (.int .i64 (.var 61)), (.bool (.var 62))])]
def ks : List CK := [(.int .i64), (.int .i64), (.int .i64), (.int .i64), (.int .i64), .slice, .slice, .slice, .slice, (.int .i64), (.int .i64), (.int .i64), (.int .i64), (.int .i64), (.int .i64), (.int .i64), (.int .i64), (.int .i64), (.int .i64), (.int .i64), (.int .i64), (.int .i64), (.int .i64), (.int .i64), (.int .i64), (.int .i64), (.int .i64), (.int .i64), (.int .i64), (.int .i64), (.int .i64), (.int .i64), (.int .i64), (.int .i64), (.int .i64), (.int .i64), (.int .i64), (.int .i64), (.int .i64), (.int .i64), (.int .i64), (.int .i64), (.int .i64), (.int .i64), (.int .i64), (.int .i64), (.int .i64), (.int .i64), (.int .i64), (.int .i64), (.int .i64), (.int .i64), (.int .i64), (.int .i64), (.int .i64), (.int .i64), (.int .i64), .bool, (.int .i64), (.int .i64), (.int .i64), (.int .i64), .bool]
def tree : T SV :=
(.br
 (.eq (.ite (.not (.var 57)) (.lit 0) (.ite (.not (.or (.or (.lt (.var 47) (.mx (.var 58) (.lit (-9223372036854775807)))) (.lt (.mx (.var 58) (.lit (-9223372036854775807))) (.bin .sub .i64 (.lit 0) (.var 47)))) (.or (.or (.lt (.var 47) (.mx (.var 59) (.lit (-9223372036854775807)))) (.lt (.mx (.var 59) (.lit (-9223372036854775807))) (.bin .sub .i64 (.lit 0) (.var 47)))) (.or (.or (.lt (.var 47) (.mx (.var 60) (.lit (-9223372036854775807)))) (.lt (.mx (.var 60) (.lit (-9223372036854775807))) (.bin .sub .i64 (.lit 0) (.var 47)))) (.or (.lt (.var 47) (.mx (.var 61) (.lit (-9223372036854775807)))) (.lt (.mx (.var 61) (.lit (-9223372036854775807))) (.bin .sub .i64 (.lit 0) (.var 47)))))))) (.lit 0) (.ite (.le (.var 46) (.mx (.var 56) (.lit 0))) (.var 46) (.bin .add .i64 (.mx (.var 56) (.lit 0)) (.lit 1))))) (.ite (.not (.var 57)) (.lit 0) (.ite (.not (.or (.or (.lt (.var 47) (.bin .sub .i64 (.lit 0) (.mx (.var 61) (.lit (-9223372036854775807))))) (.lt (.bin .sub .i64 (.lit 0) (.mx (.var 61) (.lit (-9223372036854775807)))) (.bin .sub .i64 (.lit 0) (.var 47)))) (.or (.or (.lt (.var 47) (.bin .sub .i64 (.lit 0) (.mx (.var 60) (.lit (-9223372036854775807))))) (.lt (.bin .sub .i64 (.lit 0) (.mx (.var 60) (.lit (-9223372036854775807)))) (.bin .sub .i64 (.lit 0) (.var 47)))) (.or (.or (.lt (.var 47) (.bin .sub .i64 (.lit 0) (.mx (.var 59) (.lit (-9223372036854775807))))) (.lt (.bin .sub .i64 (.lit 0) (.mx (.var 59) (.lit (-9223372036854775807)))) (.bin .sub .i64 (.lit 0) (.var 47)))) (.or (.lt (.var 47) (.bin .sub .i64 (.lit 0) (.mx (.var 58) (.lit (-9223372036854775807))))) (.lt (.bin .sub .i64 (.lit 0) (.mx (.var 58) (.lit (-9223372036854775807)))) (.bin .sub .i64 (.lit 0) (.var 47)))))))) (.lit 0) (.ite (.le (.var 46) (.mx (.var 56) (.lit 0))) (.var 46) (.bin .add .i64 (.mx (.var 56) (.lit 0)) (.lit 1))))))
 (.leaf (.bool (.beq (.and (.var 57) (.and (.or (.or (.lt (.var 47) (.mx (.var 58) (.lit (-9223372036854775807)))) (.lt (.mx (.var 58) (.lit (-9223372036854775807))) (.bin .sub .i64 (.lit 0) (.var 47)))) (.or (.or (.lt (.var 47) (.mx (.var 59) (.lit (-9223372036854775807)))) (.lt (.mx (.var 59) (.lit (-9223372036854775807))) (.bin .sub .i64 (.lit 0) (.var 47)))) (.or (.or (.lt (.var 47) (.mx (.var 60) (.lit (-9223372036854775807)))) (.lt (.mx (.var 60) (.lit (-9223372036854775807))) (.bin .sub .i64 (.lit 0) (.var 47)))) (.or (.lt (.var 47) (.mx (.var 61) (.lit (-9223372036854775807)))) (.lt (.mx (.var 61) (.lit (-9223372036854775807))) (.bin .sub .i64 (.lit 0) (.var 47))))))) (.le (.var 46) (.ite (.le (.var 46) (.mx (.var 56) (.lit 0))) (.var 46) (.bin .add .i64 (.mx (.var 56) (.lit 0)) (.lit 1)))))) (.and (.var 57) (.and (.or (.or (.lt (.var 47) (.bin .sub .i64 (.lit 0) (.mx (.var 61) (.lit (-9223372036854775807))))) (.lt (.bin .sub .i64 (.lit 0) (.mx (.var 61) (.lit (-9223372036854775807)))) (.bin .sub .i64 (.lit 0) (.var 47)))) (.or (.or (.lt (.var 47) (.bin .sub .i64 (.lit 0) (.mx (.var 60) (.lit (-9223372036854775807))))) (.lt (.bin .sub .i64 (.lit 0) (.mx (.var 60) (.lit (-9223372036854775807)))) (.bin .sub .i64 (.lit 0) (.var 47)))) (.or (.or (.lt (.var 47) (.bin .sub .i64 (.lit 0) (.mx (.var 59) (.lit (-9223372036854775807))))) (.lt (.bin .sub .i64 (.lit 0) (.mx (.var 59) (.lit (-9223372036854775807)))) (.bin .sub .i64 (.lit 0) (.var 47)))) (.or (.lt (.var 47) (.bin .sub .i64 (.lit 0) (.mx (.var 58) (.lit (-9223372036854775807))))) (.lt (.bin .sub .i64 (.lit 0) (.mx (.var 58) (.lit (-9223372036854775807)))) (.bin .sub .i64 (.lit 0) (.var 47))))))) (.le (.var 46) (.ite (.le (.var 46) (.mx (.var 56) (.lit 0))) (.var 46) (.bin .add .i64 (.mx (.var 56) (.lit 0)) (.lit 1)))))))))
 (.leaf (.bool (.lit .false))))
theorem ran : ((execCall 30 20 cx 9 svs [] 0 []).bind fun x => .leaf x.1) = tree := by kernel_rfl
theorem pure (ι : Env) (h46 : (Lit.int .i64 (ι.int 46)).wf = true) (h47 : (Lit.int .i64 (ι.int 47)).wf = true) (h56 : (Lit.int .i64 (ι.int 56)).wf = true) (h58 : (Lit.int .i64 (ι.int 58)).wf = true) (h59 : (Lit.int .i64 (ι.int 59)).wf = true) (h60 : (Lit.int .i64 (ι.int 60)).wf = true) (h61 : (Lit.int .i64 (ι.int 61)).wf = true) : okT ι tree := by
  have h46 := bounds_i64 h46
  have h47 := bounds_i64 h47
  have h56 := bounds_i64 h56
  have h58 := bounds_i64 h58
  have h59 := bounds_i64 h59
  have h60 := bounds_i64 h60
  have h61 := bounds_i64 h61
  obtain ⟨x46, e46⟩ : ∃ x, ι.int 46 = x := ⟨_, rfl⟩
  obtain ⟨x47, e47⟩ : ∃ x, ι.int 47 = x := ⟨_, rfl⟩
  obtain ⟨x56, e56⟩ : ∃ x, ι.int 56 = x := ⟨_, rfl⟩
  obtain ⟨x58, e58⟩ : ∃ x, ι.int 58 = x := ⟨_, rfl⟩
  obtain ⟨x59, e59⟩ : ∃ x, ι.int 59 = x := ⟨_, rfl⟩
  obtain ⟨x60, e60⟩ : ∃ x, ι.int 60 = x := ⟨_, rfl⟩
  obtain ⟨x61, e61⟩ : ∃ x, ι.int 61 = x := ⟨_, rfl⟩
  rw [e46] at h46
  rw [e47] at h47
  rw [e56] at h56
  rw [e58] at h58
  rw [e59] at h59
  rw [e60] at h60
  rw [e61] at h61
  simp only [tree, okT, b_true, b_false, b_var, b_lt, b_le, b_eq, b_not, b_and, b_or, b_beq, b_ite, e_lit, e_var, e_add, e_sub, e_mul, e_ite, e_mx, e_mn, e_wrap, IntKind.wrap_i64, e46, e47, e56, e58, e59, e60, e61]
  have flip : ∀ x : Int, -9223372036854775808 ≤ x → x ≤ 9223372036854775807 → ((x47 < (if x < -9223372036854775807 then -9223372036854775807 else x) ∨ (if x < -9223372036854775807 then -9223372036854775807 else x) < (0 - x47 + 9223372036854775808) % 18446744073709551616 - 9223372036854775808) ↔ (x47 < (0 - (if x < -9223372036854775807 then -9223372036854775807 else x) + 9223372036854775808) % 18446744073709551616 - 9223372036854775808 ∨ (0 - (if x < -9223372036854775807 then -9223372036854775807 else x) + 9223372036854775808) % 18446744073709551616 - 9223372036854775808 < (0 - x47 + 9223372036854775808) % 18446744073709551616 - 9223372036854775808)) := by
    intro x h1 h2
    by_cases hx : x < -9223372036854775807
    · simp only [if_pos hx]; omega
    · simp only [if_neg hx]; omega
  have f58 := flip x58 h58.1 h58.2
  have f59 := flip x59 h59.1 h59.2
  have f60 := flip x60 h60.1 h60.2
  have f61 := flip x61 h61.1 h61.2
  simp only [← f58, ← f59, ← f60, ← f61]
  clear f58 f59 f60 f61 flip
  grind

theorem main (W : World) (cells : List Value) (args : Array Value) (hc : AllIs ks cells) (hden : ∀ ext β, SV.denL (envOf cells ext) β svs = args.toList) : IsTrue Try.prog 9 args W := by
  obtain ⟨v, h1, h2⟩ := okT_pick (pure (envOf cells ext0) (hc.wf ext0 rfl) (hc.wf ext0 rfl) (hc.wf ext0 rfl) (hc.wf ext0 rfl) (hc.wf ext0 rfl) (hc.wf ext0 rfl) (hc.wf ext0 rfl))
  exact isTrue_of_pick (c := cx) (Hyp.nil mixed) (fun g cs h => (by cases h)) (hden ext0) (by rw [ran]; exact h1) h2

set_option maxRecDepth 100000 in
theorem lifted (os : Os) (started : os.Started) (H : Type) (enc : TypeId × Value → H) :
    ReturnsInHanded {} Try.checked os 9 .any (Rows.stickSidesSpec.pre6 enc Try.prog Try.f9 Rows.stickSidesRow.domain false) (Rows.stickSidesSpec.post enc Try.prog Try.f9 false true false false) :=
  lifted_of (C := Try.checked) (n := 3) (svs := svs) (ks := ks) own started (by kernel_rfl) Try.func9
    (ChangeSpec.witness6 (enc := enc) (C := Try.checked) false ⟨#[], #[.agg #[.int .i64 0, .int .i64 0, .int .i64 0, .int .i64 0, .int .i64 0, .slice none 0 0, .slice none 0 0, .slice none 0 0, .slice none 0 0, .int .i64 0, .int .i64 0, .int .i64 0, .int .i64 0, .int .i64 0, .int .i64 0, .int .i64 0, .int .i64 0, .int .i64 0, .int .i64 0, .int .i64 0, .int .i64 0, .int .i64 0, .int .i64 0, .int .i64 0, .int .i64 0, .int .i64 0, .int .i64 0, .int .i64 0, .int .i64 0, .int .i64 0, .int .i64 0, .int .i64 0, .int .i64 0, .int .i64 0, .int .i64 0, .int .i64 0, .int .i64 0, .int .i64 0, .int .i64 0, .int .i64 0, .int .i64 0, .int .i64 0, .int .i64 0, .int .i64 0, .int .i64 0, .int .i64 0, .int .i64 0, .int .i64 0, .int .i64 0, .int .i64 0, .int .i64 0, .int .i64 0, .int .i64 0, .int .i64 0, .int .i64 0, .int .i64 0], .int .i64 0, .agg #[.bool false, .int .i64 0, .int .i64 0, .int .i64 0, .int .i64 0, .bool false]], []⟩ 8 (by kernel_rfl) (by kernel_rfl) (by kernel_rfl) (by kernel_rfl))
    rfl rfl (by kernel_rfl) laid (by kernel_rfl) rfl (fun ds h => by
      match ds, h with
      | [d0, d1, d2], _ => exact ⟨rfl, rfl, rfl⟩)
    (by kernel_rfl) (fun W cells args ds p hc hden _ => main W cells args hc hden)
theorem over : Rows.stickSidesRow.holds Try.pinned (OpenSpec.ofChange Rows.stickSidesSpec) :=
  OpenClaim.holds_of_wide 9 Try.f9 rfl rfl rfl rfl rfl rfl rfl ⟨rfl, rfl, rfl, rfl, rfl⟩ rfl rfl rfl rfl rfl (by kernel_rfl) Try.func9 (by kernel_rfl)
    (of_decide_eq_true (by kernel_rfl)) (by unfold Func.isWrapper; first | (rw [if_pos (by decide +kernel)]; kernel_rfl) | (rw [if_neg (by decide +kernel)]; exact ⟨rfl, rfl⟩))
    (fun os started H enc _ => lifted os started H enc)
theorem proved : Rows.StickSidesSaid := over
#print axioms proved
end Go.Proofs.Ytkglnkfoeedmoaa.stickSides
namespace Go.Proofs.Ytkglnkfoeedmoaa
/-- The row, under a short name, for the claim. -/
theorem stickSides_holds : Rows.StickSidesSaid := stickSides.proved
end Go.Proofs.Ytkglnkfoeedmoaa
