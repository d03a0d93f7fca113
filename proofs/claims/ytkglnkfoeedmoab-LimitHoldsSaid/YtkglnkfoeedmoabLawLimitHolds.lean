/- 'LimitHolds': by the executor's tree. -/
import Derived.Test.YtkglnkfoeedmoabRows
import Derived.Test.YtkglnkfoeedmoabSx16
import Derived.Test.YtkglnkfoeedmoabLimHoldsB
namespace Go.Proofs.Ytkglnkfoeedmoab.limitHolds
open Go.ChangeShapes Go.WideShapes Go.ChangeAt Go.RowKit Go.Proofs.YtkglnkfoeedmoabSx
set_option linter.unusedVariables false
set_option linter.unusedSimpArgs false
theorem own : ownKnob Try.prog.godebug = none := by kernel_rfl
theorem laid : laidOutB Try.prog = true := by kernel_rfl
theorem mixed : Try.prog.follows .mixedOrders = true := by kernel_rfl
open Go.Proofs.Ytkglnkfoeedmoab.Fit Go.Proofs.Ytkglnkfoeedmoab.Lh
def ks : List CK := [.int .i64, .int .i64, .int .i64, .int .i64, .int .i64, .ints .u8, .ints .u8, .ints .u8, .ints .u8, .int .i64, .int .i64, .int .i64, .int .i64, .int .i64, .int .i64, .int .i64, .int .i64, .int .i64, .int .i64, .int .i64, .int .i64, .int .i64, .int .i64, .int .i64, .int .i64, .int .i64, .int .i64, .int .i64, .int .i64, .int .i64, .int .i64, .int .i64, .int .i64, .int .i64, .int .i64, .int .i64, .int .i64, .int .i64, .int .i64, .int .i64, .int .i64, .int .i64, .int .i64, .int .i64, .int .i64, .int .i64, .int .i64, .int .i64, .int .i64, .int .i64, .int .i64, .int .i64, .int .i64, .int .i64, .int .i64, .int .i64, .int .i64, .int .i64, .int .i64, .int .i64, .int .i64, .int .i64, .int .i64, .int .i64, .int .i64, .int .i64, .int .i64, .int .i64]
theorem main (W : World) (cells : List Value) (args : Array Value) (hc : AllIs W ks cells) (hden : ∀ ext β, SV.denL (envOf cells ext) β Lh.svs = args.toList) : IsTrue Try.prog 6 args W := by
  have hlen : ks.length = cells.length := hc.length
  have hge : 56 ≤ cells.length := by rw [← hlen]; decide
  obtain ⟨ext, hext⟩ : ∃ ext, ext = extOf 200 fitCells (envOf cells ext0) := ⟨_, rfl⟩
  have hst : Stands 200 56 fitCells (envOf cells ext) := by rw [hext]; exact stands_more hge (by rw [← hlen]; decide)
  have hrow : ∀ i, 5 ≤ i → i ≤ 8 → ∃ zs, IsRow .u8 W ((envOf cells ext).sa i) ((envOf cells ext).sl i) ((envOf cells ext).sc i) zs := by
    intro i h1 h2
    have hk : ks[i]? = some (.ints .u8) := by
      rcases (by omega : i = 5 ∨ i = 6 ∨ i = 7 ∨ i = 8) with rfl | rfl | rfl | rfl <;> rfl
    exact hc.row ext hk
  have hdenι := hden ext
  generalize envOf cells ext = ι at hst hrow hdenι
  obtain ⟨F, hF⟩ := far_is ι
  have eR := (hst 54).1 .i64 _ rfl rfl
  obtain ⟨k, ek, k0, k1⟩ := mod_is (ι.int 54) 1000 1 (by decide) (by decide) (by decide) (by decide)
  have eR : ι.int 254 = 1 + k := eR.trans ek
  have H : Hyp (Lh.cx W) ι := by
    refine Hyp.of' mixed (fun x hx => ?_) (rows_nil rfl) (hyp_loop (c := Lh.cx W) rfl one_loop (fun w0 X => loop_ok (W := W) mixed hF (by omega) eR w0 X))
    have hx : x ∈ [(13, conTold [pol] 200 fitKinds)] := hx
    simp only [List.mem_cons, List.not_mem_nil, or_false] at hx
    subst hx
    exact ConOk.of_hyp (c1 := { P := Try.prog, ro := 0, glob := [], con := [(13, conTold [pol] 200 fitKinds)], base := W.heap.size, bw := W }) (hyp_fit mixed rfl rfl rfl rfl hrow hst) rfl rfl rfl rfl rfl
  have hp : okT ι Lh.tree := by simp only [Lh.tree, okT, b_beq]
  obtain ⟨v, h1, h2⟩ := okT_pick hp
  exact isTrue_of_pick (c := Lh.cx W) H (Nat.le_refl _) (fun k _ => rfl) (fun g cs h => by cases h) (hdenι) (by rw [Lh.ran]; exact h1) h2

set_option maxRecDepth 100000 in
theorem lifted (os : Os) (started : os.Started) (H : Type) (enc : TypeId × Value → H) :
    ReturnsInHanded {} Try.checked os 6 .any (Rows.limitHoldsSpec.pre6 enc Try.prog Try.f6 Rows.limitHoldsRow.domain false) (Rows.limitHoldsSpec.post enc Try.prog Try.f6 false true false false) :=
  lifted_of (C := Try.checked) (n := 2) (svs := Lh.svs) (ks := ks) own started (by kernel_rfl) Try.func6
    (ChangeSpec.witness6 (enc := enc) (C := Try.checked) false ⟨#[], #[.agg #[.int .i64 0, .int .i64 0, .int .i64 0, .int .i64 0, .int .i64 0, .slice none 0 0, .slice none 0 0, .slice none 0 0, .slice none 0 0, .int .i64 0, .int .i64 0, .int .i64 0, .int .i64 0, .int .i64 0, .int .i64 0, .int .i64 0, .int .i64 0, .int .i64 0, .int .i64 0, .int .i64 0, .int .i64 0, .int .i64 0, .int .i64 0, .int .i64 0, .int .i64 0, .int .i64 0, .int .i64 0, .int .i64 0, .int .i64 0, .int .i64 0, .int .i64 0, .int .i64 0, .int .i64 0, .int .i64 0, .int .i64 0, .int .i64 0, .int .i64 0, .int .i64 0, .int .i64 0, .int .i64 0, .int .i64 0, .int .i64 0, .int .i64 0, .int .i64 0, .int .i64 0, .int .i64 0, .int .i64 0, .int .i64 0, .int .i64 0, .int .i64 0, .int .i64 0, .int .i64 0, .int .i64 0, .int .i64 0, .int .i64 0, .int .i64 0], .agg #[.int .i64 0, .int .i64 0, .int .i64 0, .int .i64 0, .int .i64 0, .int .i64 0, .int .i64 0, .int .i64 0, .int .i64 0, .int .i64 0, .int .i64 0, .int .i64 0]], []⟩ 8 (by kernel_rfl) (by kernel_rfl) (by kernel_rfl) (by kernel_rfl))
    rfl rfl (by kernel_rfl) laid (by kernel_rfl) rfl (fun ds h => by
      match ds, h with
      | [d0, d1], _ => exact ⟨rfl, rfl, rfl⟩)
    (by kernel_rfl) (fun W cells args ds p hc hden _ => main W cells args hc hden)
theorem over : Rows.limitHoldsRow.holds Try.pinned (OpenSpec.ofChange Rows.limitHoldsSpec) :=
  OpenClaim.holds_of_wide 6 Try.f6 rfl rfl rfl rfl rfl rfl rfl ⟨rfl, rfl, rfl, rfl, rfl⟩ rfl rfl rfl rfl rfl (by kernel_rfl) Try.func6 (by kernel_rfl)
    (of_decide_eq_true (by kernel_rfl)) (by unfold Func.isWrapper; first | (rw [if_pos (by decide +kernel)]; kernel_rfl) | (rw [if_neg (by decide +kernel)]; exact ⟨rfl, rfl⟩))
    (fun os started H enc _ => lifted os started H enc)
theorem proved : Rows.LimitHoldsSaid := over
#print axioms proved
end Go.Proofs.Ytkglnkfoeedmoab.limitHolds
namespace Go.Proofs.Ytkglnkfoeedmoab
/-- The row, under a short name, for the claim. -/
theorem limitHolds_holds : Rows.LimitHoldsSaid := limitHolds.proved
end Go.Proofs.Ytkglnkfoeedmoab
