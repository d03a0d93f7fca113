/- 'TickEnds': by the executor's tree. -/
import Derived.Test.YtkglnkfoeedmoaaRows
import Derived.Test.YtkglnkfoeedmoaaSy16
import Derived.Test.YtkglnkfoeedmoaaTickEndsA
namespace Go.Proofs.Ytkglnkfoeedmoaa.tickEnds
open Go.ChangeShapes Go.WideShapes Go.ChangeAt Go.RowKit Go.Proofs.YtkglnkfoeedmoaaSy
set_option linter.unusedVariables false
set_option linter.unusedSimpArgs false
theorem own : ownKnob Try.prog.godebug = none := by kernel_rfl
theorem laid : laidOutB Try.prog = true := by kernel_rfl
theorem mixed : Try.prog.follows .mixedOrders = true := by kernel_rfl
open Go.Proofs.Ytkglnkfoeedmoaa.Te
def ks : List CK := [.int .u16]
theorem main (W : World) (cells : List Value) (args : Array Value) (hc : AllIs W ks cells) (hden : ∀ ext β, SV.denL (envOf cells ext) β Te.svs = args.toList) : IsTrue Try.prog 3 args W := by
  have h0 := bounds_u16 (hc.wf ext0 (i := 0) rfl)
  have hd := hden ext0
  generalize envOf cells ext0 = ι at h0 hd
  have e0 : bits .and .u16 (ι.int 0) 1023 = ι.int 0 % 1024 := and1023_u16 _
  obtain ⟨M, hM⟩ := Int.eq_ofNat_of_zero_le (show 0 ≤ ι.int 0 % 1024 by omega)
  have hM : ι.int 0 % 1024 = (M : Int) := hM
  have hmo : mo.den ι = (M : Int) := by
    show IntKind.i64.wrap (bits .and .u16 (ι.int 0) 1023) = _
    rw [e0, hM, IntKind.wrap_i64]; omega
  have H : Hyp Te.cx ι := Hyp.of' mixed (fun x hx => by cases hx) (rows_nil rfl) (hyp_loop (c := Te.cx) rfl one_loop (fun w0 X => loop_ok mixed hmo (by omega) w0 X))
  have hp : okT ι Te.tree := by simp only [Te.tree, okT, b_eq]
  obtain ⟨v, h1, h2⟩ := okT_pick hp
  exact isTrue_of_pick (c := Te.cx) H (Nat.zero_le _) (fun k hk => absurd hk (Nat.not_lt_zero k)) (fun g cs h => by cases h) hd (by rw [Te.ran]; exact h1) h2

set_option maxRecDepth 100000 in
theorem lifted (os : Os) (started : os.Started) (H : Type) (enc : TypeId × Value → H) :
    ReturnsInHanded {} Try.checked os 3 .any (Rows.tickEndsSpec.pre6 enc Try.prog Try.f3 Rows.tickEndsRow.domain false) (Rows.tickEndsSpec.post enc Try.prog Try.f3 false true false false) :=
  lifted_of (C := Try.checked) (n := 1) (svs := Te.svs) (ks := ks) own started (by kernel_rfl) Try.func3
    (ChangeSpec.witness6 (enc := enc) (C := Try.checked) false ⟨#[], #[.int .u16 0], []⟩ 8 (by kernel_rfl) (by kernel_rfl) (by kernel_rfl) (by kernel_rfl))
    rfl rfl (by kernel_rfl) laid (by kernel_rfl) rfl (fun ds h => by
      match ds, h with
      | [d0], _ => exact ⟨rfl, rfl, rfl⟩)
    (by kernel_rfl) (fun W cells args ds p hc hden _ => main W cells args hc hden)
theorem over : Rows.tickEndsRow.holds Try.pinned (OpenSpec.ofChange Rows.tickEndsSpec) :=
  OpenClaim.holds_of_wide 3 Try.f3 rfl rfl rfl rfl rfl rfl rfl ⟨rfl, rfl, rfl, rfl, rfl⟩ rfl rfl rfl rfl rfl (by kernel_rfl) Try.func3 (by kernel_rfl)
    (of_decide_eq_true (by kernel_rfl)) (by unfold Func.isWrapper; first | (rw [if_pos (by decide +kernel)]; kernel_rfl) | (rw [if_neg (by decide +kernel)]; exact ⟨rfl, rfl⟩))
    (fun os started H enc _ => lifted os started H enc)
theorem proved : Rows.TickEndsSaid := over
#print axioms proved
end Go.Proofs.Ytkglnkfoeedmoaa.tickEnds
namespace Go.Proofs.Ytkglnkfoeedmoaa
/-- The row, under a short name, for the claim. -/
theorem tickEnds_holds : Rows.TickEndsSaid := tickEnds.proved
end Go.Proofs.Ytkglnkfoeedmoaa
