/- 'CrcApart': by the executor's tree. -/
import Derived.Test.YtjmpoiafcdphbaaRows
import Derived.Test.YtjmpoiafcdphbaaSx16
import Derived.Test.YtjmpoiafcdphbaaCrcApartA
namespace Go.Proofs.Ytjmpoiafcdphbaa.crcApart
open Go.ChangeShapes Go.WideShapes Go.ChangeAt Go.RowKit Go.Proofs.YtjmpoiafcdphbaaSx
set_option linter.unusedVariables false
set_option linter.unusedSimpArgs false
theorem own : ownKnob Try.prog.godebug = none := by kernel_rfl
theorem laid : laidOutB Try.prog = true := by kernel_rfl
theorem mixed : Try.prog.follows .mixedOrders = true := by kernel_rfl
open Go.Proofs.Ytjmpoiafcdphbaa.Ca Go.Proofs.Ytjmpoiafcdphbaa.Crc
def ks : List CK := [.int .u16, .int .u16, .int .u8, .int .u8]
theorem main (W : World) (cells : List Value) (args : Array Value) (hc : AllIs W ks cells) (hden : ∀ ext β, SV.denL (envOf cells ext) β Ca.svs = args.toList) : IsTrue Try.prog 7 args W := by
  have hl : cells.length = 4 := hc.length.symm
  let a := (envOf cells ext0).int 0
  let b := (envOf cells ext0).int 1
  let c := (envOf cells ext0).int 2
  let d := (envOf cells ext0).int 3
  let x := Ca.ext a b c d
  have g : ∀ i, i < 4 → (envOf cells x).int i = (envOf cells ext0).int i := by
    intro i hi
    have hi' : i < cells.length := by omega
    simp only [envOf, List.getElem?_eq_getElem hi']
    cases cells[i] <;> rfl
  have h0 := bounds_u16 (hc.wf x (i := 0) rfl)
  have h1 := bounds_u16 (hc.wf x (i := 1) rfl)
  have h2 := bounds_u8 (hc.wf x (i := 2) rfl)
  have h3 := bounds_u8 (hc.wf x (i := 3) rfl)
  have k : ∀ i, 4 ≤ i → (envOf cells x).int i = x.int i := by
    intro i hi
    simp only [envOf, List.getElem?_eq_none (show cells.length ≤ i by omega)]
  have e1 : (envOf cells x).int 102 = stepI ((envOf cells x).int 0) ((envOf cells x).int 2) := by rw [k 102 (by omega), g 0 (by omega), g 2 (by omega)]; rfl
  have e2 : (envOf cells x).int 103 = stepI ((envOf cells x).int 0) ((envOf cells x).int 3) := by rw [k 103 (by omega), g 0 (by omega), g 3 (by omega)]; rfl
  have e3 : (envOf cells x).int 112 = stepI ((envOf cells x).int 1) ((envOf cells x).int 2) := by rw [k 112 (by omega), g 1 (by omega), g 2 (by omega)]; rfl
  have hd := hden x
  generalize envOf cells x = ι at *
  obtain ⟨v, g1, g2⟩ := okT_pick (Ca.pure h0 h1 h2 h3 e1 e2 e3)
  exact isTrue_of_pick (c := Ca.cx) (Hyp.of mixed (fun y hy => by
    simp only [Ca.cx, List.mem_cons, List.not_mem_nil, or_false] at hy
    rcases hy with rfl | rfl
    · exact Ca.shown_ok ι
    · exact Ca.step_ok h0 h1 h2 h3 e1 e2 e3)) (Nat.zero_le _) (fun k hk => absurd hk (Nat.not_lt_zero k)) (fun g cs h => by cases h) hd (by rw [Ca.ran]; exact g1) g2

set_option maxRecDepth 100000 in
theorem lifted (os : Os) (started : os.Started) (H : Type) (enc : TypeId × Value → H) :
    ReturnsInHanded {} Try.checked os 7 .any (Rows.crcApartSpec.pre6 enc Try.prog Try.f7 Rows.crcApartRow.domain false) (Rows.crcApartSpec.post enc Try.prog Try.f7 false true false false) :=
  lifted_of (C := Try.checked) (n := 3) (svs := Ca.svs) (ks := ks) own started (by kernel_rfl) Try.func7
    (ChangeSpec.witness6 (enc := enc) (C := Try.checked) false ⟨#[], #[.int .u16 0, .int .u16 0, .agg #[.int .u8 0, .int .u8 0]], []⟩ 8 (by kernel_rfl) (by kernel_rfl) (by kernel_rfl) (by kernel_rfl))
    rfl rfl (by kernel_rfl) laid (by kernel_rfl) rfl (fun ds h => by
      match ds, h with
      | [d0, d1, d2], _ => exact ⟨rfl, rfl, rfl⟩)
    (by kernel_rfl) (fun W cells args ds p hc hden _ => main W cells args hc hden)
theorem over : Rows.crcApartRow.holds Try.pinned (OpenSpec.ofChange Rows.crcApartSpec) :=
  OpenClaim.holds_of_wide 7 Try.f7 rfl rfl rfl rfl rfl rfl rfl ⟨rfl, rfl, rfl, rfl, rfl⟩ rfl rfl rfl rfl rfl (by kernel_rfl) Try.func7 (by kernel_rfl)
    (of_decide_eq_true (by kernel_rfl)) (by unfold Func.isWrapper; first | (rw [if_pos (by decide +kernel)]; kernel_rfl) | (rw [if_neg (by decide +kernel)]; exact ⟨rfl, rfl⟩))
    (fun os started H enc _ => lifted os started H enc)
theorem proved : Rows.CrcApartSaid := over
#print axioms proved
end Go.Proofs.Ytjmpoiafcdphbaa.crcApart
namespace Go.Proofs.Ytjmpoiafcdphbaa
/-- The row, under a short name, for the claim. -/
theorem crcApart_holds : Rows.CrcApartSaid := crcApart.proved
end Go.Proofs.Ytjmpoiafcdphbaa
