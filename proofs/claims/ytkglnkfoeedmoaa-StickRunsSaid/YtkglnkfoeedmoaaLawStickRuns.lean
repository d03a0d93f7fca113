/- 'StickRuns': by the executor's tree. -/
import Derived.Test.YtkglnkfoeedmoaaRows
import Derived.Test.YtkglnkfoeedmoaaSy16
import Derived.Test.YtkglnkfoeedmoaaStickRunsA
namespace Go.Proofs.Ytkglnkfoeedmoaa.stickRuns
open Go.ChangeShapes Go.WideShapes Go.ChangeAt Go.RowKit Go.Proofs.YtkglnkfoeedmoaaSy
set_option linter.unusedVariables false
set_option linter.unusedSimpArgs false
theorem own : ownKnob Try.prog.godebug = none := by kernel_rfl
theorem laid : laidOutB Try.prog = true := by kernel_rfl
theorem mixed : Try.prog.follows .mixedOrders = true := by kernel_rfl
open Go.Proofs.Ytkglnkfoeedmoaa.Sr
def ks : List CK := [.int .u8, .int .u16, .slice]
theorem elem_flat : flat Try.prog 20 47 = some (rk.map RK.ck) := by kernel_rfl
theorem elem_size : Try.prog.cellsOf 47 = rk.length := by kernel_rfl
theorem under45 : Try.prog.underlying 45 = some (.slice 47) := by kernel_rfl
theorem params : Try.f8.params.toList = [5, 22, 45] := by kernel_rfl
theorem main {H : Type} {enc : TypeId × Value → H} (W : World) (cells : List Value) (args : Array Value) (ds : List (DataW H)) (p : List MemPlace) (hc : AllIs W ks cells) (hden : ∀ ext β, SV.denL (envOf cells ext) β Sr.svs = args.toList)
    (hA : DataW.TrodAll enc Try.prog W 0 (fun _ => true) true Try.f8.params.toList args.toList ds p) : IsTrue Try.prog 8 args W := by
  obtain ⟨sa, hsa⟩ : ∃ sa, sa = (envOf cells ext0).sa 2 := ⟨_, rfl⟩
  let ext := extRow W 2 sa 6
  have hd := hden ext
  have h0 := bounds_u8 (hc.wf ext (i := 0) rfl)
  have h1 := bounds_u16 (hc.wf ext (i := 1) rfl)
  have hv := hden ext ⟨fun _ => 0, fun _ => .bool false, fun _ => rfl⟩
  rw [← hv, params] at hA
  have esa : (envOf cells ext).sa 2 = sa := by
    rw [hsa]
    obtain ⟨v, hv2, _⟩ := hc.get (i := 2) rfl
    simp only [envOf, hv2]
    cases v <;> rfl
  have efn : ∀ f z, (envOf cells ext).fn f z = rdCell W sa 6 (f - 128) z := fun f z => rfl
  have hrd : (envOf cells ext).sl 2 = 0 ∨ ∃ b o, sa = some ⟨b, o, none⟩ ∧ b < W.heap.size ∧ ∀ i : Nat, i < (envOf cells ext).sl 2 → ∀ j k, rk[j]? = some k → W.cell? ⟨b, o + i * rk.length + j, none⟩ = some (cellOf (rdCell W sa rk.length j i) k) ∧ ∀ q, k = .int q → (Lit.int q (rdCell W sa rk.length j i)).wf = true := by
    match ds, hA with
    | [d0, d1, d2], ⟨_, _, _, ⟨_, _, _, ⟨_, _, ⟨fuel, ht⟩, _, _⟩, _⟩, _⟩ =>
      rw [← esa]
      exact rows_of (sc := (envOf cells ext).sc 2) under45 elem_flat elem_size (by decide) ht
  generalize envOf cells ext = ι at *
  have hR : RowsOk (c0 W) ι := by
    intro n ks hk
    have hk : (Bool.rec none (some rk) (Nat.beq 2 n) : Option (List RK)) = some ks := hk
    cases hb : Nat.beq 2 n with
    | false => rw [hb] at hk; cases hk
    | true =>
      rw [hb] at hk
      have hk : rk = ks := Option.some.inj hk
      subst hk
      have := Nat.eq_of_beq_eq_true hb
      subst this
      rcases hrd with h | ⟨b, o, e1, e2, e3⟩
      · exact .inl h
      · refine .inr ⟨b, o, by rw [esa, e1], e2, fun i hi j k hk => ?_⟩
        show W.cell? ⟨b, o + i * rk.length + j, none⟩ = _
        rw [(e3 i hi j k hk).1]
        have hj : fnNo 2 j - 128 = j := by unfold fnNo; omega
        have e4 : rdCell W sa rk.length j i = ι.fn (fnNo 2 j) i := by rw [efn, hj]; rfl
        rw [e4]
        cases k <;> rfl
  have hx : ∀ i j : Nat, 129 ≤ j → j ≤ 132 → i < ι.sl 2 → -9223372036854775808 ≤ ι.fn j i ∧ ι.fn j i ≤ 9223372036854775807 := by
    intro i j g1 g2 hi
    rcases hrd with h | ⟨b, o, e1, e2, e3⟩
    · omega
    · have hk : rk[j - 128]? = some (.int .i64) := by
        rcases (by omega : j = 129 ∨ j = 130 ∨ j = 131 ∨ j = 132) with rfl | rfl | rfl | rfl <;> rfl
      have := bounds_i64 ((e3 i hi _ _ hk).2 .i64 rfl)
      rw [efn]
      exact ⟨this.1, by have := this.2; show rdCell W sa 6 (j - 128) i ≤ _; have e : rk.length = 6 := rfl; rw [e] at this; omega⟩
  obtain ⟨S, eS⟩ : ∃ S, st.den ι = S := ⟨_, rfl⟩
  obtain ⟨B, eB⟩ : ∃ B, bd.den ι = B := ⟨_, rfl⟩
  have hS : 1 ≤ S ∧ S ≤ 16 := by
    have w : IntKind.i64.wrap (ι.int 0) = ι.int 0 := by rw [IntKind.wrap_i64]; omega
    have e : st.den ι = 1 + ι.int 0 % 16 := by
      show IntKind.i64.wrap (1 + (IntKind.i64.wrap (ι.int 0)).tmod 16) = _
      rw [w, tmod_nonneg _ _ h0.1, IntKind.wrap_i64]; omega
    rw [← eS, e]; omega
  have hB : 0 ≤ B ∧ B ≤ 1000 := by
    have w : IntKind.i64.wrap (ι.int 1) = ι.int 1 := by rw [IntKind.wrap_i64]; omega
    have e : bd.den ι = ι.int 1 % 1001 := by
      show (IntKind.i64.wrap (ι.int 1)).tmod 1001 = _
      rw [w, tmod_nonneg _ _ h1.1]
    rw [← eB, e]; omega
  have HH : Hyp (Sr.cx W) ι := Hyp.of' mixed (fun x hx => by cases hx) hR (hyp_loop (c := Sr.cx W) rfl one_loop (fun w0 X => loop_ok mixed eS eB hB hS hR hx w0 X))
  have hp : okT ι Sr.tree := by simp only [Sr.tree, okT, b_true]
  obtain ⟨v, g1, g2⟩ := okT_pick hp
  exact isTrue_of_pick (c := Sr.cx W) HH (Nat.le_refl _) (fun k _ => rfl) (fun g cs h => by cases h) hd (by rw [Sr.ran]; exact g1) g2

set_option maxRecDepth 100000 in
theorem lifted (os : Os) (started : os.Started) (H : Type) (enc : TypeId × Value → H) :
    ReturnsInHanded {} Try.checked os 8 .any (Rows.stickRunsSpec.pre6 enc Try.prog Try.f8 Rows.stickRunsRow.domain false) (Rows.stickRunsSpec.post enc Try.prog Try.f8 false true false false) :=
  lifted_of (C := Try.checked) (n := 3) (svs := Sr.svs) (ks := ks) own started (by kernel_rfl) Try.func8
    (ChangeSpec.witness6 (enc := enc) (C := Try.checked) false ⟨#[], #[.int .u8 0, .int .u16 0, .slice none 0 0], []⟩ 8 (by kernel_rfl) (by kernel_rfl) (by kernel_rfl) (by kernel_rfl))
    rfl rfl (by kernel_rfl) laid (by kernel_rfl) rfl (fun ds h => by
      match ds, h with
      | [d0, d1, d2], _ => exact ⟨rfl, rfl, rfl⟩)
    (by kernel_rfl) (fun W cells args ds p hc hden hA => main W cells args ds p hc hden hA)
theorem over : Rows.stickRunsRow.holds Try.pinned (OpenSpec.ofChange Rows.stickRunsSpec) :=
  OpenClaim.holds_of_wide 8 Try.f8 rfl rfl rfl rfl rfl rfl rfl ⟨rfl, rfl, rfl, rfl, rfl⟩ rfl rfl rfl rfl rfl (by kernel_rfl) Try.func8 (by kernel_rfl)
    (of_decide_eq_true (by kernel_rfl)) (by unfold Func.isWrapper; first | (rw [if_pos (by decide +kernel)]; kernel_rfl) | (rw [if_neg (by decide +kernel)]; exact ⟨rfl, rfl⟩))
    (fun os started H enc _ => lifted os started H enc)
theorem proved : Rows.StickRunsSaid := over
#print axioms proved
end Go.Proofs.Ytkglnkfoeedmoaa.stickRuns
namespace Go.Proofs.Ytkglnkfoeedmoaa
/-- The row, under a short name, for the claim. -/
theorem stickRuns_holds : Rows.StickRunsSaid := stickRuns.proved
end Go.Proofs.Ytkglnkfoeedmoaa
