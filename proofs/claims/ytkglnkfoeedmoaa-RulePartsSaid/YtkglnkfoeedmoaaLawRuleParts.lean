/- 'RuleParts': by the executor's tree. -/
import Derived.Test.YtkglnkfoeedmoaaRows
import Derived.Test.YtkglnkfoeedmoaaSx16
import Derived.Test.YtkglnkfoeedmoaaParts0
import Derived.Test.YtkglnkfoeedmoaaParts1
import Derived.Test.YtkglnkfoeedmoaaParts2
import Derived.Test.YtkglnkfoeedmoaaParts3
import Derived.Test.YtkglnkfoeedmoaaParts4
namespace Go.Proofs.Ytkglnkfoeedmoaa.ruleParts
open Go.ChangeShapes Go.WideShapes Go.ChangeAt Go.RowKit Go.Proofs.YtkglnkfoeedmoaaSx
set_option linter.unusedVariables false
set_option linter.unusedSimpArgs false
theorem own : ownKnob Try.prog.godebug = none := by kernel_rfl
theorem laid : laidOutB Try.prog = true := by kernel_rfl
theorem mixed : Try.prog.follows .mixedOrders = true := by kernel_rfl
open Go.Proofs.Ytkglnkfoeedmoaa.Fit Go.Proofs.Ytkglnkfoeedmoaa.Sums Go.Proofs.Ytkglnkfoeedmoaa.Parts
attribute [local irreducible] Parts.run
def ks : List CK := [.int .i64, .int .i64, .int .i64, .int .i64, .int .i64, .ints .u8, .ints .u8, .ints .u8, .ints .u8, .int .i64, .int .i64, .int .i64, .int .i64, .int .i64, .int .i64, .int .i64, .int .i64, .int .i64, .int .i64, .int .i64, .int .i64, .int .i64, .int .i64, .int .i64, .int .i64, .int .i64, .int .i64, .int .i64, .int .i64, .int .i64, .int .i64, .int .i64, .int .i64, .int .i64, .int .i64, .int .i64, .int .i64, .int .i64, .int .i64, .int .i64, .int .i64, .int .i64, .int .i64, .int .i64, .int .i64, .int .i64, .int .i64, .int .i64, .int .i64, .int .i64, .int .i64, .int .i64, .int .i64, .int .i64, .int .i64, .int .i64, .int .u8, .int .u8, .int .u8, .int .u8, .int .u8]
theorem isTrue_of_pickA {c : Ctx} {ι : Env} {W : World} {f n d : Nat} {args : Array Value} {svs : List SV} {v : SV} {asm : Asm} (hasm : AsmOk ι asm) (H : Hyp c ι) (hb1 : c.base ≤ W.heap.size) (hb2 : ∀ k, k < c.base → W.heap[k]? = c.bw.heap[k]?)
    (hglob : c.glob = []) (hden : ∀ β, SV.denL ι β svs = args.toList)
    (hp : ((execCall n d c f svs [] 0 asm).bind fun x => .leaf x.1).pick ι = some v) (hv : ∀ β, v.den ι β = .bool true) : IsTrue c.P f args W := by
  obtain ⟨⟨v', m, k, l⟩, h1, h2⟩ := (pick_bind _ _ _).1 hp
  have h2 : some v' = some v := h2
  injection h2 with h2; subst h2
  let β0 : Bt := ⟨fun _ => 0, fun _ => .bool false, fun _ => rfl⟩
  have hM : StM c W (fun _ => False) ι β0 [] 0 W := fun β' _ => by
    refine ⟨fun _ _ h => (by cases h), fun _ _ h => (by cases h), List.nodup_nil, fun _ h => (by cases h), fun _ h => (by cases h), fun g cs hg => ?_, Fr.refl _ _, hb1, fun _ h => h.elim, hb2⟩
    rw [hglob] at hg; cases hg
  have := execCall_ok (ι := ι) n d c H W (fun _ => False) β0 f svs [] 0 asm W v' m k l hasm (fun _ _ => by rw [hden, hden]) hM h1
  have e : (SV.denL ι β0 svs).toArray = args := by apply Array.toList_inj.1; rw [hden]
  rw [e] at this
  refine Calls.mono this fun e W' ⟨_, _, β1, _, he, hM'⟩ => ⟨?_, ?_⟩
  · rw [he β1 (Agree.refl _ _), hv]
  · have k := (hM' β1 (Agree.refl _ _)).fr
    exact ⟨k.os, k.tape, k.output, k.size, fun i hi => k.block i hi (fun h => h)⟩
theorem bit (s c : Int) (h0 : 0 ≤ s) (h1 : s < 256) (c0 : 0 ≤ c) (c1 : c < 4) :
    bits .and .i64 ((bits .and .i64 (IntKind.i64.wrap s) 15).fdiv (2 ^ min c.toNat 64)) 1 = bits .and .u8 (s.fdiv (2 ^ min c.toNat 8)) 1 ∧
    bits .and .i64 ((bits .and .i64 (IntKind.i64.wrap s) 31).fdiv (2 ^ min c.toNat 64)) 1 = bits .and .u8 (s.fdiv (2 ^ min c.toNat 8)) 1 := by
  have w : IntKind.i64.wrap s = s := by rw [IntKind.wrap_i64]; omega
  rw [w, and15_i64, and31_i64, and1_i64, and1_i64, and1_u8]
  have hc : c = 0 ∨ c = 1 ∨ c = 2 ∨ c = 3 := by omega
  rcases hc with rfl | rfl | rfl | rfl
  · show (s % 16).fdiv 1 % 2 = s.fdiv 1 % 2 ∧ (s % 32).fdiv 1 % 2 = s.fdiv 1 % 2
    rw [Int.fdiv_eq_ediv_of_nonneg _ (by decide), Int.fdiv_eq_ediv_of_nonneg _ (by decide), Int.fdiv_eq_ediv_of_nonneg _ (by decide)]; omega
  · show (s % 16).fdiv 2 % 2 = s.fdiv 2 % 2 ∧ (s % 32).fdiv 2 % 2 = s.fdiv 2 % 2
    rw [Int.fdiv_eq_ediv_of_nonneg _ (by decide), Int.fdiv_eq_ediv_of_nonneg _ (by decide), Int.fdiv_eq_ediv_of_nonneg _ (by decide)]; omega
  · show (s % 16).fdiv 4 % 2 = s.fdiv 4 % 2 ∧ (s % 32).fdiv 4 % 2 = s.fdiv 4 % 2
    rw [Int.fdiv_eq_ediv_of_nonneg _ (by decide), Int.fdiv_eq_ediv_of_nonneg _ (by decide), Int.fdiv_eq_ediv_of_nonneg _ (by decide)]; omega
  · show (s % 16).fdiv 8 % 2 = s.fdiv 8 % 2 ∧ (s % 32).fdiv 8 % 2 = s.fdiv 8 % 2
    rw [Int.fdiv_eq_ediv_of_nonneg _ (by decide), Int.fdiv_eq_ediv_of_nonneg _ (by decide), Int.fdiv_eq_ediv_of_nonneg _ (by decide)]; omega
theorem all_tried (W : World) (m z : Int) (h0 : 0 ≤ m) (h1 : m < 5) (g0 : 0 ≤ z) (g1 : z < 5) : okTM (tm m z) (nam bnd) (run W m z) (asm1 m z) = true := by
  have hc : m = 0 ∨ m = 1 ∨ m = 2 ∨ m = 3 ∨ m = 4 := by omega
  have hz : z = 0 ∨ z = 1 ∨ z = 2 ∨ z = 3 ∨ z = 4 := by omega
  rcases hc with rfl | rfl | rfl | rfl | rfl <;> rcases hz with rfl | rfl | rfl | rfl | rfl
  · exact tried0_0 W
  · exact tried0_1 W
  · exact tried0_2 W
  · exact tried0_3 W
  · exact tried0_4 W
  · exact tried1_0 W
  · exact tried1_1 W
  · exact tried1_2 W
  · exact tried1_3 W
  · exact tried1_4 W
  · exact tried2_0 W
  · exact tried2_1 W
  · exact tried2_2 W
  · exact tried2_3 W
  · exact tried2_4 W
  · exact tried3_0 W
  · exact tried3_1 W
  · exact tried3_2 W
  · exact tried3_3 W
  · exact tried3_4 W
  · exact tried4_0 W
  · exact tried4_1 W
  · exact tried4_2 W
  · exact tried4_3 W
  · exact tried4_4 W
theorem pure (W : World) (ι : Env) (h56 : (Lit.int .u8 (ι.int 56)).wf = true) (h57 : (Lit.int .u8 (ι.int 57)).wf = true) (h58 : (Lit.int .u8 (ι.int 58)).wf = true) (h59 : (Lit.int .u8 (ι.int 59)).wf = true) (h60 : (Lit.int .u8 (ι.int 60)).wf = true) :
    AsmOk ι (asm0 (ι.int 56 % 5) (ι.int 59 % 5)) ∧ okT ι (run W (ι.int 56 % 5) (ι.int 59 % 5)) := by
  have h56 := bounds_u8 h56
  have h57 := bounds_u8 h57
  have h58 := bounds_u8 h58
  have h59 := bounds_u8 h59
  have h60 := bounds_u8 h60
  have em : mo.den ι = ι.int 56 % 5 := by
    show (IntKind.i64.wrap (ι.int 56)).tmod 5 = _
    have w : IntKind.i64.wrap (ι.int 56) = ι.int 56 := by rw [IntKind.wrap_i64]; omega
    rw [w, tmod_nonneg _ _ h56.1]
  have er : ro.den ι = ι.int 57 % 4 := by
    show (IntKind.i64.wrap (ι.int 57)).tmod 4 = _
    have w : IntKind.i64.wrap (ι.int 57) = ι.int 57 := by rw [IntKind.wrap_i64]; omega
    rw [w, tmod_nonneg _ _ h57.1]
  have ec : cl.den ι = ι.int 58 % 4 := by
    show (IntKind.i64.wrap (ι.int 58)).tmod 4 = _
    have w : IntKind.i64.wrap (ι.int 58) = ι.int 58 := by rw [IntKind.wrap_i64]; omega
    rw [w, tmod_nonneg _ _ h58.1]
  have es : so.den ι = ι.int 59 % 5 := by
    show (IntKind.i64.wrap (ι.int 59)).tmod 5 = _
    have w : IntKind.i64.wrap (ι.int 59) = ι.int 59 := by rw [IntKind.wrap_i64]; omega
    rw [w, tmod_nonneg _ _ h59.1]
  have a0 : AsmOk ι (asm0 (ι.int 56 % 5) (ι.int 59 % 5)) := by
    refine AsmOk.cons (AsmOk.cons AsmOk.nil ?_) ?_
    · show decide (so.den ι = ι.int 59 % 5) = true
      rw [es]; simp
    · show decide (mo.den ι = ι.int 56 % 5) = true
      rw [em]; simp
  have a1 : AsmOk ι (asm1 (ι.int 56 % 5) (ι.int 59 % 5)) := by
    refine AsmOk.cons a0 ?_
    show (decide (ro.den ι = 0) || (decide (ro.den ι = 1) || (decide (ro.den ι = 2) || decide (ro.den ι = 3)))) = true
    rw [er]; simp only [Bool.or_eq_true, decide_eq_true_eq]; omega
  refine ⟨a0, okTM_ok (fun n p hn => ?_) (fun x hx => ?_) _ a1 (all_tried W _ _ (by omega) (by omega) (by omega) (by omega))⟩
  · have hm := nam_mem hn
    simp only [bnd, List.mem_cons, Prod.mk.injEq, List.not_mem_nil, or_false] at hm
    rcases hm with ⟨rfl, rfl⟩ | ⟨rfl, rfl⟩ | ⟨rfl, rfl⟩ | ⟨rfl, rfl⟩ | ⟨rfl, rfl⟩ <;> simp only [inI] <;> omega
  · simp only [tm, List.mem_cons, List.not_mem_nil, or_false] at hx
    rcases hx with rfl | rfl | rfl | rfl | rfl
    · exact em
    · exact es
    · have := (bit (ι.int 60) (cl.den ι) h60.1 (by omega) (by omega) (by omega)).1
      exact this
    · have := (bit (ι.int 60) (ro.den ι) h60.1 (by omega) (by omega) (by omega)).1
      exact this
    · have := (bit (ι.int 60) (cl.den ι) h60.1 (by omega) (by omega) (by omega)).2
      exact this
theorem main (W : World) (cells : List Value) (args : Array Value) (hc : AllIs W ks cells) (hden : ∀ ext β, SV.denL (envOf cells ext) β Parts.svs = args.toList) : IsTrue Try.prog 13 args W := by
  have hlen : ks.length = cells.length := hc.length
  have hge : 56 ≤ cells.length := by rw [← hlen]; decide
  let ext := extOf 200 fitCells (envOf cells ext0)
  have hst : Stands 200 56 fitCells (envOf cells ext) := stands_more hge (by rw [← hlen]; decide)
  have hrow : ∀ i, 5 ≤ i → i ≤ 8 → ∃ zs, IsRow .u8 W ((envOf cells ext).sa i) ((envOf cells ext).sl i) ((envOf cells ext).sc i) zs := by
    intro i h1 h2
    have hk : ks[i]? = some (.ints .u8) := by
      rcases (by omega : i = 5 ∨ i = 6 ∨ i = 7 ∨ i = 8) with rfl | rfl | rfl | rfl <;> rfl
    exact hc.row ext hk
  obtain ⟨ha, hp⟩ := pure W (envOf cells ext) (hc.wf ext rfl) (hc.wf ext rfl) (hc.wf ext rfl) (hc.wf ext rfl) (hc.wf ext rfl)
  obtain ⟨v, h1, h2⟩ := okT_pick hp
  have H : Hyp (Parts.cx W) (envOf cells ext) := by
    refine Hyp.of mixed (fun x hx => ?_)
    have hx : x ∈ [(20, conTold [pol] 200 fitKinds), (30, conSum shMay vMay), (31, conSum shGoes vGoes), (32, conSum shTakes vTakes)] := hx
    simp only [List.mem_cons, List.not_mem_nil, or_false] at hx
    rcases hx with rfl | rfl | rfl | rfl
    · exact ConOk.of_hyp (c1 := { P := Try.prog, ro := 0, glob := [], con := [(20, conTold [pol] 200 fitKinds)], base := W.heap.size, bw := W }) (hyp_fit mixed rfl rfl rfl rfl hrow hst) rfl rfl rfl rfl rfl
    · exact okMay rfl mixed
    · exact okGoes rfl mixed
    · exact okTakes rfl mixed
  exact isTrue_of_pickA (c := Parts.cx W) ha H (Nat.le_refl _) (fun k _ => rfl) rfl (hden ext) (by unfold Parts.run at h1; exact h1) h2

set_option maxRecDepth 100000 in
theorem lifted (os : Os) (started : os.Started) (H : Type) (enc : TypeId × Value → H) :
    ReturnsInHanded {} Try.checked os 13 .any (Rows.rulePartsSpec.pre6 enc Try.prog Try.f13 Rows.rulePartsRow.domain false) (Rows.rulePartsSpec.post enc Try.prog Try.f13 false true false false) :=
  lifted_of (C := Try.checked) (n := 3) (svs := Parts.svs) (ks := ks) own started (by kernel_rfl) Try.func13
    (ChangeSpec.witness6 (enc := enc) (C := Try.checked) false ⟨#[], #[.agg #[.int .i64 0, .int .i64 0, .int .i64 0, .int .i64 0, .int .i64 0, .slice none 0 0, .slice none 0 0, .slice none 0 0, .slice none 0 0, .int .i64 0, .int .i64 0, .int .i64 0, .int .i64 0, .int .i64 0, .int .i64 0, .int .i64 0, .int .i64 0, .int .i64 0, .int .i64 0, .int .i64 0, .int .i64 0, .int .i64 0, .int .i64 0, .int .i64 0, .int .i64 0, .int .i64 0, .int .i64 0, .int .i64 0, .int .i64 0, .int .i64 0, .int .i64 0, .int .i64 0, .int .i64 0, .int .i64 0, .int .i64 0, .int .i64 0, .int .i64 0, .int .i64 0, .int .i64 0, .int .i64 0, .int .i64 0, .int .i64 0, .int .i64 0, .int .i64 0, .int .i64 0, .int .i64 0, .int .i64 0, .int .i64 0, .int .i64 0, .int .i64 0, .int .i64 0, .int .i64 0, .int .i64 0, .int .i64 0, .int .i64 0, .int .i64 0], .agg #[.int .u8 0, .int .u8 0, .int .u8 0, .int .u8 0], .int .u8 0], []⟩ 8 (by kernel_rfl) (by kernel_rfl) (by kernel_rfl) (by kernel_rfl))
    rfl rfl (by kernel_rfl) laid (by kernel_rfl) rfl (fun ds h => by
      match ds, h with
      | [d0, d1, d2], _ => exact ⟨rfl, rfl, rfl⟩)
    (by kernel_rfl) (fun W cells args ds p hc hden _ => main W cells args hc hden)
theorem over : Rows.rulePartsRow.holds Try.pinned (OpenSpec.ofChange Rows.rulePartsSpec) :=
  OpenClaim.holds_of_wide 13 Try.f13 rfl rfl rfl rfl rfl rfl rfl ⟨rfl, rfl, rfl, rfl, rfl⟩ rfl rfl rfl rfl rfl (by kernel_rfl) Try.func13 (by kernel_rfl)
    (of_decide_eq_true (by kernel_rfl)) (by unfold Func.isWrapper; first | (rw [if_pos (by decide +kernel)]; kernel_rfl) | (rw [if_neg (by decide +kernel)]; exact ⟨rfl, rfl⟩))
    (fun os started H enc _ => lifted os started H enc)
theorem proved : Rows.RulePartsSaid := over
#print axioms proved
end Go.Proofs.Ytkglnkfoeedmoaa.ruleParts
namespace Go.Proofs.Ytkglnkfoeedmoaa
/-- The row, under a short name, for the claim. -/
theorem ruleParts_holds : Rows.RulePartsSaid := ruleParts.proved
end Go.Proofs.Ytkglnkfoeedmoaa
