/- The listed variable's cells, and a row that lists it. -/
import Derived.Test.YtkglnkfoeedmoabDoorRows
import Derived.Test.YtkglnkfoeedmoabDoorSx20
import Derived.Test.YtkglnkfoeedmoabDoorFitOrder
import Derived.LaidLaws
import Derived.ChangeSame
import Derived.Handed
import Derived.JoinedOf
namespace Go.Proofs.YtkglnkfoeedmoabDoor
open Go.ChangeShapes Go.WideShapes Go.ChangeAt Go.RowKit Go.Proofs.YtkglnkfoeedmoabDoorSx
set_option linter.unusedVariables false
set_option linter.unusedSimpArgs false
abbrev Laid : List (String × DataW Unit) := [("sidestick/gate.kinds", Rows.laid_sidestick_gate_kinds)]
theorem kindsAt : Tryd.prog.globalNamed "sidestick/gate.kinds" = some 0 := by kernel_rfl
theorem kindsType : (Tryd.prog.globals[0]?).map (·.type) = some 55 := by kernel_rfl
theorem under55 : Tryd.prog.underlying 55 = some (.array 2 54) := by kernel_rfl
theorem under54 : ∃ a b, Tryd.prog.underlying 54 = some (.struct #[a, b]) ∧ a.type = 3 ∧ a.offset = 0 ∧ b.type = 3 ∧ b.offset = 1 := by
  have h : (match Tryd.prog.underlying 54 with | some (.struct fs) => (match fs.toList with | [a, b] => a.type == 3 && (a.offset == 0 && (b.type == 3 && b.offset == 1)) | _ => false) | _ => false) = true := by kernel_rfl
  split at h
  · rename_i fs hu
    split at h
    · rename_i a b hfs
      simp only [Bool.and_eq_true, beq_iff_eq] at h
      have : fs = #[a, b] := by apply Array.toList_inj.1; rw [hfs]
      exact ⟨a, b, by rw [hu, this], h.1, h.2.1, h.2.2.1, h.2.2.2⟩
    · cases h
  · cases h
theorem under3 : Tryd.prog.underlying 3 = some (.int .i64) := by kernel_rfl
theorem cells3 : Tryd.prog.cellsOf 3 = 1 := by kernel_rfl
theorem cells54 : Tryd.prog.cellsOf 54 = 2 := by kernel_rfl
theorem cells55 : Tryd.prog.cellsOf 55 = 4 := by kernel_rfl
def kindCells : Array Value := #[.int .i64 10, .int .i64 0, .int .i64 11, .int .i64 1]
theorem pair_of {H : Type} {enc : TypeId × Value → H} {w : World} {base : Nat} {sp : Nat → Bool} {held : Bool} {fuel : Nat} {x y : Value} {d : DataW H × List MemPlace} (h : DataW.trod enc Tryd.prog w base sp held fuel 54 [x, y] = some d) :
    ∃ m n, x = .int .i64 m ∧ y = .int .i64 n ∧ d.1 = .agg [.lit (.int .i64 m), .lit (.int .i64 n)] := by
  obtain ⟨a, b, hu, a1, a2, b1, b2⟩ := under54
  obtain ⟨y0, y1, n, rfl, _, h0, h1⟩ := trod_struct2 hu h
  rw [a1, a2, cells3] at h0
  rw [b1, b2, cells3] at h1
  obtain ⟨m, e0, rfl, _⟩ := DataW.trod_int under3 h0
  obtain ⟨n', e1, rfl, _⟩ := DataW.trod_int under3 h1
  simp at e0 e1
  exact ⟨m, n', e0, e1, rfl⟩
theorem cells_of_laid {W : World} (h : laidMet Tryd.prog Laid W) : ∃ T fr, W.heap[0]? = some (.cells kindCells T fr) := by
  obtain ⟨ps, ⟨g, t, cs, fuel, p, q, hg, ht, hvar, hd, hq, hps⟩, _, hrow⟩ := h
  obtain rfl := Option.some.inj (kindsAt.symm.trans hg)
  obtain rfl := Option.some.inj (kindsType.symm.trans ht)
  obtain ⟨xs, m, _, hx, hl, hxs, hget⟩ := DataW.trod_array under55 hd
  rw [cells54] at hget
  have hl : cs.toList.length = 4 := by rw [hl]; exact cells55
  obtain ⟨c0, c1, c2, c3, hcs⟩ : ∃ c0 c1 c2 c3, cs.toList = [c0, c1, c2, c3] := by
    match cs.toList, hl with
    | [a, b, c, d], _ => exact ⟨a, b, c, d, rfl⟩
  match xs, hxs with
  | [y0, y1], _ =>
    have g0 := hget 0 (by omega)
    have g1 := hget 1 (by omega)
    rw [hcs] at g0 g1
    obtain ⟨n0, n1, rfl, rfl, d0⟩ := pair_of (d := y0) (by simpa using g0)
    obtain ⟨n2, n3, rfl, rfl, d1⟩ := pair_of (d := y1) (by simpa using g1)
    injection hx with hx _
    simp only [List.map_cons, List.map_nil, d0, d1, Rows.laid_sidestick_gate_kinds] at hx
    injection hx with hx
    simp at hx
    obtain ⟨⟨rfl, rfl⟩, rfl, rfl⟩ := hx
    have hc : cs = kindCells := by apply Array.toList_inj.1; rw [hcs]; rfl
    have h0 : MemPlace.cell 0 0 ∈ ps := by
      rw [hps, hc]
      exact List.mem_append_left _ (List.mem_append_left _ (by show _ ∈ [MemPlace.cell 0 0, .cell 0 1, .cell 0 2, .cell 0 3]; simp))
    obtain ⟨⟨c, T, hh⟩, _⟩ := hrow 0 0 h0
    refine ⟨T, (0, 0), ?_⟩
    rw [hh]
    have : W.var? Tryd.prog "sidestick/gate.kinds" = some c := by simp [World.var?, kindsAt, hh]
    rw [hvar] at this
    injection this with this
    rw [← this, hc]
noncomputable def laidWorld (os : Os) : World :=
  let w0 := World.holding Tryd.prog os ⟨#[], #[], []⟩
  { w0 with heap := w0.heap.modify 0 fun
      | .cells _ t frozen => .cells kindCells t frozen
      | o => o }
theorem laidWorld_met (os : Os) (args : Array Value) : laidMet Tryd.prog Laid ((laidWorld os).forCall (fun _ _ => 0) ⟨#[], args, []⟩).memory :=
  laidMet_of_run' 8 (by kernel_rfl) (by kernel_rfl)

theorem lifted_laid {os : Os} {f : FuncId} {fn : Func} {s : ChangeSpec} {conds : List PathCond} {apart : Bool} {H : Type} {enc : TypeId × Value → H} {tb : TypeId} {svs : List SV} {ks : List CK} {n : Nat}
    (own : ownKnob Tryd.checked.prog.godebug = none) (started : os.Started) (noInit : Tryd.checked.prog.inits.idxOf? f = none) (hfn : Tryd.checked.prog.funcs[f]? = some fn)
    (witness : ∃ (w : World) (tape : Tape) (i : Input), w.os = os ∧ (w.forCall tape i).Shaped Tryd.checked.prog ∧ i.vars = [] ∧ Input.okWide Tryd.checked.prog (w.forCall tape i) .any w.heap.size f i ∧
      ((s.pre enc Tryd.checked.prog fn conds apart (w.forCall tape i).memory i.args ∧ laidMet Tryd.prog Laid (w.forCall tape i).memory) ∧ sizedMet enc Tryd.checked.prog fn (OpenSpec.ofChange s) apart (w.forCall tape i).memory i.args) ∧ ({} : Assume).holds Tryd.checked.prog (lone (Frame.enter Tryd.checked.prog f i.args .normal) [] (w.forCall tape i)))
    (hvars : s.vars = []) (hres : fn.resultTypes = #[tb]) (htb : Tryd.checked.prog.underlying tb = some .bool) (laid : laidOutB Tryd.checked.prog = true) (hread : fn.params.toList.all (fun t => Tryd.checked.prog.readableRec t && decide (t < Tryd.checked.prog.types.size)) = true)
    (hlen : fn.params.size = n) (hs : ∀ ds : List (DataW H), ds.length = n → (s.fn H ds).results = [.lit (.bool true)] ∧ (s.fn H ds).args = ds ∧ (s.fn H ds).vars = [])
    (htm : tmplArgs Tryd.checked.prog fn.params.toList 0 = some (svs, ks))
    (main : ∀ (W : World) (cells : List Value) (args : Array Value) (ds : List (DataW H)) (p : List MemPlace), AllIs W ks cells → (∀ ext β, SV.denL (envOf cells ext) β svs = args.toList) → laidMet Tryd.prog Laid W → IsTrue Tryd.checked.prog f args W) :
    ReturnsInHanded {} Tryd.checked os f .any (fun w args => (s.pre enc Tryd.checked.prog fn conds apart w args ∧ laidMet Tryd.prog Laid w) ∧ sizedMet enc Tryd.checked.prog fn (OpenSpec.ofChange s) apart w args) (s.post enc Tryd.checked.prog fn apart true false false) := by
  refine returnsInHanded_of_change_and (C := Tryd.checked) (X := fun w _ => laidMet Tryd.prog Laid w) (fun _ _ _ hh h => h.of_heap hh) own started noInit hfn witness ?_
  intro W base args ds gs before hval hW _ _ hL _
  have hW' := hW
  obtain ⟨p, q, hA, hV, rfl, hfz, hnd⟩ := hW
  rw [hvars] at hV
  obtain ⟨rfl, rfl⟩ : gs = [] ∧ q = [] := by
    cases gs with
    | nil => exact ⟨rfl, hV⟩
    | cons g gs => simp [DataW.TrodVars] at hV
  obtain ⟨cells, hc, hden⟩ := args_open (r := .any) (b0 := base) _ _ _ _ 0 svs ks hA (fun j t v h1 h2 => hval j t v (by simpa using h1) (by simpa using h2)) htm
  refine (main W cells args ds p hc (fun ext β => hden cells ext β (fun j hj => by rw [Nat.zero_add])) hL).mono fun e W' ⟨he, bel⟩ => ?_
  subst he
  have hdl : ds.length = n := by rw [trodAll_length hA, Array.length_toList, hlen]
  obtain ⟨s1, s2, s3⟩ := hs (ds ++ []) (by simpa using hdl)
  refine ⟨_, rfl, ds, [], _, [], p, [], hW', ?_, ?_, ?_, bel.frame _, fun h => by cases h⟩
  · rw [s1, hres]
    exact ⟨[], [], shut_bool htb true, rfl, rfl⟩
  · rw [s2, List.append_nil]
    exact trodAll_stays laid bel (fun t ht => by have := List.all_eq_true.1 hread t ht; simpa using this) hA
  · rw [s3, hvars]; exact rfl
end Go.Proofs.YtkglnkfoeedmoabDoor
