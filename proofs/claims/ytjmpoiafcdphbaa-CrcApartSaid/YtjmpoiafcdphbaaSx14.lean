/- A statement's row from a tree: arguments are read off, the law's own call is reckoned, the arguments read as they did. -/
import Derived.Test.YtjmpoiafcdphbaaSx13
import Derived.WalkKit
import Derived.ProofKit
import Derived.OpenShut
import Derived.ShutString
import Derived.ChangeOld
import Derived.Below
import Derived.SizedLaws
import Derived.Carry
namespace Go.Proofs.YtjmpoiafcdphbaaSx
open Go.RowKit Go.ChangeShapes Go.WideShapes Go.ChangeAt
set_option linter.unusedVariables false
set_option linter.unusedSimpArgs false

/-- What a cell may hold. -/
inductive CK where
  | int (k : IntKind)
  | bool
  | slice
  | ints (k : IntKind)

/-- A slice of numbers: nil, or a row of cells, the numbers 'zs' (the first 'len' are its elements). -/
def IsRow (k : IntKind) (w : World) (a : Option Addr) (len cap : Nat) (zs : List Int) : Prop :=
  (a = none ∧ len = 0 ∧ cap = 0 ∧ zs = []) ∨
  ∃ x, a = some x ∧ len ≤ cap ∧ cap ≤ maxLen ∧ zs.length = cap ∧ (∀ i, i < zs.length → w.cell? (x.add i) = some (.int k (zs.getD i 0))) ∧ ∀ n ∈ zs, (Lit.int k n).wf = true
def CellIs (w : World) : CK → Value → Prop
  | .int k, v => ∃ n, v = .int k n ∧ (Lit.int k n).wf = true
  | .bool, v => ∃ b, v = .bool b
  | .slice, v => ∃ a len cap, v = .slice a len cap ∧ len ≤ cap ∧ cap ≤ maxLen
  | .ints k, v => ∃ a len cap zs, v = .slice a len cap ∧ IsRow k w a len cap zs
def AllIs (w : World) : List CK → List Value → Prop
  | [], [] => True
  | k :: ks, v :: vs => CellIs w k v ∧ AllIs w ks vs
  | _, _ => False
section
variable {w : World}

theorem AllIs.length : ∀ {ks : List CK} {vs : List Value}, AllIs w ks vs → ks.length = vs.length
  | [], [], _ => rfl
  | _ :: _, _ :: _, h => by simp [AllIs.length h.2]
  | [], _ :: _, h => h.elim
  | _ :: _, [], h => h.elim
theorem AllIs.append : ∀ {ks ls : List CK} {vs us : List Value}, AllIs w ks vs → AllIs w ls us → AllIs w (ks ++ ls) (vs ++ us)
  | [], _, [], _, _, h => h
  | _ :: _, _, _ :: _, _, h, k => ⟨h.1, AllIs.append h.2 k⟩
  | [], _, _ :: _, _, h, _ => h.elim
  | _ :: _, _, [], _, h, _ => h.elim
theorem AllIs.get : ∀ {ks : List CK} {vs : List Value}, AllIs w ks vs → ∀ {i : Nat} {k : CK}, ks[i]? = some k → ∃ v, vs[i]? = some v ∧ CellIs w k v
  | [], [], _, i, k, hk => by simp at hk
  | _ :: _, v :: _, h, 0, k, hk => by
    simp only [List.getElem?_cons_zero, Option.some.injEq] at hk
    subst hk
    exact ⟨v, rfl, h.1⟩
  | _ :: _, _ :: _, h, i + 1, k, hk => by
    simp only [List.getElem?_cons_succ] at hk ⊢
    exact AllIs.get h.2 hk
  | [], _ :: _, h, _, _, _ => h.elim
  | _ :: _, [], h, _, _, _ => h.elim

end

def repCK : Nat → List CK → List CK
  | 0, _ => []
  | n + 1, a => a ++ repCK n a
def flatFs (P : Program) (g : TypeId → Option (List CK)) : List Field → Nat → Option (List CK)
  | [], _ => some []
  | f :: fs, off =>
    match decide (f.offset = off), g f.type, flatFs P g fs (off + P.cellsOf f.type) with
    | true, some a, some b => if a.length = P.cellsOf f.type then some (a ++ b) else none
    | _, _, _ => none
/-- A type's cells. -/
def flat (P : Program) : Nat → TypeId → Option (List CK)
  | 0, _ => none
  | d + 1, t =>
    match P.underlying t with
    | some .bool => some [.bool]
    | some (.int k) => some [.int k]
    | some (.slice e) => (match P.underlying e, P.cellsOf e with | some (.int k), 1 => some [.ints k] | _, _ => some [.slice])
    | some (.struct fs) => (match flatFs P (flat P d) fs.toList 0 with | some ks => if ks.length = P.cellsOf t then some ks else none | none => none)
    | some (.array n e) => (match flat P d e with | some a => if a.length = P.cellsOf e ∧ n * P.cellsOf e = P.cellsOf t then some (repCK n a) else none | none => none)
    | _ => none

section
variable {H : Type} {enc : TypeId × Value → H} {P : Program} {w : World} {base : Nat} {held : Bool}

theorem take_drop_add (cs : List Value) (off a b : Nat) : (cs.drop off).take (a + b) = (cs.drop off).take a ++ (cs.drop (off + a)).take b := by
  rw [List.take_add, List.drop_drop]

theorem flatFs_ok {g : TypeId → Option (List CK)} {cs : List Value} (hg : ∀ t ks, g t = some ks → ∀ fuel l x, DataW.trod enc P w base (fun _ => true) held fuel t l = some x → AllIs w ks l) :
    ∀ (fs : List Field) (off : Nat) (ks : List CK), flatFs P g fs off = some ks → (∀ f ∈ fs, ∃ fuel x, DataW.trod enc P w base (fun _ => true) held fuel f.type ((cs.drop f.offset).take (P.cellsOf f.type)) = some x) → AllIs w ks ((cs.drop off).take ks.length)
  | [], off, ks, h, _ => by
    simp only [flatFs] at h
    injection h with h; subst h
    simp [AllIs]
  | f :: fs, off, ks, h, hr => by
    simp only [flatFs] at h
    split at h <;> try (cases h)
    rename_i a b e1 e2 e3
    split at h <;> try (cases h)
    rename_i hlen
    have e1 : f.offset = off := by simpa using e1
    obtain ⟨fuel, x, hx⟩ := hr f (List.mem_cons_self ..)
    have h1 := hg _ _ e2 fuel _ x hx
    have h2 := flatFs_ok hg fs _ b e3 (fun f' hf' => hr f' (List.mem_cons_of_mem _ hf'))
    rw [List.length_append, take_drop_add, hlen]
    rw [e1] at h1
    exact h1.append h2

theorem repCK_ok {a : List CK} {m : Nat} {cs : List Value} (hm : a.length = m) : ∀ (n i : Nat), (∀ j, i ≤ j → j < i + n → AllIs w a ((cs.drop (j * m)).take m)) → AllIs w (repCK n a) ((cs.drop (i * m)).take (n * m))
  | 0, i, _ => by simp [repCK, AllIs]
  | n + 1, i, h => by
    have h1 := h i (Nat.le_refl _) (by omega)
    have h2 := repCK_ok hm n (i + 1) (fun j h1 h2 => h j (by omega) (by omega))
    have e : (n + 1) * m = m + n * m := by rw [Nat.add_mul]; omega
    rw [e, take_drop_add]
    rw [Nat.add_mul, Nat.one_mul] at h2
    exact h1.append h2

theorem flat_ok : ∀ (d : Nat) (t : TypeId) (ks : List CK), flat P d t = some ks → ∀ fuel l x, DataW.trod enc P w base (fun _ => true) held fuel t l = some x → AllIs w ks l
  | 0, t, ks, h => by cases h
  | d + 1, t, ks, h => by
    intro fuel l x hx
    simp only [flat] at h
    split at h
    · rename_i hu
      injection h with h; subst h
      obtain ⟨b, rfl, _⟩ := DataW.trod_bool hu hx
      exact ⟨⟨b, rfl⟩, trivial⟩
    · rename_i k hu
      injection h with h; subst h
      obtain ⟨n, rfl, _, hw⟩ := DataW.trod_int hu hx
      exact ⟨⟨n, rfl, hw⟩, trivial⟩
    · rename_i e hu
      split at h
      · rename_i k he hce
        injection h with h; subst h
        rcases open_ints hu he hce hx with ⟨rfl, _⟩ | ⟨a, len, cap, zs, rfl, _, hl, hc, hz, _, hcell, hwf⟩
        · exact ⟨⟨none, 0, 0, [], rfl, .inl ⟨rfl, rfl, rfl, rfl⟩⟩, trivial⟩
        · exact ⟨⟨some a, len, cap, zs, rfl, .inr ⟨a, rfl, hl, hc, by simpa using hz, hcell, hwf⟩⟩, trivial⟩
      · injection h with h; subst h
        rcases DataW.trod_slice hu hx with ⟨rfl, _⟩ | ⟨a, len, cap, _, _, _, _, rfl, _, _, hl, hc, _⟩
        · exact ⟨⟨none, 0, 0, rfl, Nat.le_refl _, Nat.zero_le _⟩, trivial⟩
        · exact ⟨⟨some a, len, cap, rfl, hl, hc⟩, trivial⟩
    · rename_i fs hu
      split at h <;> try (cases h)
      rename_i ks' hfs
      split at h <;> try (cases h)
      rename_i hlen
      obtain ⟨xs, n, _, _, hl, hxs, hget⟩ := DataW.trod_struct hu hx
      have := flatFs_ok (cs := l) (fun t ks h fuel l x hx => flat_ok d t ks h fuel l x hx) fs.toList 0 ks hfs (fun f hf => by
        obtain ⟨i, hi⟩ := List.getElem?_of_mem hf
        have hi' : fs[i]? = some f := by simpa using hi
        have := hget i f hi'
        have hlt : i < xs.length := by rw [hxs]; exact lt_of_some hi'
        rw [List.getElem?_eq_getElem hlt] at this
        exact ⟨n, _, this⟩)
      rw [List.drop_zero, List.take_of_length_le (by omega)] at this
      exact this
    · rename_i n e hu
      split at h <;> try (cases h)
      rename_i a ha
      split at h <;> try (cases h)
      rename_i hlen
      obtain ⟨xs, m, _, _, hl, hxs, hget⟩ := DataW.trod_array hu hx
      have := repCK_ok (cs := l) hlen.1 n 0 (fun j _ hj => by
        have hg := hget j (by omega)
        have hlt : j < xs.length := by omega
        rw [List.getElem?_eq_getElem hlt] at hg
        exact flat_ok d e a ha _ _ _ hg)
      rw [Nat.zero_mul, List.drop_zero, List.take_of_length_le (by omega)] at this
      exact this
    · cases h
end

/-! ### Templates -/
def tmplL : List CK → Nat → List SV
  | [], _ => []
  | .int k :: ks, i => .int k (.var i) :: tmplL ks (i + 1)
  | .bool :: ks, i => .bool (.var i) :: tmplL ks (i + 1)
  | .slice :: ks, i => .slc i :: tmplL ks (i + 1)
  | .ints _ :: ks, i => .slc i :: tmplL ks (i + 1)
def tmplArgs (P : Program) : List TypeId → Nat → Option (List SV × List CK)
  | [], _ => some ([], [])
  | t :: ts, i =>
    match flat P 20 t, isAggT P t with
    | some ks, some true => (match tmplArgs P ts (i + ks.length) with | some (vs, kss) => some (.agg (tmplL ks i) :: vs, ks ++ kss) | none => none)
    | some ks, some false => (match tmplL ks i, tmplArgs P ts (i + ks.length) with | [v], some (vs, kss) => some (v :: vs, ks ++ kss) | _, _ => none)
    | _, _ => none
def envOf (cells : List Value) (ext : Env) : Env where
  int i := match cells[i]? with | some (.int _ n) => n | some _ => 0 | none => ext.int i
  bool i := match cells[i]? with | some (.bool b) => b | some _ => false | none => ext.bool i
  sa i := match cells[i]? with | some (.slice a _ _) => a | some _ => none | none => ext.sa i
  sl i := match cells[i]? with | some (.slice _ l _) => l | some _ => 0 | none => ext.sl i
  sc i := match cells[i]? with | some (.slice _ _ c) => c | some _ => 0 | none => ext.sc i
  fn := ext.fn

theorem tmplL_den {w : World} {all : List Value} {ext : Env} {β : Bt} : ∀ (ks : List CK) (i : Nat) (cells : List Value), AllIs w ks cells → (∀ j, j < cells.length → all[i + j]? = cells[j]?) → SV.denL (envOf all ext) β (tmplL ks i) = cells
  | [], i, [], _, _ => rfl
  | k :: ks, i, v :: vs, h, hall => by
    have h0 := hall 0 (by simp)
    simp only [Nat.add_zero, List.getElem?_cons_zero] at h0
    have ih := tmplL_den (all := all) (ext := ext) (β := β) ks (i + 1) vs h.2 (fun j hj => by have := hall (j + 1) (by simp; omega); simpa [Nat.add_assoc, Nat.add_comm 1 j] using this)
    cases k with
    | int k =>
      obtain ⟨n, rfl, _⟩ := h.1
      simp only [tmplL, SV.denL, SV.den, E.den, ih]
      simp only [envOf, h0]
    | bool =>
      obtain ⟨b, rfl⟩ := h.1
      simp only [tmplL, SV.denL, SV.den, B.den, ih]
      simp only [envOf, h0]
    | slice =>
      obtain ⟨a, l, c, rfl, _⟩ := h.1
      simp only [tmplL, SV.denL, SV.den, ih]
      simp only [envOf, h0]
    | ints k =>
      obtain ⟨a, l, c, _, rfl, _⟩ := h.1
      simp only [tmplL, SV.denL, SV.den, ih]
      simp only [envOf, h0]
  | [], _, _ :: _, h, _ => h.elim
  | _ :: _, _, [], h, _ => h.elim

section
variable {H : Type} {enc : TypeId × Value → H} {P : Program} {w : World} {base : Nat} {held : Bool} {r : Reach} {b0 : Nat}

theorem value_open {t : TypeId} {v : Value} {d : DataW H} {ps : List MemPlace} {ks : List CK} (h : DataW.Trod enc P w base (fun _ => true) held t v d ps) (hv : Value.okWide P w r b0 t v) (hk : flat P 20 t = some ks) :
    AllIs w ks v.cells.toList ∧ (isAggT P t = some true → ∃ cs, v = .agg cs) ∧ (isAggT P t = some false → v.cells = #[v]) := by
  obtain ⟨fuel, hf⟩ := h
  refine ⟨flat_ok 20 t ks hk fuel _ _ hf, fun ha => ?_, fun ha => ?_⟩
  · unfold isAggT at ha
    unfold Value.okWide at hv
    split at ha
    · rename_i e; rw [e] at hv; obtain ⟨cs, h, _⟩ := hv; exact ⟨cs, h⟩
    · rename_i e; rw [e] at hv; obtain ⟨cs, h, _⟩ := hv; exact ⟨cs, h⟩
    · cases ha
    · cases ha
  · have hk' := hk
    simp only [flat] at hk'
    split at hk'
    · rename_i hu; obtain ⟨b, rfl⟩ := okWide_bool hu hv; rfl
    · rename_i hu; obtain ⟨b, rfl⟩ := okWide_int hu hv; rfl
    · rename_i hu; obtain ⟨a, b, c, rfl⟩ := okWide_slice hu hv; rfl
    · rename_i hu; unfold isAggT at ha; rw [hu] at ha; cases ha
    · rename_i hu; unfold isAggT at ha; rw [hu] at ha; cases ha
    · cases hk'

theorem args_open : ∀ (ts : List TypeId) (vs : List Value) (ds : List (DataW H)) (ps : List MemPlace) (i : Nat) (svs : List SV) (ks : List CK), DataW.TrodAll enc P w base (fun _ => true) held ts vs ds ps →
    (∀ (j : Nat) t v, ts[j]? = some t → vs[j]? = some v → Value.okWide P w r b0 t v) → tmplArgs P ts i = some (svs, ks) →
    ∃ cells, AllIs w ks cells ∧ ∀ all ext β, (∀ j, j < cells.length → all[i + j]? = cells[j]?) → SV.denL (envOf all ext) β svs = vs
  | [], [], [], ps, i, svs, ks, h, _, ht => by
    simp only [tmplArgs] at ht
    injection ht with ht; injection ht with e1 e2; subst e1; subst e2
    exact ⟨[], trivial, fun _ _ _ _ => rfl⟩
  | t :: ts, v :: vs, d :: ds, ps, i, svs, ks, h, hv, ht => by
    obtain ⟨p, q, h1, h2, _⟩ := h
    have hv0 := hv 0 t v rfl rfl
    have hvs : ∀ (j : Nat) t v, ts[j]? = some t → vs[j]? = some v → Value.okWide P w r b0 t v := fun j t v e1 e2 => hv (j + 1) t v (by simpa using e1) (by simpa using e2)
    simp only [tmplArgs] at ht
    split at ht
    · rename_i ks0 hk ha
      obtain ⟨o1, o2, _⟩ := value_open h1 hv0 hk
      obtain ⟨cs, rfl⟩ := o2 ha
      split at ht <;> try (cases ht)
      rename_i vs' kss hrec
      obtain ⟨cells, c1, c2⟩ := args_open ts vs ds q _ _ _ h2 hvs hrec
      have o1 : AllIs w ks0 cs.toList := o1
      refine ⟨cs.toList ++ cells, o1.append c1, fun all ext β hall => ?_⟩
      have hl := o1.length
      simp only [SV.denL, SV.den]
      rw [tmplL_den ks0 i cs.toList o1 (fun j hj => by rw [hall j (by rw [List.length_append]; omega), List.getElem?_append_left hj]),
        c2 all ext β (fun j hj => by
          have := hall (cs.toList.length + j) (by rw [List.length_append]; omega)
          rw [List.getElem?_append_right (by omega)] at this
          rw [hl, Nat.add_assoc, this]
          congr 1; omega)]
    · rename_i ks0 hk ha
      obtain ⟨o1, _, o3⟩ := value_open h1 hv0 hk
      have o3 := o3 ha
      split at ht <;> try (cases ht)
      rename_i v' vs' kss hone hrec
      obtain ⟨cells, c1, c2⟩ := args_open ts vs ds q _ _ _ h2 hvs hrec
      rw [o3] at o1
      have o1 : AllIs w ks0 [v] := o1
      refine ⟨[v] ++ cells, o1.append c1, fun all ext β hall => ?_⟩
      have hl := o1.length
      have hd := tmplL_den (all := all) (ext := ext) (β := β) ks0 i [v] o1 (fun j hj => by rw [hall j (by rw [List.length_append]; omega), List.getElem?_append_left hj])
      rw [hone] at hd
      simp only [SV.denL] at hd ⊢
      injection hd with hd _
      rw [hd, c2 all ext β (fun j hj => by
          have := hall ([v].length + j) (by rw [List.length_append]; omega)
          rw [List.getElem?_append_right (by omega)] at this
          rw [hl, Nat.add_assoc, this]
          congr 1; omega)]
    · cases ht
  | [], _ :: _, _, _, _, _, _, h, _, _ => by simp [DataW.TrodAll] at h
  | _ :: _, [], _, _, _, _, _, h, _, _ => by simp [DataW.TrodAll] at h
  | _ :: _, _ :: _, [], _, _, _, _, h, _, _ => by simp [DataW.TrodAll] at h
  | [], [], _ :: _, _, _, _, _, h, _, _ => by simp [DataW.TrodAll] at h

theorem trodAll_length : ∀ {ts : List TypeId} {vs : List Value} {ds : List (DataW H)} {ps : List MemPlace}, DataW.TrodAll enc P w base (fun _ => true) held ts vs ds ps → ds.length = ts.length
  | [], [], [], _, _ => rfl
  | _ :: _, _ :: _, _ :: _, _, h => by
    obtain ⟨p, q, _, h2, _⟩ := h
    simp [trodAll_length h2]
  | [], _ :: _, _, _, h => by simp [DataW.TrodAll] at h
  | _ :: _, [], _, _, h => by simp [DataW.TrodAll] at h
  | _ :: _, _ :: _, [], _, h => by simp [DataW.TrodAll] at h
  | [], [], _ :: _, _, h => by simp [DataW.TrodAll] at h

/-- The arguments read behind the call as they did. -/
theorem trodAll_stays {W W' : World} (hl : laidOutB P = true) (hb : Below W.heap.size W W') : ∀ {ts : List TypeId} {vs : List Value} {ds : List (DataW H)} {ps : List MemPlace}, (∀ t ∈ ts, P.readableRec t = true ∧ t < P.types.size) →
    DataW.TrodAll enc P W 0 (fun _ => true) true ts vs ds ps → DataW.TrodAll enc P W' 0 (fun b => decide (b < W.heap.size)) true ts vs ds ps
  | [], [], [], _, _, h => h
  | t :: ts, v :: vs, d :: ds, ps, hr, h => by
    obtain ⟨p, q, h1, h2, e⟩ := h
    have h1k := h1
    obtain ⟨fuel, hf⟩ := h1k
    exact ⟨p, q, Below.trod hl (hr t (List.mem_cons_self ..)).1 (hr t (List.mem_cons_self ..)).2 h1 hb (fun x hx => DataW.trod_lt fuel _ _ _ hf x hx), trodAll_stays hl hb (fun t' ht' => hr t' (List.mem_cons_of_mem _ ht')) h2, e⟩
  | [], _ :: _, _, _, _, h => by simp [DataW.TrodAll] at h
  | _ :: _, [], _, _, _, h => by simp [DataW.TrodAll] at h
  | _ :: _, _ :: _, [], _, _, h => by simp [DataW.TrodAll] at h
  | [], [], _ :: _, _, _, h => by simp [DataW.TrodAll] at h
end

/-! ### A row -/
/-- What the law's walk shows: it returns true, and nothing that was there is turned. -/
def IsTrue (P : Program) (f : FuncId) (args : Array Value) (W : World) : Prop := Calls P f args W fun e W' => e = .returned (.bool true) ∧ Below W.heap.size W W'

theorem lifted_of {os : Os} {C : Checked} {f : FuncId} {fn : Func} {s : ChangeSpec} {conds : List PathCond} {apart : Bool} {H : Type} {enc : TypeId × Value → H} {tb : TypeId} {svs : List SV} {ks : List CK} {n : Nat}
    (own : ownKnob C.prog.godebug = none) (started : os.Started) (noInit : C.prog.inits.idxOf? f = none) (hfn : C.prog.funcs[f]? = some fn)
    (witness : ∃ (w : World) (tape : Tape) (i : Input), w.os = os ∧ (w.forCall tape i).Shaped C.prog ∧ i.vars = [] ∧ Input.okWide C.prog (w.forCall tape i) .any w.heap.size f i ∧
      s.pre6 enc C.prog fn conds apart (w.forCall tape i).memory i.args ∧ ({} : Assume).holds C.prog (lone (Frame.enter C.prog f i.args .normal) [] (w.forCall tape i)))
    (hvars : s.vars = []) (hres : fn.resultTypes = #[tb]) (htb : C.prog.underlying tb = some .bool) (laid : laidOutB C.prog = true) (hread : fn.params.toList.all (fun t => C.prog.readableRec t && decide (t < C.prog.types.size)) = true)
    (hlen : fn.params.size = n) (hs : ∀ ds : List (DataW H), ds.length = n → (s.fn H ds).results = [.lit (.bool true)] ∧ (s.fn H ds).args = ds ∧ (s.fn H ds).vars = [])
    (htm : tmplArgs C.prog fn.params.toList 0 = some (svs, ks))
    (main : ∀ (W : World) (cells : List Value) (args : Array Value) (ds : List (DataW H)) (p : List MemPlace), AllIs W ks cells → (∀ ext β, SV.denL (envOf cells ext) β svs = args.toList) → DataW.TrodAll enc C.prog W 0 (fun _ => true) true fn.params.toList args.toList ds p → IsTrue C.prog f args W) :
    ReturnsInHanded {} C os f .any (s.pre6 enc C.prog fn conds apart) (s.post enc C.prog fn apart true false false) := by
  refine returnsInHanded_of_change_sized own started noInit hfn witness ?_
  intro W base args ds gs before hval hW _ _ _
  have hW' := hW
  obtain ⟨p, q, hA, hV, rfl, hfz, hnd⟩ := hW
  rw [hvars] at hV
  obtain ⟨rfl, rfl⟩ : gs = [] ∧ q = [] := by
    cases gs with
    | nil => exact ⟨rfl, hV⟩
    | cons g gs => simp [DataW.TrodVars] at hV
  obtain ⟨cells, hc, hden⟩ := args_open (r := .any) (b0 := base) _ _ _ _ 0 svs ks hA (fun j t v h1 h2 => hval j t v (by simpa using h1) (by simpa using h2)) htm
  refine (main W cells args ds p hc (fun ext β => hden cells ext β (fun j hj => by rw [Nat.zero_add])) hA).mono fun e W' ⟨he, bel⟩ => ?_
  subst he
  have hdl : ds.length = n := by rw [trodAll_length hA, Array.length_toList, hlen]
  obtain ⟨s1, s2, s3⟩ := hs (ds ++ []) (by simpa using hdl)
  refine ⟨_, rfl, ds, [], _, [], p, [], hW', ?_, ?_, ?_, bel.frame _, fun h => by cases h⟩
  · rw [s1, hres]
    exact ⟨[], [], shut_bool htb true, rfl, rfl⟩
  · rw [s2, List.append_nil]
    exact trodAll_stays laid bel (fun t ht => by have := List.all_eq_true.1 hread t ht; simpa using this) hA
  · rw [s3, hvars]; exact rfl

/-- From the tree. -/
theorem isTrue_of_pick {c : Ctx} {ι : Env} {W : World} {f n d : Nat} {args : Array Value} {svs : List SV} {v : SV} (H : Hyp c ι) (hb1 : c.base ≤ W.heap.size) (hb2 : ∀ k, k < c.base → W.heap[k]? = c.bw.heap[k]?)
    (hglob : ∀ g cs, (g, cs) ∈ c.glob → ∃ T fr, ∀ β, W.heap[g]? = some (.cells (SV.denL ι β cs).toArray T fr)) (hden : ∀ β, SV.denL ι β svs = args.toList)
    (hp : ((execCall n d c f svs [] 0 []).bind fun x => .leaf x.1).pick ι = some v) (hv : ∀ β, v.den ι β = .bool true) : IsTrue c.P f args W := by
  obtain ⟨⟨v', m, k, l⟩, h1, h2⟩ := (pick_bind _ _ _).1 hp
  have h2 : some v' = some v := h2
  injection h2 with h2; subst h2
  let β0 : Bt := ⟨fun _ => 0, fun _ => .bool false, fun _ => rfl⟩
  have hM : StM c W (fun _ => False) ι β0 [] 0 W := fun β' _ => by
    refine ⟨fun _ _ h => (by cases h), fun _ _ h => (by cases h), List.nodup_nil, fun _ h => (by cases h), fun _ h => (by cases h), fun g cs hg => ?_, Fr.refl _ _, hb1, fun _ h => h.elim, hb2⟩
    obtain ⟨T, fr, hT⟩ := hglob g cs hg
    exact ⟨lt_of_some (hT β'), fun h => h, T, fr, hT β'⟩
  have := execCall_ok (ι := ι) n d c H W (fun _ => False) β0 f svs [] 0 [] W v' m k l (fun _ _ h => (by cases h)) (fun β' _ => by rw [hden, hden]) hM h1
  have e : (SV.denL ι β0 svs).toArray = args := by apply Array.toList_inj.1; rw [hden]
  rw [e] at this
  refine Calls.mono this fun e W' ⟨_, _, β1, _, he, hM'⟩ => ⟨?_, ?_⟩
  · rw [he β1 (Agree.refl _ _), hv]
  · have k := (hM' β1 (Agree.refl _ _)).fr
    exact ⟨k.os, k.tape, k.output, k.size, fun i hi => k.block i hi (fun h => h)⟩

theorem rows_nil {c : Ctx} {ι : Env} (h : c.rows = []) : RowsOk c ι := fun n ks hk => by rw [h] at hk; cases hk
theorem lps_nil {c : Ctx} {ι : Env} (h : c.lps = []) : ∀ f r F, lpOf f r c.lps = some F → ∀ fn code, c.P.funcs[f]? = some fn → fn.body = some code → ∀ x ∈ loopsOf code, firstRid x = r → ∀ w0 X, CodeOk { c with ro := 0 } w0 X ι (.loop x) F := fun f r F hF => by rw [h] at hF; cases hF
theorem Hyp.nil {c : Ctx} {ι : Env} (hm : c.P.follows .mixedOrders = true) (hc : c.con = []) (hr : c.rows = [] := by rfl) (hl : c.lps = [] := by rfl) : Hyp c ι := ⟨hm, fun g f h => (by rw [hc] at h; cases h), rows_nil hr, lps_nil hl⟩
theorem isTrue_of_pick0 {c : Ctx} {ι : Env} {W : World} {f n d : Nat} {args : Array Value} {svs : List SV} {v : SV} (hm : c.P.follows .mixedOrders = true) (hc : c.con = []) (hbase : c.base = 0)
    (hglob : c.glob = []) (hden : ∀ β, SV.denL ι β svs = args.toList)
    (hp : ((execCall n d c f svs [] 0 []).bind fun x => .leaf x.1).pick ι = some v) (hv : ∀ β, v.den ι β = .bool true) (hr : c.rows = [] := by rfl) (hl : c.lps = [] := by rfl) : IsTrue c.P f args W :=
  isTrue_of_pick (Hyp.nil hm hc hr hl) (by rw [hbase]; exact Nat.zero_le _) (fun k hk => by rw [hbase] at hk; exact absurd hk (Nat.not_lt_zero k)) (fun g cs h => by rw [hglob] at h; cases h) hden hp hv

end Go.Proofs.YtjmpoiafcdphbaaSx
