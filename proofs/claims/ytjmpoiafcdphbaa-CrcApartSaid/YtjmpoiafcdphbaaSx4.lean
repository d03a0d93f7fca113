/- What the executor says of one operation is what the operation does. -/
import Derived.Test.YtjmpoiafcdphbaaSx3
namespace Go.Proofs.YtjmpoiafcdphbaaSx
set_option linter.unusedVariables false
set_option linter.unusedSimpArgs false

/-! ### Merging -/
section
variable {ι : Env} {β : Bt}
theorem mkIteE_den (c : B) (a b : E) : (mkIteE c a b).den ι = if c.den ι = true then a.den ι else b.den ι := by
  unfold mkIteE
  split
  · simp [B.den]
  · simp [B.den]
  · split
    · rename_i e; rw [eqE_eq _ _ e]; split <;> rfl
    · rfl
mutual
theorem mergeV_den (c : B) : ∀ (x y v : SV), mergeV c x y = some v → v.den ι β = if c.den ι = true then x.den ι β else y.den ι β
  | .int k a, y, v, h => by
    cases y <;> simp only [mergeV] at h <;> try (cases h)
    rename_i k' b
    split at h <;> try (cases h)
    rename_i e
    have e : k = k' := by simpa [eqK] using e
    subst e
    simp only [SV.den, mkIteE_den]
    split <;> rfl
  | .bool a, y, v, h => by
    cases y <;> simp only [mergeV] at h <;> try (cases h)
    rename_i b
    simp only [SV.den]
    split
    · rename_i e; rw [eqB_eq _ _ e]; split <;> rfl
    · rw [mkIteB_den]; split <;> rfl
  | .ptr b o, y, v, h => by
    cases y <;> simp only [mergeV] at h <;> try (cases h)
    split at h <;> try (cases h)
    rename_i e
    simp only [Bool.and_eq_true, decide_eq_true_eq] at e
    rw [e.1, e.2]; split <;> rfl
  | .ptx b o ix, y, v, h => by cases y <;> simp only [mergeV] at h <;> cases h
  | .gptr b o, y, v, h => by
    cases y <;> simp only [mergeV] at h <;> try (cases h)
    split at h <;> try (cases h)
    rename_i e
    simp only [Bool.and_eq_true, decide_eq_true_eq] at e
    rw [e.1, e.2]; split <;> rfl
  | .nilptr, y, v, h => by
    cases y <;> simp only [mergeV] at h <;> try (cases h)
    split <;> rfl
  | .slice b o l n, y, v, h => by
    cases y <;> simp only [mergeV] at h <;> try (cases h)
    split at h <;> try (cases h)
    rename_i e
    simp only [Bool.and_eq_true, decide_eq_true_eq] at e
    rw [e.1, e.2.1, e.2.2.1, e.2.2.2]; split <;> rfl
  | .nilslice, y, v, h => by
    cases y <;> simp only [mergeV] at h <;> try (cases h)
    split <;> rfl
  | .slc n, y, v, h => by
    cases y <;> simp only [mergeV] at h <;> try (cases h)
    split at h <;> try (cases h)
    rename_i e
    simp only [decide_eq_true_eq] at e
    rw [e]; split <;> rfl
  | .func _ _ _, y, v, h => by cases y <;> simp only [mergeV] at h <;> cases h
  | .nilfunc, y, v, h => by
    cases y <;> simp only [mergeV] at h <;> try (cases h)
    split <;> rfl
  | .nilif, y, v, h => by
    cases y <;> simp only [mergeV] at h <;> try (cases h)
    split <;> rfl
  | .str _, y, v, h => by cases y <;> simp only [mergeV] at h <;> cases h
  | .opq n, y, v, h => by
    cases y <;> simp only [mergeV] at h <;> try (cases h)
    split at h <;> try (cases h)
    rename_i e
    simp only [decide_eq_true_eq] at e
    rw [e]; split <;> rfl
  | .agg xs, y, v, h => by
    cases y <;> simp only [mergeV] at h <;> try (cases h)
    split at h <;> try (cases h)
    rename_i ys _ l e
    simp only [SV.den, mergeL_den c xs ys l e]
    split <;> rfl
  | .tup xs, y, v, h => by
    cases y <;> simp only [mergeV] at h <;> try (cases h)
    split at h <;> try (cases h)
    rename_i ys _ l e
    simp only [SV.den, mergeL_den c xs ys l e]
    split <;> rfl
theorem mergeL_den (c : B) : ∀ (xs ys l : List SV), mergeL c xs ys = some l → SV.denL ι β l = if c.den ι = true then SV.denL ι β xs else SV.denL ι β ys
  | [], ys, l, h => by
    cases ys <;> simp only [mergeL] at h <;> try (cases h)
    split <;> rfl
  | x :: xs, ys, l, h => by
    cases ys <;> simp only [mergeL] at h <;> try (cases h)
    split at h <;> try (cases h)
    rename_i _ _ v w e1 e2
    simp only [SV.denL, mergeV_den c x _ v e1, mergeL_den c xs _ w e2]
    split <;> rfl
end
theorem mergeL_length (c : B) : ∀ (xs ys l : List SV), mergeL c xs ys = some l → xs.length = ys.length ∧ l.length = ys.length
  | [], ys, l, h => by
    cases ys <;> simp only [mergeL] at h <;> try (cases h)
    simp
  | x :: xs, ys, l, h => by
    cases ys <;> simp only [mergeL] at h <;> try (cases h)
    split at h <;> try (cases h)
    rename_i _ _ v w e1 e2
    have := mergeL_length c xs _ w e2
    simp [this.1, this.2]

theorem mergeT_den : ∀ (t : T SV) (p : List B) (v : SV), mergeT t = some (p, v) → (∀ q ∈ p, q.den ι = true) → ∃ x, t.pick ι = some x ∧ ∀ β, v.den ι β = x.den ι β
  | .leaf x, p, v, h, _ => by
    have h : some (([] : List B), x) = some (p, v) := h
    injection h with h; injection h with h1 h2; subst h2
    exact ⟨x, rfl, fun _ => rfl⟩
  | .fail _, p, v, h, _ => by
    have h : (none : Option (List B × SV)) = some (p, v) := h
    cases h
  | .need c t, p, v, h, hp => by
    have h : (match mergeT t with | some (p, x) => some (c :: p, x) | none => none) = some (p, v) := h
    cases ht : mergeT t with
    | none => rw [ht] at h; cases h
    | some r =>
      obtain ⟨p', x⟩ := r
      rw [ht] at h
      injection h with h; injection h with h1 h2; subst h1; subst h2
      obtain ⟨y, hy, hd⟩ := mergeT_den t p' x ht (fun q hq => hp q (List.mem_cons_of_mem _ hq))
      refine ⟨y, ?_, hd⟩
      simp only [T.pick]
      rw [if_pos (hp c (List.mem_cons_self ..))]; exact hy
  | .br c t e, p, v, h, hp => by
    have h : (match mergeT t, mergeT e with
      | some (p, x), some (q, y) => (match mergeV c x y with | some v => some (p.map (fun n => mkOr (mkNot c) n) ++ q.map (fun n => mkOr c n), v) | none => none)
      | some (p, x), none => some (c :: p, x)
      | none, some (q, y) => some (mkNot c :: q, y)
      | none, none => none) = some (p, v) := h
    simp only [T.pick]
    cases ht : mergeT t with
    | none =>
      cases he : mergeT e with
      | none => rw [ht, he] at h; cases h
      | some r =>
        obtain ⟨q, y⟩ := r
        rw [ht, he] at h
        injection h with h; injection h with h1 h2; subst h1; subst h2
        have hc := hp (mkNot c) (List.mem_cons_self ..)
        simp only [mkNot_den] at hc
        rw [if_neg (by intro h; rw [h] at hc; cases hc)]
        exact mergeT_den e q y he (fun q' hq => hp q' (List.mem_cons_of_mem _ hq))
    | some r =>
      obtain ⟨p', x⟩ := r
      cases he : mergeT e with
      | none =>
        rw [ht, he] at h
        injection h with h; injection h with h1 h2; subst h1; subst h2
        rw [if_pos (hp c (List.mem_cons_self ..))]
        exact mergeT_den t p' x ht (fun q' hq => hp q' (List.mem_cons_of_mem _ hq))
      | some r =>
        obtain ⟨q, y⟩ := r
        rw [ht, he] at h
        simp only at h
        cases hv : mergeV c x y with
        | none => rw [hv] at h; cases h
        | some u =>
          rw [hv] at h
          injection h with h; injection h with h1 h2; subst h1; subst h2
          by_cases hc : c.den ι = true
          · rw [if_pos hc]
            obtain ⟨z, hz, hd⟩ := mergeT_den t p' x ht (fun q' hq => by
              have := hp (mkOr (mkNot c) q') (List.mem_append_left _ (List.mem_map.2 ⟨q', hq, rfl⟩))
              simpa [hc] using this)
            exact ⟨z, hz, fun β => by rw [mergeV_den c x y u hv, if_pos hc, hd]⟩
          · rw [if_neg hc]
            obtain ⟨z, hz, hd⟩ := mergeT_den e q y he (fun q' hq => by
              have := hp (mkOr c q') (List.mem_append_right _ (List.mem_map.2 ⟨q', hq, rfl⟩))
              simpa [hc] using this)
            exact ⟨z, hz, fun β => by rw [mergeV_den c x y u hv, if_neg hc, hd]⟩
end

/-! ### Memory -/
structure Fr (w0 : World) (X : Nat → Prop) (w : World) : Prop where
  os : w.os = w0.os
  tape : w.tape = w0.tape
  output : w.output = w0.output
  size : w0.heap.size ≤ w.heap.size
  block : ∀ k, k < w0.heap.size → ¬ X k → w.heap[k]? = w0.heap[k]?
theorem Fr.refl (w : World) (X : Nat → Prop) : Fr w X w := ⟨rfl, rfl, rfl, Nat.le_refl _, fun _ _ _ => rfl⟩
theorem Fr.trans {w0 w w' : World} {X : Nat → Prop} (h : Fr w0 X w) (k : Fr w (fun _ => False) w') : Fr w0 X w' :=
  ⟨k.os.trans h.os, k.tape.trans h.tape, k.output.trans h.output, Nat.le_trans h.size k.size, fun i hi hx => (k.block i (Nat.lt_of_lt_of_le hi h.size) (fun h => h)).trans (h.block i hi hx)⟩

def Agree (n : Nat) (β β' : Bt) : Prop := ∀ i, i < n → β'.blk i = β.blk i ∧ β'.val i = β.val i
theorem Agree.refl (n : Nat) (β : Bt) : Agree n β β := fun _ _ => ⟨rfl, rfl⟩
theorem Agree.trans {n m : Nat} {a b c : Bt} (h : Agree n a b) (k : Agree m b c) (hn : n ≤ m) : Agree n a c := fun i hi => ⟨((k i (by omega)).1).trans (h i hi).1, ((k i (by omega)).2).trans (h i hi).2⟩
theorem Agree.mono {n m : Nat} {a b : Bt} (h : Agree m a b) (hn : n ≤ m) : Agree n a b := fun i hi => h i (by omega)

structure AbsM (c : Ctx) (w0 : World) (X : Nat → Prop) (ι : Env) (β : Bt) (mem : Mem) (nxt : Nat) (w : World) : Prop where
  blocks : ∀ b cs, (b, cs) ∈ mem → ∃ T, w.heap[β.blk b]? = some (.cells (SV.denL ι β cs).toArray T (0, 0))
  inj : ∀ b b', b ∈ mem.map (·.1) → b' ∈ mem.map (·.1) → β.blk b = β.blk b' → b = b'
  nodup : (mem.map (·.1)).Nodup
  lt : ∀ b, b ∈ mem.map (·.1) → b < nxt
  wr : ∀ b, b ∈ mem.map (·.1) → c.ro ≤ b → w0.heap.size ≤ β.blk b ∨ X (β.blk b)
  glob : ∀ g cs, (g, cs) ∈ c.glob → g < w0.heap.size ∧ ¬ X g ∧ ∃ T fr, w0.heap[g]? = some (.cells (SV.denL ι β cs).toArray T fr)
  fr : Fr w0 X w
  base : c.base ≤ w0.heap.size ∧ (∀ k, X k → c.base ≤ k) ∧ ∀ k, k < c.base → w.heap[k]? = c.bw.heap[k]?

section
variable {c : Ctx} {w0 : World} {X : Nat → Prop} {ι : Env} {β : Bt} {mem : Mem} {nxt : Nat} {w : World}

theorem AbsM.cell (h : AbsM c w0 X ι β mem nxt w) {b : Nat} {cs : List SV} (hb : (b, cs) ∈ mem) (j : Nat) : w.cell? ⟨β.blk b, j, none⟩ = (SV.denL ι β cs)[j]? := by
  obtain ⟨T, hT⟩ := h.blocks b cs hb
  simp [World.cell?, hT]
theorem AbsM.gcell (h : AbsM c w0 X ι β mem nxt w) {g : Nat} {cs : List SV} (hb : (g, cs) ∈ c.glob) (j : Nat) : w.cell? ⟨g, j, none⟩ = (SV.denL ι β cs)[j]? := by
  obtain ⟨h1, h2, T, fr, hT⟩ := h.glob g cs hb
  have := h.fr.block g h1 h2
  simp [World.cell?, this, hT]
theorem AbsM.unfrozen (h : AbsM c w0 X ι β mem nxt w) {b : Nat} {cs : List SV} (hb : (b, cs) ∈ mem) (j : Nat) : w.frozen? ⟨β.blk b, j, none⟩ = false := by
  obtain ⟨T, hT⟩ := h.blocks b cs hb
  simp [World.frozen?, hT]
end

/-! ### Slices that came in -/
def rowVal (ι : Env) (n i j : Nat) : RK → Value
  | .int k => .int k (ι.fn (fnNo n j) i)
  | .bool => .bool (decide (ι.fn (fnNo n j) i = 1))
def RowsOk (c : Ctx) (ι : Env) : Prop := ∀ n ks, rowOf n c.rows = some ks → ι.sl n = 0 ∨ ∃ b o, ι.sa n = some ⟨b, o, none⟩ ∧ b < c.base ∧
  ∀ i, i < ι.sl n → ∀ j k, ks[j]? = some k → c.bw.cell? ⟨b, o + i * ks.length + j, none⟩ = some (rowVal ι n i j k)
theorem rowCells_get (n : Nat) (e : E) : ∀ (ks : List RK) (j i : Nat), (rowCells n e ks j)[i]? = (ks[i]?).map (rowCell n e (j + i))
  | [], _, _ => by simp [rowCells]
  | k :: ks, j, 0 => by simp [rowCells]
  | k :: ks, j, i + 1 => by
    simp only [rowCells, List.getElem?_cons_succ]
    rw [rowCells_get n e ks (j + 1) i, Nat.add_assoc, Nat.add_comm 1 i]
theorem rowCells_length (n : Nat) (e : E) : ∀ (ks : List RK) (j : Nat), (rowCells n e ks j).length = ks.length
  | [], _ => rfl
  | k :: ks, j => by simp [rowCells, rowCells_length n e ks]
theorem rowCell_den {ι : Env} {β : Bt} (n : Nat) (e : E) (j i : Nat) (he : e.den ι = (i : Int)) (k : RK) : (rowCell n e j k).den ι β = rowVal ι n i j k := by
  cases k <;> simp only [rowCell, SV.den, E.den, B.den, rowVal, he]

/-! ### Operands -/
section
variable {ι : Env} {β : Bt}
theorem ofCell_den {v : Value} {s : SV} (h : ofCell v = some s) : s.den ι β = v ∧ v.cells = #[v] ∧ (∀ cs, v ≠ .agg cs) ∧ s.cellsL = [s] := by
  unfold ofCell at h
  split at h <;> (try (cases h)) <;> (try (injection h with h; subst h)) <;> simp [SV.den, E.den, B.den, Value.cells, SV.cellsL]
theorem ofCells_den : ∀ {l : List Value} {s : List SV}, ofCells l = some s → SV.denL ι β s = l
  | [], s, h => by simp only [ofCells] at h; injection h with h; subst h; rfl
  | v :: l, s, h => by
    simp only [ofCells] at h
    split at h <;> try (cases h)
    rename_i x xs e1 e2
    simp only [SV.denL, (ofCell_den (ι := ι) (β := β) e1).1, ofCells_den e2]
theorem ofValue_den {v : Value} {s : SV} (h : ofValue v = some s) : s.den ι β = v := by
  unfold ofValue at h
  split at h
  · rename_i cs
    split at h <;> try (cases h)
    rename_i l e
    simp only [SV.den, ofCells_den e]
  · rename_i cs
    split at h <;> try (cases h)
    rename_i e
    have : cs = #[] := by apply Array.toList_inj.1; simpa using e
    subst this
    rfl
  · exact (ofCell_den h).1
theorem den_cells {s : SV} (h : s.isAny = false) : (s.den ι β).cells.toList = SV.denL ι β s.cellsL ∨ (∃ n, s = .opq n) := by
  cases s <;> simp [SV.isAny] at h <;> simp [SV.den, Value.cells, SV.cellsL, SV.denL]
theorem denL_get (s : List SV) (n : Nat) : (SV.denL ι β s)[n]? = (s[n]?).map (SV.den ι β) := by
  rw [denL_map]; simp
theorem denL_append (a b : List SV) : SV.denL ι β (a ++ b) = SV.denL ι β a ++ SV.denL ι β b := by simp [denL_map]
theorem denL_length (a : List SV) : (SV.denL ι β a).length = a.length := by simp [denL_map]
theorem uninit_den : uninit.den ι β = undef := rfl

variable {s : List SV} {a : Act}
theorem evalO_den (hs : a.tmps.toList = SV.denL ι β s) {x : Operand} {v : SV} (h : evalO s x = some v) : a.eval x = v.den ι β := by
  cases x with
  | tmp t =>
    have h : some ((nthSV s t).getD uninit) = some v := h
    injection h with h; subst h
    rw [nthSV_eq]
    simp only [Act.eval, Array.getD_eq_getD_getElem?]
    rw [← Array.getElem?_toList, hs, denL_get]
    cases s[t]? <;> simp [uninit_den]
  | const v' => exact (ofValue_den h).symm
  | global g =>
    have h : some (SV.gptr g 0) = some v := h
    injection h with h; subst h; rfl
  | func f =>
    have h : some (SV.func (.func f) [] []) = some v := h
    injection h with h; subst h; rfl
theorem evalOs_den (hs : a.tmps.toList = SV.denL ι β s) : ∀ {xs : List Operand} {vs : List SV}, evalOs s xs = some vs → xs.map a.eval = SV.denL ι β vs
  | [], vs, h => by simp only [evalOs] at h; injection h with h; subst h; rfl
  | x :: xs, vs, h => by
    simp only [evalOs] at h
    split at h <;> try (cases h)
    rename_i v l e1 e2
    simp only [List.map_cons, SV.denL, evalO_den hs e1, evalOs_den hs e2]
theorem evalPs_den (hs : a.tmps.toList = SV.denL ι β s) : ∀ {xs : List (Nat × Operand)} {vs : List (Nat × SV)}, evalPs s xs = some vs → xs.map (fun p => (p.1, a.eval p.2)) = vs.map (fun p => (p.1, p.2.den ι β))
  | [], vs, h => by simp only [evalPs] at h; injection h with h; subst h; rfl
  | (i, x) :: xs, vs, h => by
    simp only [evalPs] at h
    split at h <;> try (cases h)
    rename_i v l e1 e2
    simp only [List.map_cons, evalO_den hs e1, evalPs_den hs e2]
end

/-! ### What the types say -/
section
variable {P : Program} {w : World} {t : TypeId} {ι : Env} {β : Bt}
theorem run_isAgg {b : Bool} (h : isAggT P t = some b) : (isAgg t).run P w = .ok b w := by
  unfold isAggT at h
  unfold isAgg
  split at h
  · rename_i e; injection h with h; subst h; simp [run_underlying e]
  · rename_i e; injection h with h; subst h; simp [run_underlying e]
  · rename_i d h1 h2 e
    injection h with h; subst h
    simp only [Sem.run_bind, run_underlying e, Result.andThen_ok]
    cases d <;> first | rfl | exact absurd rfl (h1 _) | exact absurd rfl (h2 _ _)
  · cases h
theorem run_typeInfo {i : TypeInfo} (h : P.info? t = some i) : (typeInfo t).run P w = .ok i w := by
  simp [typeInfo, h]
theorem sizeT_info {n : Nat} (h : sizeT P t = some n) : ∃ i, P.info? t = some i ∧ i.size = n := by
  unfold sizeT at h
  cases e : P.info? t with
  | none => rw [e] at h; cases h
  | some i => rw [e] at h; exact ⟨i, rfl, by simpa using h⟩
theorem run_sizeOf {n : Nat} (h : sizeT P t = some n) : (sizeOf t).run P w = .ok n w := by
  obtain ⟨i, hi, rfl⟩ := sizeT_info h
  simp [sizeOf, run_typeInfo hi]
theorem run_zero {z : SV} (h : zeroT P t = some z) : ∃ v, (zeroValue t).run P w = .ok v w ∧ ofValue v = some z := by
  unfold zeroT at h
  cases e : P.info? t with
  | none => rw [e] at h; cases h
  | some i =>
    rw [e] at h
    simp only at h
    cases ez : i.zero with
    | none => rw [ez] at h; cases h
    | some v => rw [ez] at h; exact ⟨v, by simp [zeroValue, run_typeInfo e, ez], h⟩
/-- The cells of a value that the tables give. -/
theorem ofValue_cells {v : Value} {s : SV} (h : ofValue v = some s) : v.cells.toList = SV.denL ι β s.cellsL := by
  unfold ofValue at h
  split at h
  · rename_i cs
    split at h <;> try (cases h)
    rename_i l e
    simp only [Value.cells, SV.cellsL, ofCells_den e]
  · rename_i cs
    split at h <;> try (cases h)
    rename_i e
    have : cs = #[] := by apply Array.toList_inj.1; simpa using e
    subst this
    rfl
  · obtain ⟨h1, h2, _, h4⟩ := ofCell_den (ι := ι) (β := β) h
    rw [h2, h4]; simp [SV.denL, h1]

theorem takeDrop (cs r : List SV) (n off : Nat) (h : takeSV n (dropSV off cs) = some r) : r = (cs.drop off).take n ∧ r.length = n := by
  rw [dropSV_eq] at h; exact takeSV_eq _ _ _ h
theorem run_part {cs : List SV} {off : Nat} {v : SV} (h : partSV P t cs off = some v) : (part t (SV.denL ι β cs).toArray off).run P w = .ok (v.den ι β) w := by
  unfold partSV at h
  unfold part
  split at h
  · rename_i n ha hs
    split at h <;> try (cases h)
    rename_i l hl
    obtain ⟨h1, h2⟩ := takeDrop cs l n off hl
    simp only [Sem.run_bind, run_isAgg ha, Result.andThen_ok, if_true, run_sizeOf hs, Sem.run_pure, SV.den]
    congr 2
    rw [h1]
    simp only [denL_map, List.map_take, List.map_drop]
    apply Array.toList_inj.1
    simp [List.take_drop]
  · rename_i ha
    rw [nthSV_eq] at h
    simp only [Sem.run_bind, run_isAgg ha, Result.andThen_ok, Bool.false_eq_true, if_false]
    have : (SV.denL ι β cs).toArray[off]? = some (v.den ι β) := by simp [denL_get, h]
    rw [this]; rfl
  · cases h

/-- The same, of a part of a block. -/
theorem run_loadWin {cs : List SV} {b base off : Nat} {v : SV} (hc : ∀ j, j < cs.length → w.cell? ⟨b, base + j, none⟩ = (SV.denL ι β cs)[j]?) (h : partSV P t cs off = some v) :
    (loadVar t ⟨b, base + off, none⟩).run P w = .ok (v.den ι β) w := by
  unfold partSV at h
  unfold loadVar
  split at h
  · rename_i n ha hs
    split at h <;> try (cases h)
    rename_i l hl
    obtain ⟨h1, h2⟩ := takeDrop cs l n off hl
    have e : (loadCells ⟨b, base + off, none⟩ n).run P w = .ok (SV.denL ι β l).toArray w := by
      have hlen : (SV.denL ι β l).length = n := by rw [denL_length]; exact h2
      rw [← hlen]
      refine run_loadCells_list w _ _ ?_
      intro j u hj
      have hadd : (⟨b, base + off, none⟩ : Addr).add j = ⟨b, base + off + j, none⟩ := Addr.add_lit b (base + off) j
      rw [denL_get, h1] at hj
      have hjn : j < n := by
        rcases Nat.lt_or_ge j n with h | h
        · exact h
        · rw [List.getElem?_eq_none (by rw [List.length_take]; omega)] at hj; cases hj
      rw [List.getElem?_take_of_lt hjn, List.getElem?_drop] at hj
      have hin : off + j < cs.length := by
        rcases Nat.lt_or_ge (off + j) cs.length with h | h
        · exact h
        · rw [List.getElem?_eq_none h] at hj; cases hj
      rw [hadd, Nat.add_assoc, hc _ hin, denL_get]
      exact hj
    simp only [Sem.run_bind, run_isAgg ha, Result.andThen_ok, if_true, run_sizeOf hs, e, Sem.run_pure, SV.den]
  · rename_i ha
    rw [nthSV_eq] at h
    have hin : off < cs.length := by
      rcases Nat.lt_or_ge off cs.length with h' | h'
      · exact h'
      · rw [List.getElem?_eq_none h'] at h; cases h
    simp only [Sem.run_bind, run_isAgg ha, Result.andThen_ok, Bool.false_eq_true, if_false, run_load, hc _ hin, denL_get, h, Option.map_some]
  · cases h

theorem run_loadVar {cs : List SV} {b off : Nat} {v : SV} (hc : ∀ j, w.cell? ⟨b, j, none⟩ = (SV.denL ι β cs)[j]?) (h : partSV P t cs off = some v) :
    (loadVar t ⟨b, off, none⟩).run P w = .ok (v.den ι β) w := by
  unfold partSV at h
  unfold loadVar
  split at h
  · rename_i n ha hs
    split at h <;> try (cases h)
    rename_i l hl
    obtain ⟨h1, h2⟩ := takeDrop cs l n off hl
    have e : (loadCells ⟨b, off, none⟩ n).run P w = .ok (SV.denL ι β l).toArray w := by
      have hlen : (SV.denL ι β l).length = n := by rw [denL_length]; exact h2
      rw [← hlen]
      refine run_loadCells_list w _ _ ?_
      intro j u hj
      have hadd : (⟨b, off, none⟩ : Addr).add j = ⟨b, off + j, none⟩ := Addr.add_lit b off j
      rw [hadd, hc, denL_get]
      rw [denL_get, h1] at hj
      have hjn : j < n := by
        rcases Nat.lt_or_ge j n with h | h
        · exact h
        · rw [List.getElem?_eq_none (by rw [List.length_take]; omega)] at hj; cases hj
      rw [List.getElem?_take_of_lt hjn, List.getElem?_drop] at hj
      exact hj
    simp only [Sem.run_bind, run_isAgg ha, Result.andThen_ok, if_true, run_sizeOf hs, e, Sem.run_pure, SV.den]
  · rename_i ha
    rw [nthSV_eq] at h
    simp only [Sem.run_bind, run_isAgg ha, Result.andThen_ok, Bool.false_eq_true, if_false, run_load, hc, denL_get, h, Option.map_some]
  · cases h

theorem isOne_den {v : SV} (h : v.isOne = true) : (v.den ι β).oneCell' = true := by
  cases v <;> simp [SV.isOne, SV.den, Value.oneCell'] at *
  exact β.one _
theorem notAny {v : SV} (h : allOne v.cellsL = true) : v.isAny = false := by
  cases v <;> first | rfl | (simp [SV.cellsL, allOne, SV.isOne] at h)
theorem allOne_den : ∀ {l : List SV}, allOne l = true → ∀ v ∈ SV.denL ι β l, v.oneCell' = true
  | [], _, v, hv => by cases hv
  | x :: l, h, v, hv => by
    simp only [allOne, Bool.and_eq_true] at h
    simp only [SV.denL, List.mem_cons] at hv
    rcases hv with rfl | hv
    · exact isOne_den h.1
    · exact allOne_den h.2 v hv

/-- The same but for one block. -/
structure But (b : Nat) (w w' : World) : Prop where
  os : w'.os = w.os
  tape : w'.tape = w.tape
  output : w'.output = w.output
  drawn : w'.drawn = w.drawn
  size : w'.heap.size = w.heap.size
  block : ∀ k, k ≠ b → w'.heap[k]? = w.heap[k]?
theorem But.refl (b : Nat) (w : World) : But b w w := ⟨rfl, rfl, rfl, rfl, rfl, fun _ _ => rfl⟩
theorem But.trans {b : Nat} {x y z : World} (h : But b x y) (k : But b y z) : But b x z :=
  ⟨k.os.trans h.os, k.tape.trans h.tape, k.output.trans h.output, k.drawn.trans h.drawn, k.size.trans h.size, fun i hi => (k.block i hi).trans (h.block i hi)⟩

theorem tail_same (A A' vs B : List Value) (v : Value) (n : Nat) (hA : A.length = n + 1) (hA' : A'.length = n) (j : Nat) (hj : n < j) : (A ++ (vs ++ B))[j]? = (A' ++ (v :: vs ++ B))[j]? := by
  obtain ⟨d, rfl⟩ : ∃ d, j = n + 1 + d := ⟨j - (n + 1), by omega⟩
  rw [List.getElem?_append_right (l₁ := A) (by omega), List.getElem?_append_right (l₁ := A') (by omega), hA, hA']
  have e5 : n + 1 + d - (n + 1) = d := by omega
  have e6 : n + 1 + d - n = d + 1 := by omega
  rw [e5, e6, List.cons_append, List.getElem?_cons_succ]
theorem run_storeCells {b off : Nat} {T : TypeId} : ∀ (vs : List Value) (i : Nat) (w : World) (c : Array Value), w.heap[b]? = some (.cells c T (0, 0)) → (∀ v ∈ vs, v.oneCell' = true) → off + i + vs.length ≤ c.size →
    ∃ w', (storeCells ⟨b, off, none⟩ vs i).run P w = .ok () w' ∧ But b w w' ∧ w'.heap[b]? = some (.cells (c.toList.take (off + i) ++ vs ++ c.toList.drop (off + i + vs.length)).toArray T (0, 0))
  | [], i, w, c, hb, _, hl => ⟨w, by simp [storeCells], But.refl b w, by rw [hb]; simp⟩
  | v :: vs, i, w, c, hb, ho, hl => by
    simp only [List.length_cons] at hl
    have hadd : (⟨b, off, none⟩ : Addr).add i = ⟨b, off + i, none⟩ := Addr.add_lit b off i
    have hlt : off + i < c.size := by omega
    have hcell : w.cell? ⟨b, off + i, none⟩ = some c[off + i] := by simp [World.cell?, hb, hlt]
    have hfz : w.frozen? ⟨b, off + i, none⟩ = false := frozen_of_row w b _ c T hb
    have hst : (store ⟨b, off + i, none⟩ v).run P w = .ok () (w.setCell ⟨b, off + i, none⟩ v) := by
      rw [run_store P w _ v _ (ho v (List.mem_cons_self ..)), hcell]
      simp [hfz]
    have hb1 : (w.setCell ⟨b, off + i, none⟩ v).heap[b]? = some (.cells (c.setIfInBounds (off + i) v) T (0, 0)) := heap_setCell_same w b (off + i) c T v hb
    have but1 : But b w (w.setCell ⟨b, off + i, none⟩ v) := ⟨rfl, rfl, rfl, rfl, by simp [World.setCell], fun k hk => heap_setCell_other w _ k v hk⟩
    obtain ⟨w', h1, h2, h3⟩ := run_storeCells (off := off) vs (i + 1) _ (c.setIfInBounds (off + i) v) hb1 (fun u hu => ho u (List.mem_cons_of_mem _ hu)) (by simp; omega)
    refine ⟨w', ?_, but1.trans h2, ?_⟩
    · simp only [storeCells, Sem.run_bind, hadd, hst, Result.andThen_ok]
      exact h1
    · rw [h3]
      congr 2
      simp only [Array.toList_setIfInBounds, List.length_cons]
      refine congrArg List.toArray ?_
      apply List.ext_getElem?
      intro j
      have hlen : c.toList.length = c.size := by simp
      rcases Nat.lt_trichotomy j (off + i) with hj | hj | hj
      · rw [List.append_assoc, List.append_assoc, List.getElem?_append_left (by simp; omega), List.getElem?_append_left (by simp; omega), List.getElem?_take_of_lt (by omega), List.getElem?_take_of_lt (by omega), List.getElem?_set_ne (by omega)]
      · subst hj
        rw [List.append_assoc, List.append_assoc, List.getElem?_append_left (by simp; omega), List.getElem?_append_right (by simp; omega)]
        rw [List.getElem?_take_of_lt (by omega), List.getElem?_set_self (by simp; omega)]
        have e4 : min (off + i) c.toList.length = off + i := by omega
        rw [List.length_take, e4, Nat.sub_self]; rfl
      · have eB : (c.toList.set (off + i) v).drop (off + (i + 1) + vs.length) = c.toList.drop (off + i + (vs.length + 1)) := by
          rw [List.drop_set]
          have e7 : off + (i + 1) + vs.length = off + i + (vs.length + 1) := by omega
          rw [if_pos (by omega), e7]
        rw [List.append_assoc, List.append_assoc, eB]
        exact tail_same _ _ vs _ v (off + i) (by simp; omega) (by simp; omega) j hj
end
end Go.Proofs.YtjmpoiafcdphbaaSx
