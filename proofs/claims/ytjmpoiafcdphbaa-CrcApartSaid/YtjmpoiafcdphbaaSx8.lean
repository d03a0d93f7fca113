/- Building values, slicing; and any operation. -/
import Derived.Test.YtjmpoiafcdphbaaSx7
namespace Go.Proofs.YtjmpoiafcdphbaaSx
set_option linter.unusedVariables false
set_option linter.unusedSimpArgs false
section
variable {P : Program} {c : Ctx} {w0 : World} {X : Nat → Prop} {ι : Env} {β : Bt} {mem : Mem} {nxt : Nat} {w : World} {s : List SV} {a : Act} {asm : Asm} {r : R}
variable {dst : Option Tmp} {type : TypeId} {pos : String} {after : Array Edge} {guard : Option (Nat × Bool)}

theorem foldl_zip (V : List Value) (off : Nat) : ∀ (k : Nat) (cells : Array Value), off + k + V.length ≤ cells.size →
    ((V.zipIdx k).foldl (fun cs (p : Value × Nat) => cs.setIfInBounds (off + p.2) p.1) cells).toList = putL cells.toList (off + k) V := by
  induction V with
  | nil => intro k cells h; simp [putL]
  | cons v V ih =>
    intro k cells h
    simp only [List.length_cons] at h
    simp only [List.zipIdx_cons, List.foldl_cons]
    rw [ih (k + 1) _ (by simp; omega)]
    unfold putL
    simp only [Array.toList_setIfInBounds, List.length_cons]
    apply List.ext_getElem?
    intro j
    have hlen : cells.toList.length = cells.size := by simp
    rcases Nat.lt_trichotomy j (off + k) with hj | hj | hj
    · rw [List.append_assoc, List.append_assoc, List.getElem?_append_left (by simp; omega), List.getElem?_append_left (by simp; omega), List.getElem?_take_of_lt (by omega), List.getElem?_take_of_lt (by omega), List.getElem?_set_ne (by omega)]
    · subst hj
      rw [List.append_assoc, List.append_assoc, List.getElem?_append_left (by simp; omega), List.getElem?_append_right (by simp; omega)]
      rw [List.getElem?_take_of_lt (by omega), List.getElem?_set_self (by simp; omega)]
      have e4 : min (off + k) cells.toList.length = off + k := by omega
      rw [List.length_take, e4, Nat.sub_self]; rfl
    · have eB : (cells.toList.set (off + k) v).drop (off + (k + 1) + V.length) = cells.toList.drop (off + k + (V.length + 1)) := by
        rw [List.drop_set]
        have e7 : off + (k + 1) + V.length = off + k + (V.length + 1) := by omega
        rw [if_pos (by omega), e7]
      rw [List.append_assoc, List.append_assoc, eB]
      exact tail_same _ _ V _ v (off + k) (by simp; omega) (by simp; omega) j hj

theorem fill_ok {place : Nat → Option (Nat × Nat)} : ∀ (ps : List (Nat × SV)) (cells l : List SV), fillSV place cells ps = some l →
    Instr.fill place (SV.denL ι β cells).toArray (ps.map fun p => (p.1, p.2.den ι β)) = some (SV.denL ι β l).toArray
  | [], cells, l, h => by
    simp only [fillSV] at h
    injection h with h; subst h; rfl
  | (i, v) :: ps, cells, l, h => by
    simp only [fillSV] at h
    cases hp : place i with
    | none => rw [hp] at h; cases h
    | some q =>
      obtain ⟨off, size⟩ := q
      rw [hp] at h
      simp only at h
      split at h <;> try (cases h)
      rename_i hlen'
      obtain ⟨hlen, hany⟩ := hlen'
      split at h <;> try (cases h)
      rename_i m hm
      obtain ⟨q1, q2, q3⟩ := putSV_den (ι := ι) (β := β) hm
      have ih := fill_ok ps m l h
      have hcs : (v.den ι β).cells.size = v.cellsL.length := by rw [← Array.length_toList, den_cellsL _ hany, denL_length]
      simp only [List.map_cons, Instr.fill, hp]
      rw [if_neg (by simp [hcs, denL_length]; omega)]
      rw [← ih]
      congr 1
      apply Array.toList_inj.1
      have := foldl_zip (v.den ι β).cells.toList off 0 (SV.denL ι β cells).toArray (by simp [hcs, denL_length]; omega)
      simp only [Nat.add_zero] at this
      rw [← Array.foldl_toList]
      rw [Array.toList_zipIdx, this, q1, den_cellsL _ hany]

theorem placesT_ok : ∀ (fs : List Field) (l : List (Nat × Nat)), placesT P fs = some l → (fs.mapM (m := Sem) fun f => do pure (f.offset, ← sizeOf f.type)).run P w = .ok l w ∧ ∀ i, nthP l i = l[i]?
  | [], l, h => by
    simp only [placesT] at h
    injection h with h; subst h
    exact ⟨by simp, fun i => by cases i <;> rfl⟩
  | f :: fs, l, h => by
    simp only [placesT] at h
    split at h <;> try (cases h)
    rename_i n m hn hm
    obtain ⟨h1, h2⟩ := placesT_ok fs m hm
    refine ⟨?_, fun i => ?_⟩
    · simp only [List.mapM_cons, Sem.run_bind, run_sizeOf hn, Result.andThen_ok, Sem.run_pure, h1]
    · cases i with
      | zero => rfl
      | succ i => show nthP m i = _; rw [h2 i]; simp

theorem opBuild_ok (hs : a.tmps.toList = SV.denL ι β s) {t : TypeId} {ps : Array (Nat × Operand)} (h : (opBuild c s t ps).pick ι = some r) :
    RunsTo ι β nxt w ((execOp a.eval ⟨dst, .build t ps, type, pos, after, guard⟩).run c.P w) r := by
  unfold opBuild at h
  obtain ⟨vs, hvs, h1⟩ := pick_opt h
  obtain ⟨z, hz, h2⟩ := pick_opt h1
  have evs := evalPs_den hs hvs
  obtain ⟨zv, hzv, hof⟩ := run_zero (w := w) hz
  have ezc : zv.cells = (SV.denL ι β z.cellsL).toArray := by apply Array.toList_inj.1; rw [ofValue_cells (ι := ι) (β := β) hof]
  have eps : (ps.map fun p => (p.1, a.eval p.2)).toList = vs.map fun p => (p.1, p.2.den ι β) := by rw [← evs]; simp
  split at h2
  · rename_i fs hfs
    obtain ⟨pl, hpl, h3⟩ := pick_opt h2
    obtain ⟨l, hl, h4⟩ := pick_opt h3
    obtain rfl := pick_val h4
    obtain ⟨m1, m2⟩ := placesT_ok (w := w) fs.toList pl hpl
    have hfun : (nthP pl) = fun i => (pl.toArray)[i]? := by funext i; rw [m2]; simp
    have hf := fill_ok (ι := ι) (β := β) vs z.cellsL l hl
    rw [hfun] at hf
    have hmap : (fs.mapM (m := Sem) fun f => do pure (f.offset, ← sizeOf f.type)).run c.P w = .ok pl.toArray w := by
      rw [Array.mapM_eq_mapM_toList]
      simp only [Sem.run_map, m1, Result.andThen_ok]
    simp only [execOp, Instr.build, Sem.run_bind, hzv, Result.andThen_ok, run_underlying hfs, hmap, ezc, eps, hf, Sem.run_pure, RunsTo, SV.den]
  · rename_i n e hfs
    obtain ⟨m, hm, h3⟩ := pick_opt h2
    obtain ⟨l, hl, h4⟩ := pick_opt h3
    obtain rfl := pick_val h4
    have hf := fill_ok (ι := ι) (β := β) vs z.cellsL l hl
    simp only [execOp, Instr.build, Sem.run_bind, hzv, Result.andThen_ok, run_underlying hfs, run_sizeOf hm, ezc, eps, hf, Sem.run_pure, RunsTo, SV.den]
  · cases h2

theorem timesSV_get (z : List SV) (hz : 0 < z.length) : ∀ (n i : Nat), i < n * z.length → (timesSV n z)[i]? = z[i % z.length]?
  | 0, i, h => by simp at h
  | n + 1, i, h => by
    unfold timesSV
    by_cases hi : i < z.length
    · rw [List.getElem?_append_left hi, Nat.mod_eq_of_lt hi]
    · rw [List.getElem?_append_right (by omega), timesSV_get z hz n (i - z.length) (by rw [Nat.add_mul] at h; omega)]
      congr 1
      rw [Nat.mod_eq_sub_mod (by omega : i ≥ z.length)]
theorem timesSV_length (z : List SV) : ∀ n, (timesSV n z).length = n * z.length
  | 0 => by simp [timesSV]
  | n + 1 => by unfold timesSV; rw [List.length_append, timesSV_length z n, Nat.add_mul]; omega

theorem opBuildSlice_ok (hs : a.tmps.toList = SV.denL ι β s) {t : TypeId} {n : Nat} {ps : Array (Nat × Operand)} (h : (opBuildSlice c nxt s t n ps).pick ι = some r) :
    RunsTo ι β nxt w ((execOp a.eval ⟨dst, .buildSlice t n ps, type, pos, after, guard⟩).run c.P w) r := by
  unfold opBuildSlice at h
  obtain ⟨vs, hvs, h1⟩ := pick_opt h
  have evs := evalPs_den hs hvs
  have eps : (ps.map fun p => (p.1, a.eval p.2)).toList = vs.map fun p => (p.1, p.2.den ι β) := by rw [← evs]; simp
  split at h1
  · rename_i e ht
    obtain ⟨m, hm, h2⟩ := pick_opt h1
    obtain ⟨z, hz, h3⟩ := pick_opt h2
    obtain ⟨hchk, h4⟩ := pick_chk h3
    simp only [Bool.and_eq_true, decide_eq_true_eq] at hchk
    obtain ⟨⟨h0, hmx⟩, hzl⟩ := hchk
    obtain ⟨l, hl, h5⟩ := pick_opt h4
    have h5 : some (R.new (.slice nxt 0 n n) l) = some r := h5
    injection h5 with h5; subst h5
    obtain ⟨zv, hzv, hof⟩ := run_zero (w := w) hz
    have ezc : zv.cells = (SV.denL ι β z.cellsL).toArray := by apply Array.toList_inj.1; rw [ofValue_cells (ι := ι) (β := β) hof]
    have hzs : zv.cells.size = m := by rw [ezc]; simp [denL_length, hzl]
    have hm0 : 0 < m := Nat.pos_of_ne_zero (fun h => by rw [h] at h0; simp at h0)
    intro hn
    refine ⟨e, ?_⟩
    have hfill := fill_ok (ι := ι) (β := β) vs _ l hl
    have hrow : (Array.range (n * m)).map (fun i => zv.cells[i % zv.cells.size]!) = (SV.denL ι β (timesSV n z.cellsL)).toArray := by
      apply Array.toList_inj.1
      apply List.ext_getElem?
      intro i
      simp only [Array.toList_map, Array.toList_range, List.getElem?_map]
      by_cases hi : i < n * m
      · rw [List.getElem?_range hi]
        simp only [Option.map_some]
        rw [denL_get, timesSV_get z.cellsL (by omega) n i (by rw [hzl]; exact hi), hzs]
        have hlt : i % m < m := Nat.mod_lt _ hm0
        rw [← hzl] at hlt
        rw [ezc, ← hzl]
        have e1 : i % z.cellsL.length < (SV.denL ι β z.cellsL).toArray.size := by simp [denL_length]; exact hlt
        rw [getElem!_pos (SV.denL ι β z.cellsL).toArray (i % z.cellsL.length) e1]
        simp only [List.getElem_toArray]
        rw [List.getElem?_eq_getElem hlt]
        simp [denL_map]
      · rw [List.getElem?_eq_none (by simp; omega), List.getElem?_eq_none (by rw [denL_length, timesSV_length, hzl]; omega)]
        rfl
    simp only [execOp, Instr.buildSlice, Sem.run_bind, run_underlying ht, Result.andThen_ok, run_sizeOf hm]
    rw [if_neg (by omega), if_neg (by omega)]
    simp only [Sem.run_bind, hzv, Result.andThen_ok, Sem.run_pure, hrow, eps, hfill, newRow, run_newObj, SV.den, hn]
  · cases h1

theorem bound_ok (hs : a.tmps.toList = SV.denL ι β s) {d l : Nat} {x : Option Operand} (h : bound s d x = some l) : (x = none ∧ l = d) ∨ ∃ o k, x = some o ∧ a.eval o = .int k (l : Int) := by
  cases x with
  | none => simp only [bound] at h; injection h with h; exact .inl ⟨rfl, h.symm⟩
  | some o =>
    simp only [bound] at h
    split at h <;> try (cases h)
    rename_i k z e
    split at h <;> try (cases h)
    rename_i hz
    refine .inr ⟨o, k, rfl, ?_⟩
    rw [evalO_den hs e]
    simp only [SV.den, E.den]
    congr 1; omega

theorem run_bounds {isSlice : Bool} {len cap l h : Nat} {lo hi : Option Value} (hlo : (lo = none ∧ l = 0) ∨ ∃ k, lo = some (.int k (l : Int))) (hhi : (hi = none ∧ h = len) ∨ ∃ k, hi = some (.int k (h : Int))) (h1 : l ≤ h) (h2 : h ≤ cap) :
    (Instr.sliceBounds isSlice len cap lo hi none).run P w = .ok (l, h, cap) w := by
  unfold Instr.sliceBounds
  rcases hhi with ⟨rfl, rfl⟩ | ⟨kh, rfl⟩ <;> rcases hlo with ⟨rfl, rfl⟩ | ⟨kl, rfl⟩ <;>
    simp only [Sem.run_bind, Sem.run_pure, Result.andThen_ok, Instr.sliceBound, asIntOf, Option.isSome_none, Bool.false_eq_true, if_false]
  · rw [if_pos (by omega)]; simp
  · rw [if_pos (by omega)]; simp
  · rw [if_pos (by omega)]
    simp only [Sem.run_pure, Result.andThen_ok, Int.toNat_natCast]
    rw [if_pos (by omega)]; simp

theorem opSlice_ok (hs : a.tmps.toList = SV.denL ι β s) {t : TypeId} {x : Operand} {lo hi : Option Operand} (h : (opSlice c s t x lo hi).pick ι = some r) :
    RunsTo ι β nxt w ((execOp a.eval ⟨dst, .slice t x lo hi none, type, pos, after, guard⟩).run c.P w) r := by
  unfold opSlice at h
  obtain ⟨v, hv, h1⟩ := pick_opt h
  have ev := evalO_den hs hv
  have bnd : ∀ {d l : Nat} {x : Option Operand}, bound s d x = some l → (x.map a.eval = none ∧ l = d) ∨ ∃ k, x.map a.eval = some (.int k (l : Int)) := by
    intro d l x hb
    rcases bound_ok hs hb with ⟨rfl, rfl⟩ | ⟨o, k, rfl, e⟩
    · exact .inl ⟨rfl, rfl⟩
    · exact .inr ⟨k, by simp [e]⟩
  split at h1
  · rename_i n e b off ht
    obtain ⟨m, hm, h2⟩ := pick_opt h1
    obtain ⟨l, hl, h3⟩ := pick_opt h2
    obtain ⟨hh, hhh, h4⟩ := pick_opt h3
    obtain ⟨hchk, h5⟩ := pick_chk h4
    simp only [Bool.and_eq_true, decide_eq_true_eq] at hchk
    obtain rfl := pick_val h5
    have ht' : c.P.underlying t = some (.array n e) := by assumption
    simp only [execOp, ev, SV.den, Instr.sliceAt, Sem.run_bind, run_underlying ht', Result.andThen_ok, Instr.sureAddr, Sem.run_pure, Option.map_none, run_bounds (bnd hl) (bnd hhh) hchk.1 hchk.2, run_sizeOf hm, RunsTo]
    congr 4
    split <;> simp [Addr.add_lit]
  · rename_i e b off len cap ht
    obtain ⟨m, hm, h2⟩ := pick_opt h1
    obtain ⟨l, hl, h3⟩ := pick_opt h2
    obtain ⟨hh, hhh, h4⟩ := pick_opt h3
    obtain ⟨hchk, h5⟩ := pick_chk h4
    simp only [Bool.and_eq_true, decide_eq_true_eq] at hchk
    obtain rfl := pick_val h5
    have ht' : c.P.underlying t = some (.slice e) := by assumption
    simp only [execOp, ev, SV.den, Instr.sliceAt, Instr.slice, Sem.run_bind, run_underlying ht', Result.andThen_ok, Instr.sureAddr, Sem.run_pure, Option.map_none, run_bounds (bnd hl) (bnd hhh) hchk.1 hchk.2, run_sizeOf hm, RunsTo]
    congr 3
    split <;> simp [Addr.add_lit]
  · cases h1
end
end Go.Proofs.YtjmpoiafcdphbaaSx
