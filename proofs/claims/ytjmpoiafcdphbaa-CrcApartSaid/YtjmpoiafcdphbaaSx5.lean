/- Each operation that the executor knows does what the executor says. -/
import Derived.Test.YtjmpoiafcdphbaaSx4
namespace Go.Proofs.YtjmpoiafcdphbaaSx
set_option linter.unusedVariables false
set_option linter.unusedSimpArgs false
section
variable {P : Program} {w : World} {t : TypeId} {ι : Env} {β : Bt}

def InX (ι : Env) (ix : List (E × (Nat × Nat))) : Prop := ∀ x ∈ ix, 0 ≤ x.1.den ι ∧ x.1.den ι < (x.2.2 : Int)
theorem needX_in : ∀ {ix : List (E × (Nat × Nat))}, (∀ q ∈ needX ix, q.den ι = true) → InX ι ix
  | [], _ => fun x hx => by cases hx
  | (e, m, n) :: ix, h => by
    intro x hx
    simp only [needX, List.mem_cons] at h
    rcases List.mem_cons.1 hx with rfl | hx
    · have h1 := h _ (.inl rfl)
      have h2 := h _ (.inr (.inl rfl))
      simp only [mkLe_den, mkLt_den, decide_eq_true_eq] at h1 h2
      simp only [E.den] at h1 h2
      exact ⟨h1, h2⟩
    · exact needX_in (fun q hq => h q (.inr (.inr hq))) x hx
theorem InX.tail {x : E × (Nat × Nat)} {ix : List (E × (Nat × Nat))} (h : InX ι (x :: ix)) : InX ι ix := fun y hy => h y (List.mem_cons_of_mem _ hy)

theorem selLoad_den : ∀ (ix : List (E × (Nat × Nat))) (cs : List SV) (off : Nat) (v : SV), selLoad P t cs ix off = some v → InX ι ix → ∃ u, partSV P t cs (offX ι off ix) = some u ∧ ∀ β, v.den ι β = u.den ι β
  | [], cs, off, v, h, _ => ⟨v, h, fun _ => rfl⟩
  | (e, m, n) :: ix, cs, off, v, h, hin => by
    have key : ∀ (n : Nat) (v : SV), (Nat.rec (motive := fun _ => Option SV) none (fun j r => match r with | none => (match j with | 0 => selLoad P t cs ix off | _ => none) | some r => match selLoad P t cs ix (off + j * m) with | some v => mergeV (mkEq e (.lit j)) v r | none => none) n) = some v →
        0 ≤ e.den ι → e.den ι < (n : Int) → ∃ u, selLoad P t cs ix (off + (e.den ι).toNat * m) = some u ∧ ∀ β, v.den ι β = u.den ι β := by
      intro n
      induction n with
      | zero => intro v _ h0 h1; omega
      | succ j ih =>
        intro v h h0 h1
        simp only at h
        cases hr : (Nat.rec (motive := fun _ => Option SV) none (fun j r => match r with | none => (match j with | 0 => selLoad P t cs ix off | _ => none) | some r => match selLoad P t cs ix (off + j * m) with | some v => mergeV (mkEq e (.lit j)) v r | none => none) j) with
        | none =>
          rw [hr] at h
          cases j with
          | zero =>
            have e0 : (e.den ι).toNat = 0 := by omega
            refine ⟨v, ?_, fun _ => rfl⟩
            rw [e0]; simpa using h
          | succ j => cases h
        | some r =>
          rw [hr] at h
          simp only at h
          cases hs : selLoad P t cs ix (off + j * m) with
          | none => rw [hs] at h; cases h
          | some u =>
            rw [hs] at h
            simp only at h
            by_cases hj : e.den ι = (j : Int)
            · have e0 : (e.den ι).toNat = j := by omega
              refine ⟨u, by rw [e0]; exact hs, fun β => ?_⟩
              rw [mergeV_den _ _ _ _ h, if_pos (by rw [mkEq_den, decide_eq_true_eq]; simpa only [E.den] using hj)]
            · obtain ⟨u', h1', h2'⟩ := ih r hr h0 (by omega)
              refine ⟨u', h1', fun β => ?_⟩
              rw [mergeV_den _ _ _ _ h, if_neg (by rw [mkEq_den, decide_eq_true_eq]; simpa only [E.den] using hj), h2']
    have hx := hin (e, m, n) (List.mem_cons_self ..)
    obtain ⟨u, h1, h2⟩ := key n v h hx.1 hx.2
    obtain ⟨u', h3, h4⟩ := selLoad_den ix cs _ u h1 hin.tail
    exact ⟨u', h3, fun β => (h2 β).trans (h4 β)⟩

def putL (L : List Value) (off : Nat) (V : List Value) : List Value := L.take off ++ V ++ L.drop (off + V.length)
theorem putSV_den {cs l vs : List SV} {off : Nat} (h : putSV cs off vs = some l) : SV.denL ι β l = putL (SV.denL ι β cs) off (SV.denL ι β vs) ∧ off + vs.length ≤ cs.length ∧ l.length = cs.length := by
  obtain ⟨h1, h2⟩ := putSV_eq off cs vs l h
  refine ⟨?_, h2, ?_⟩
  · rw [h1]
    simp [denL_map, putL]
  · rw [h1]; simp; omega
theorem putIf_den {q : B} {cs l vs : List SV} {off : Nat} (h : putIf q cs off vs = some l) :
    SV.denL ι β l = (if q.den ι = true then putL (SV.denL ι β cs) off (SV.denL ι β vs) else SV.denL ι β cs) ∧ off + vs.length ≤ cs.length ∧ l.length = cs.length := by
  unfold putIf at h
  split at h <;> try (cases h)
  rename_i old ho
  split at h <;> try (cases h)
  rename_i m hm
  obtain ⟨o1, o2⟩ := takeDrop cs old vs.length off ho
  have hml := mergeL_length q vs old m hm
  obtain ⟨h1, h2, h3⟩ := putSV_den (ι := ι) (β := β) h
  have hlen : m.length = vs.length := by rw [hml.2, ← hml.1]
  refine ⟨?_, by omega, h3⟩
  rw [h1, mergeL_den q vs old m hm]
  by_cases hq : q.den ι = true
  · rw [if_pos hq, if_pos hq]
  · rw [if_neg hq, if_neg hq]
    unfold putL
    rw [denL_length, o2, o1]
    simp only [denL_map, List.map_take, List.map_drop]
    have : ∀ (L : List Value) (a b : Nat), L.take a ++ (L.drop a).take b ++ L.drop (a + b) = L := by
      intro L a b
      rw [List.append_assoc, ← List.drop_drop, List.take_append_drop, List.take_append_drop]
    exact this _ _ _
theorem selStore_den {vs : List SV} : ∀ (ix : List (E × (Nat × Nat))) (cs : List SV) (off : Nat) (q : B) (l : List SV), selStore vs ix cs off q = some l → InX ι ix →
    SV.denL ι β l = (if q.den ι = true then putL (SV.denL ι β cs) (offX ι off ix) (SV.denL ι β vs) else SV.denL ι β cs) ∧ offX ι off ix + vs.length ≤ cs.length ∧ l.length = cs.length
  | [], cs, off, q, l, h, _ => putIf_den (vs := vs) h
  | (e, m, n) :: ix, cs, off, q, l, h, hin => by
    have hx := hin (e, m, n) (List.mem_cons_self ..)
    have key : ∀ (n : Nat) (l : List SV), (Nat.rec (motive := fun _ => Option (List SV)) (some cs) (fun j r => match r with | some r => selStore vs ix r (off + j * m) (mkAnd q (mkEq e (.lit j))) | none => none) n) = some l →
        SV.denL ι β l = (if q.den ι = true ∧ e.den ι < (n : Int) then putL (SV.denL ι β cs) (offX ι (off + (e.den ι).toNat * m) ix) (SV.denL ι β vs) else SV.denL ι β cs) ∧
        (e.den ι < (n : Int) → offX ι (off + (e.den ι).toNat * m) ix + vs.length ≤ cs.length) ∧ l.length = cs.length := by
      intro n
      induction n with
      | zero =>
        intro l h
        have h : some cs = some l := h
        injection h with h; subst h
        exact ⟨by rw [if_neg (fun h => by have := hx.1; simp only at this; omega)], fun h => by have := hx.1; simp only at this; omega, rfl⟩
      | succ j ih =>
        intro l h
        simp only at h
        cases hr : (Nat.rec (motive := fun _ => Option (List SV)) (some cs) (fun j r => match r with | some r => selStore vs ix r (off + j * m) (mkAnd q (mkEq e (.lit j))) | none => none) j) with
        | none => rw [hr] at h; cases h
        | some r =>
          rw [hr] at h
          simp only at h
          obtain ⟨i1, i2, i3⟩ := ih r hr
          obtain ⟨s1, s2, s3⟩ := selStore_den ix r (off + j * m) _ l h hin.tail
          have hc : (mkAnd q (mkEq e (.lit j))).den ι = true ↔ q.den ι = true ∧ e.den ι = (j : Int) := by
            rw [mkAnd_den, mkEq_den, Bool.and_eq_true, decide_eq_true_eq]; simp only [E.den]
          refine ⟨?_, ?_, by omega⟩
          · rw [s1]
            by_cases hj : e.den ι = (j : Int)
            · have e0 : (e.den ι).toNat = j := by omega
              by_cases hq : q.den ι = true
              · rw [if_pos (hc.2 ⟨hq, hj⟩), if_pos ⟨hq, by omega⟩, i1, if_neg (by omega), e0]
              · rw [if_neg (fun h => hq (hc.1 h).1), if_neg (fun h => hq h.1), i1, if_neg (fun h => hq h.1)]
            · rw [if_neg (fun h => hj (hc.1 h).2), i1]
              by_cases hlt : q.den ι = true ∧ e.den ι < (j : Int)
              · rw [if_pos hlt, if_pos ⟨hlt.1, by omega⟩]
              · rw [if_neg hlt, if_neg (fun h => hlt ⟨h.1, by omega⟩)]
          · intro hlt
            by_cases hj : e.den ι = (j : Int)
            · have e0 : (e.den ι).toNat = j := by omega
              rw [e0]; omega
            · exact i2 (by omega)
    obtain ⟨k1, k2, k3⟩ := key n l h
    have hlt : e.den ι < (n : Int) := hx.2
    refine ⟨?_, k2 hlt, k3⟩
    rw [k1]
    by_cases hq : q.den ι = true
    · rw [if_pos ⟨hq, hlt⟩, if_pos hq]; rfl
    · rw [if_neg (fun h => hq h.1), if_neg hq]
end

def RunsTo (ι : Env) (β : Bt) (nxt : Nat) (w : World) (res : Result Next) : R → Prop
  | .val v => res = .ok (.value (v.den ι β)) w
  | .new v cs => β.blk nxt = w.heap.size → ∃ T, res = .ok (.value (v.den ι β)) { w with heap := w.heap.push (.cells (SV.denL ι β cs).toArray T) }
  | .sto b cs => ∃ w' T, res = .ok .skip w' ∧ But (β.blk b) w w' ∧ w'.heap[β.blk b]? = some (.cells (SV.denL ι β cs).toArray T (0, 0))
  | .enter g args => res = .ok (.enter g (SV.denL ι β args).toArray) w

section
variable {c : Ctx} {w0 : World} {X : Nat → Prop} {ι : Env} {β : Bt} {mem : Mem} {nxt : Nat} {w : World} {s : List SV} {a : Act} {asm : Asm} {r : R}
variable {dst : Option Tmp} {type : TypeId} {pos : String} {after : Array Edge} {guard : Option (Nat × Bool)}

theorem pick_val {v : SV} (h : (valT v).pick ι = some r) : r = .val v := by
  have h : some (R.val v) = some r := h
  injection h with h; exact h.symm

theorem opMove_ok (hs : a.tmps.toList = SV.denL ι β s) {x : Operand} (h : (opMove s x).pick ι = some r) :
    RunsTo ι β nxt w ((execOp a.eval ⟨dst, .move x, type, pos, after, guard⟩).run c.P w) r ∧ RunsTo ι β nxt w ((execOp a.eval ⟨dst, .assign x, type, pos, after, guard⟩).run c.P w) r := by
  unfold opMove at h
  obtain ⟨v, hv, h'⟩ := pick_opt h; clear h; have h := h'; clear h'
  obtain rfl := pick_val h
  have e := evalO_den hs hv
  constructor <;> (show Result.ok (Next.value (a.eval x)) w = _; rw [e])

theorem opPick_ok (hs : a.tmps.toList = SV.denL ι β s) (hl : AsmOk ι asm) {q x y : Operand} (h : (opPick asm s q x y).pick ι = some r) :
    RunsTo ι β nxt w ((execOp a.eval ⟨dst, .pick q x y, type, pos, after, guard⟩).run c.P w) r := by
  unfold opPick at h
  obtain ⟨vq, hq, h'⟩ := pick_opt h; clear h; have h := h'; clear h'
  obtain ⟨vx, hx, h'⟩ := pick_opt h; clear h; have h := h'; clear h'
  obtain ⟨vy, hy, h'⟩ := pick_opt h; clear h; have h := h'; clear h'
  cases vq with
  | bool q' =>
    have h := pick_ifK hl h
    have eq := evalO_den hs hq
    have ex := evalO_den hs hx
    have ey := evalO_den hs hy
    have e : (execOp a.eval ⟨dst, .pick q x y, type, pos, after, guard⟩).run c.P w = .ok (.value (if q'.den ι = true then a.eval x else a.eval y)) w := by
      simp only [execOp, eq, SV.den, asBool]
      simp only [Sem.run_bind, Sem.run_pure, Result.andThen_ok]
    rw [e]
    split at h <;> rename_i hc
    · obtain rfl := pick_val h
      rw [if_pos hc, ex]; rfl
    · obtain rfl := pick_val h
      rw [if_neg hc, ey]; rfl
  | _ => cases h

theorem opAlloc_ok {t : TypeId} (h : (opAlloc c nxt t).pick ι = some r) :
    RunsTo ι β nxt w ((execOp a.eval ⟨dst, .alloc t, type, pos, after, guard⟩).run c.P w) r := by
  unfold opAlloc at h
  obtain ⟨z, hz, h'⟩ := pick_opt h; clear h; have h := h'; clear h'
  have h' : some (R.new (.ptr nxt 0) z.cellsL) = some r := h
  clear h; injection h' with h; subst h
  obtain ⟨v, hv, hof⟩ := run_zero (w := w) hz
  intro hn
  refine ⟨t, ?_⟩
  simp only [execOp, Instr.alloc, Sem.run_bind, hv, Result.andThen_ok, newVar, newRow, run_newObj, Sem.run_pure, SV.den, hn]
  congr 4
  rw [← ofValue_cells (ι := ι) (β := β) hof]

theorem den_cellsL (v : SV) (h : v.isAny = false) : (v.den ι β).cells.toList = SV.denL ι β v.cellsL := by
  cases v with
  | opq n =>
    have := β.one n
    simp only [SV.den, SV.cellsL, SV.denL]
    cases hb : β.val n <;> simp_all [Value.oneCell', Value.cells]
  | any n => simp [SV.isAny] at h
  | _ => simp [SV.den, Value.cells, SV.cellsL, SV.denL]

theorem opBox_ok (hs : a.tmps.toList = SV.denL ι β s) {t : TypeId} {x : Operand} (h : (opBox nxt s x).pick ι = some r) :
    RunsTo ι β nxt w ((execOp a.eval ⟨dst, .box t x, type, pos, after, guard⟩).run c.P w) r := by
  unfold opBox at h
  obtain ⟨v, hv, h'⟩ := pick_opt h; clear h; have h := h'; clear h'
  obtain ⟨hany, h'⟩ := pick_chk h; clear h; have h := h'; clear h'
  have hany : v.isAny = false := by simpa using hany
  have h' : some (R.new (.ptr nxt 0) v.cellsL) = some r := h
  clear h; injection h' with h; subst h
  have e := evalO_den hs hv
  intro hn
  refine ⟨t, ?_⟩
  simp only [execOp, Instr.box, Sem.run_bind, Result.andThen_ok, newVar, newRow, run_newObj, Sem.run_pure, SV.den, hn, e]
  congr 4
  rw [← den_cellsL _ hany]

theorem opLoad_ok (hs : a.tmps.toList = SV.denL ι β s) (hl : AsmOk ι asm) (hR : RowsOk c ι) (hM : AbsM c w0 X ι β mem nxt w) {t : TypeId} {x : Operand} (h : (opLoad c asm mem s t x).pick ι = some r) :
    ∃ v, r = .val v ∧ RunsTo ι β nxt w ((execOp a.eval ⟨dst, .load t x, type, pos, after, guard⟩).run c.P w) r := by
  unfold opLoad at h
  obtain ⟨p, hp, h'⟩ := pick_opt h; clear h; have h := h'; clear h'
  obtain ⟨hn, h'⟩ := pick_needs hl h; clear h; have h := h'; clear h'
  obtain ⟨v, hv, h'⟩ := pick_opt h; clear h; have h := h'; clear h'
  obtain rfl := pick_val h
  refine ⟨v, rfl, ?_⟩
  have e := evalO_den hs hp
  have go : ∀ (b off : Nat) (u : SV), p.den ι β = .pointer (some ⟨b, off, none⟩) → (loadVar t ⟨b, off, none⟩).run c.P w = .ok (u.den ι β) w → v.den ι β = u.den ι β →
      (execOp a.eval ⟨dst, .load t x, type, pos, after, guard⟩).run c.P w = .ok (.value (v.den ι β)) w := by
    intro b off u h1 h2 h3
    simp only [execOp, e, h1, Instr.loadAt, Instr.sureAddr, Sem.run_bind, Sem.run_pure, Result.andThen_ok, h2, h3]
  unfold loadSV at hv
  split at hv
  · rename_i b off ix
    split at hv <;> try (cases hv)
    rename_i cs hg
    obtain ⟨u, h1, h2⟩ := selLoad_den ix cs off v hv (needX_in hn)
    exact go _ _ u rfl (run_loadVar (hM.cell (mget_mem _ _ _ hg)) h1) (h2 β)
  · rename_i n ex m off
    split at hv <;> try (cases hv)
    rename_i ks hks
    split at hv <;> try (cases hv)
    rename_i hlen
    have hlen := Nat.eq_of_beq_eq_true hlen
    have q1 := hn (mkLe (.lit 0) ex) (by simp [needV])
    have q2 := hn (mkLt ex (.slen n)) (by simp [needV])
    rw [mkLe_den, decide_eq_true_eq] at q1
    rw [mkLt_den, decide_eq_true_eq] at q2
    simp only [E.den] at q1 q2
    obtain ⟨i, hi⟩ := Int.eq_ofNat_of_zero_le q1
    have hi : ex.den ι = (i : Int) := hi
    have hil : i < ι.sl n := by omega
    rcases hR n ks hks with h0 | ⟨b, o, ha, hb, hcell⟩
    · omega
    · have win : ∀ j, j < (rowCells n ex ks 0).length → w.cell? ⟨b, o + i * m + j, none⟩ = (SV.denL ι β (rowCells n ex ks 0))[j]? := by
        intro j hj
        rw [rowCells_length] at hj
        have hk : ks[j]? = some ks[j] := by simp [hj]
        have h1 := hcell i hil j _ hk
        rw [hlen] at h1
        rw [denL_get, rowCells_get, hk]
        simp only [Option.map_some, Nat.zero_add, rowCell_den n ex j i hi]
        rw [← h1]
        have hh := hM.base.2.2 b hb
        simp only [World.cell?, hh]
      refine go b (o + i * m + off) v ?_ (run_loadWin win hv) rfl
      simp only [SV.den, ha, Option.map_some, hi, Int.toNat_natCast]
  · split at hv <;> try (cases hv)
    rename_i cs off hc
    unfold cellsAt at hc
    split at hc
    · rename_i b off'
      split at hc <;> try (cases hc)
      rename_i cs' hg
      exact go _ _ v rfl (run_loadVar (hM.cell (mget_mem _ _ _ hg)) hv) rfl
    · rename_i g off'
      split at hc <;> try (cases hc)
      rename_i cs' hg
      exact go _ _ v rfl (run_loadVar (hM.gcell (mget_mem _ _ _ hg)) hv) rfl
    · cases hc

theorem mget_keys {m : Mem} {b : Nat} {cs : List SV} (h : mget b m = some cs) : b ∈ m.map (·.1) := List.mem_map.2 ⟨(b, cs), mget_mem m b cs h, rfl⟩

theorem run_storeVar {P : Program} {t : TypeId} {b off n : Nat} {T : TypeId} {cs : List SV} {x : SV} (hb : w.heap[b]? = some (.cells (SV.denL ι β cs).toArray T (0, 0))) (hn : sizeT P t = some n)
    (hlen : x.cellsL.length = n) (ho : allOne x.cellsL = true) (hoff : off + x.cellsL.length ≤ cs.length) :
    ∃ w', (storeVar t ⟨b, off, none⟩ (x.den ι β)).run P w = .ok () w' ∧ But b w w' ∧ w'.heap[b]? = some (.cells (putL (SV.denL ι β cs) off (SV.denL ι β x.cellsL)).toArray T (0, 0)) := by
  obtain ⟨w', h1, h2, h3⟩ := run_storeCells (P := P) (off := off) (SV.denL ι β x.cellsL) 0 w _ hb (allOne_den ho) (by simp [denL_length]; omega)
  refine ⟨w', ?_, h2, ?_⟩
  · have hsz : (x.den ι β).cells.size = n := by rw [← Array.length_toList, den_cellsL _ (notAny ho), denL_length, hlen]
    simp only [storeVar, Sem.run_bind, run_sizeOf hn, Result.andThen_ok, hsz, ne_eq, not_true_eq_false, if_false]
    rw [den_cellsL _ (notAny ho)]
    exact h1
  · rw [h3]; simp [putL]

theorem opStore_ok (hs : a.tmps.toList = SV.denL ι β s) (hl : AsmOk ι asm) (hM : AbsM c w0 X ι β mem nxt w) {t : TypeId} {x y : Operand} (h : (opStore c asm mem s t x y).pick ι = some r) :
    ∃ b cs, r = .sto b cs ∧ b ∈ mem.map (·.1) ∧ c.ro ≤ b ∧ RunsTo ι β nxt w ((execOp a.eval ⟨dst, .store t x y, type, pos, after, guard⟩).run c.P w) r := by
  unfold opStore at h
  obtain ⟨p, hp, h'⟩ := pick_opt h; clear h; have h := h'; clear h'
  obtain ⟨v, hv, h'⟩ := pick_opt h; clear h; have h := h'; clear h'
  obtain ⟨hn, h'⟩ := pick_needs hl h; clear h; have h := h'; clear h'
  obtain ⟨⟨b, l⟩, hst, h'⟩ := pick_opt h; clear h; have h := h'; clear h'
  have h' : some (R.sto b l) = some r := h
  clear h; injection h' with h; subst h
  have ep := evalO_den hs hp
  have ev := evalO_den hs hv
  unfold storeSV at hst
  split at hst
  · rename_i b' off
    split at hst <;> try (cases hst)
    rename_i cs n hro hg hsz
    split at hst <;> try (cases hst)
    rename_i l' hlen hput
    simp only [Bool.and_eq_true, decide_eq_true_eq] at hlen
    refine ⟨b, l, rfl, mget_keys hg, Nat.le_of_ble_eq_true hro, ?_⟩
    obtain ⟨T, hT⟩ := hM.blocks _ _ (mget_mem _ _ _ hg)
    obtain ⟨q1, q2, q3⟩ := putSV_den (ι := ι) (β := β) hput
    obtain ⟨w', h1, h2, h3⟩ := run_storeVar (P := c.P) (off := off) hT hsz hlen.1 hlen.2 q2
    refine ⟨w', T, ?_, h2, by rw [h3, q1]⟩
    simp only [execOp, ep, ev, SV.den, Instr.storeAt, Instr.sureAddr, Sem.run_bind, Sem.run_pure, Result.andThen_ok]
    rw [h1]; rfl
  · rename_i b' off ix
    split at hst <;> try (cases hst)
    rename_i cs n hro hg hsz
    split at hst <;> try (cases hst)
    rename_i l' hlen hput
    simp only [Bool.and_eq_true, decide_eq_true_eq] at hlen
    refine ⟨b, l, rfl, mget_keys hg, Nat.le_of_ble_eq_true hro, ?_⟩
    obtain ⟨T, hT⟩ := hM.blocks _ _ (mget_mem _ _ _ hg)
    obtain ⟨q1, q2, q3⟩ := selStore_den (ι := ι) (β := β) ix cs off (.lit true) l hput (needX_in hn)
    obtain ⟨w', h1, h2, h3⟩ := run_storeVar (P := c.P) (off := offX ι off ix) hT hsz hlen.1 hlen.2 q2
    refine ⟨w', T, ?_, h2, by rw [h3, q1, if_pos (by simp [B.den])]⟩
    simp only [execOp, ep, ev, SV.den, Instr.storeAt, Instr.sureAddr, Sem.run_bind, Sem.run_pure, Result.andThen_ok]
    rw [h1]; rfl
  · cases hst
end
end Go.Proofs.YtjmpoiafcdphbaaSx
