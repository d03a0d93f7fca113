/- Equality, arithmetic, building: these operations do what the executor says. -/
import Derived.Test.YtjmpoiafcdphbaaSx6
namespace Go.Proofs.YtjmpoiafcdphbaaSx
set_option linter.unusedVariables false
set_option linter.unusedSimpArgs false
section
variable {P : Program} {w : World} {ι : Env} {β : Bt}

theorem eqFs_ok {d : Nat} {eq : TypeId → SV → SV → Option B} (heq : ∀ t x y q, eq t x y = some q → (Op.equalIn d t (x.den ι β) (y.den ι β)).run P w = .ok (q.den ι) w) (xs ys : List SV) :
    ∀ (fs : List Field) (q : B), eqFs P eq xs ys fs = some q → (Op.eqFields d (SV.denL ι β xs).toArray (SV.denL ι β ys).toArray fs).run P w = .ok (q.den ι) w
  | [], q, h => by
    simp only [eqFs] at h
    injection h with h; subst h; simp [Op.eqFields, B.den]
  | f :: fs, q, h => by
    simp only [eqFs] at h
    split at h <;> try (cases h)
    rename_i a b hn ha hb
    split at h <;> try (cases h)
    rename_i p r hp hr
    have ih := eqFs_ok heq xs ys fs r hr
    have hn' : f.name ≠ "_" := by simpa using hn
    simp only [Op.eqFields, if_pos hn', Sem.run_bind, run_part ha, run_part hb, Result.andThen_ok, heq _ _ _ _ hp]
    rw [mkAnd_den]
    cases hpd : p.den ι
    · simp
    · simp [ih]

theorem eqEs_ok {d : Nat} {e : TypeId} {m : Nat} {eq : TypeId → SV → SV → Option B} (heq : ∀ t x y q, eq t x y = some q → (Op.equalIn d t (x.den ι β) (y.den ι β)).run P w = .ok (q.den ι) w) (xs ys : List SV) :
    ∀ (n i : Nat) (q : B), eqEs P eq e m xs ys n i = some q → (Sem.run P (forIn (List.range' i n) ((none, ()) : Option Bool × Unit) fun i _ => do
      let a ← part e (SV.denL ι β xs).toArray (i * m)
      let b ← part e (SV.denL ι β ys).toArray (i * m)
      let r ← Op.equalIn d e a b
      if (!r) = true then pure (ForInStep.done (some false, ())) else pure (ForInStep.yield (none, ()))) w) = .ok ((if q.den ι = true then none else some false), ()) w
  | 0, i, q, h => by
    simp only [eqEs] at h
    injection h with h; subst h; simp [B.den]
  | n + 1, i, q, h => by
    simp only [eqEs] at h
    split at h <;> try (cases h)
    rename_i a b ha hb
    split at h <;> try (cases h)
    rename_i p r hp hr
    have ih := eqEs_ok heq xs ys n (i + 1) r hr
    rw [List.range'_succ, List.forIn_cons]
    simp only [Sem.run_bind, run_part ha, run_part hb, Result.andThen_ok, heq _ _ _ _ hp]
    rw [mkAnd_den]
    cases hpd : p.den ι
    · simp
    · simp only [Bool.not_true, Bool.false_eq_true, if_false, Sem.run_pure, Result.andThen_ok, Bool.true_and]
      exact ih

theorem eqT_ok : ∀ (D : Nat) (t : TypeId) (x y : SV) (q : B), eqT P D t x y = some q → ∀ d, D ≤ d → (Op.equalIn d t (x.den ι β) (y.den ι β)).run P w = .ok (q.den ι) w
  | 0, t, x, y, q, h, d, hd => by simp [eqT] at h
  | D + 1, t, x, y, q, h, d, hd => by
    obtain ⟨d, rfl⟩ : ∃ e, d = e + 1 := ⟨d - 1, by omega⟩
    have ih : ∀ t x y q, eqT P D t x y = some q → (Op.equalIn d t (x.den ι β) (y.den ι β)).run P w = .ok (q.den ι) w := fun t x y q h => eqT_ok D t x y q h d (by omega)
    simp only [eqT] at h
    split at h
    · rename_i fs xs ys ht
      split at h <;> try (cases h)
      rename_i hst
      have hf : P.fieldsOf t = fs := by simp [Program.fieldsOf, ht]
      have e := run_equalIn_struct (P := P) w d t (SV.denL ι β xs).toArray (SV.denL ι β ys).toArray (by rw [hf]; exact ht) hst
      rw [hf] at e
      simp only [SV.den]
      rw [e]
      exact eqFs_ok ih xs ys _ q h
    · rename_i n e xs ys ht
      split at h <;> try (cases h)
      rename_i m hm
      have key := eqEs_ok (β := β) (w := w) ih xs ys n 0 q h
      simp only [SV.den, Op.equalIn, Sem.run_bind, run_underlying ht, Result.andThen_ok, run_sizeOf hm, Std.Legacy.Range.forIn_eq_forIn_range']
      have hsz : [:n].size = n := by simp [Std.Legacy.Range.size]
      rw [hsz, key]
      cases q.den ι <;> simp
    · rename_i k0 k a k' b ht
      split at h <;> try (cases h)
      rename_i hk
      have hk : k = k' := by simpa [eqK] using hk
      subst hk
      simp only [SV.den, Op.equalIn, Sem.run_bind, run_underlying ht, Result.andThen_ok, if_true, Sem.run_pure, mkEq_den]
      by_cases hab : a.den ι = b.den ι <;> simp [hab]
    · rename_i a b ht
      cases h
      simp only [SV.den, Op.equalIn, Sem.run_bind, run_underlying ht, Result.andThen_ok, Sem.run_pure, mkBeq_den]
    · cases h
end

section
variable {c : Ctx} {w0 : World} {X : Nat → Prop} {ι : Env} {β : Bt} {mem : Mem} {nxt : Nat} {w : World} {s : List SV} {a : Act} {asm : Asm} {r : R}
variable {dst : Option Tmp} {type : TypeId} {pos : String} {after : Array Edge} {guard : Option (Nat × Bool)}

theorem run_equal_nil {P : Program} {t : TypeId} {x y : Value} {b : Bool} (h : (Op.equalIn 10000 t x y).run P w = .ok b w)
    (he : binOp .eql t x y = (do pure (.bool (← Op.equal t x y)))) (hn : binOp .neq t x y = (do pure (.bool (!(← Op.equal t x y))))) :
    (binOp .eql t x y).run P w = .ok (.bool b) w ∧ (binOp .neq t x y).run P w = .ok (.bool (!b)) w := by
  have h' : (Op.equal t x y).run P w = .ok b w := h
  rw [he, hn]
  simp only [Sem.run_bind, h', Result.andThen_ok, Sem.run_pure, and_self]

theorem eqSV_ok {t : TypeId} {x y : SV} {q : B} (h : eqSV c t x y = some q) :
    (∀ u v : Operand, (eqGuard .eql t u v (x.den ι β) (y.den ι β)).run c.P w = .ok () w ∧ (eqGuard .neq t u v (x.den ι β) (y.den ι β)).run c.P w = .ok () w) ∧
    (binOp .eql t (x.den ι β) (y.den ι β)).run c.P w = .ok (.bool (q.den ι)) w ∧ (binOp .neq t (x.den ι β) (y.den ι β)).run c.P w = .ok (.bool (!q.den ι)) w := by
  unfold eqSV at h
  split at h
  · rename_i a b
    split at h <;> try (cases h)
    rename_i ht
    refine ⟨fun u v => ⟨by simp only [SV.den, eqGuard_at_bool, Sem.run_pure], by simp only [SV.den, eqGuard_at_bool, Sem.run_pure]⟩, ?_, ?_⟩
    · simp only [SV.den]; rw [run_eql_bool w t _ _ ht, mkBeq_den]
    · simp only [SV.den]; rw [run_neq_bool w t _ _ ht, mkBeq_den]
  · rename_i xs ys
    split at h <;> try (cases h)
    rename_i hg
    have e := eqT_ok (w := w) (ι := ι) (β := β) 30 t _ _ q h 10000 (by omega)
    simp only [SV.den] at e ⊢
    refine ⟨fun u v => ⟨run_eqGuard_agg w _ t u v _ _ hg, run_eqGuard_agg w _ t u v _ _ hg⟩, ?_, ?_⟩
    · rw [run_eql_struct, e]; rfl
    · rw [run_neq_struct, e]; rfl
  · split at h <;> try (cases h)
    rename_i ht
    refine ⟨fun u v => ⟨by simp only [SV.den, eqGuard_at_pointer, Sem.run_pure], by simp only [SV.den, eqGuard_at_pointer, Sem.run_pure]⟩, ?_⟩
    simp only [SV.den, B.den]
    exact run_equal_nil (by rw [Op.equalIn]; simp only [Sem.run_bind, run_underlying ht, Result.andThen_ok, Sem.run_pure]; rfl) rfl rfl
  · split at h <;> try (cases h)
    rename_i ht
    refine ⟨fun u v => ⟨by simp only [SV.den, eqGuard_at_pointer, Sem.run_pure], by simp only [SV.den, eqGuard_at_pointer, Sem.run_pure]⟩, ?_⟩
    simp only [SV.den, B.den]
    exact run_equal_nil (by rw [Op.equalIn]; simp only [Sem.run_bind, run_underlying ht, Result.andThen_ok, Sem.run_pure]) rfl rfl
  · split at h <;> try (cases h)
    rename_i ht
    refine ⟨fun u v => ⟨by simp only [SV.den, eqGuard_at_slice, Sem.run_pure], by simp only [SV.den, eqGuard_at_slice, Sem.run_pure]⟩, ?_⟩
    simp only [SV.den, B.den]
    exact run_equal_nil (by rw [Op.equalIn]; simp only [Sem.run_bind, run_underlying ht, Result.andThen_ok, Sem.run_pure]; rfl) rfl rfl
  · split at h <;> try (cases h)
    rename_i ht
    refine ⟨fun u v => ⟨by simp only [SV.den, eqGuard_at_slice, Sem.run_pure], by simp only [SV.den, eqGuard_at_slice, Sem.run_pure]⟩, ?_⟩
    simp only [SV.den, B.den]
    exact run_equal_nil (by rw [Op.equalIn]; simp only [Sem.run_bind, run_underlying ht, Result.andThen_ok, Sem.run_pure]) rfl rfl
  · cases h

theorem opBin_ok (hs : a.tmps.toList = SV.denL ι β s) (hl : AsmOk ι asm) {op : BinOp} {t yt : TypeId} {x y : Operand} (h : (opBin c asm s op t x y).pick ι = some r) :
    RunsTo ι β nxt w ((execOp a.eval ⟨dst, .binOp op t x y yt, type, pos, after, guard⟩).run c.P w) r := by
  unfold opBin at h
  obtain ⟨u, hu, h1⟩ := pick_opt h
  obtain ⟨v, hv, h2⟩ := pick_opt h1
  have eu := evalO_den hs hu
  have ev := evalO_den hs hv
  unfold binSV at h2
  split at h2
  · rename_i k p k' q
    have go : ∀ z : SV, (binOp op t (.int k (p.den ι)) (.int k' (q.den ι))).run c.P w = .ok (z.den ι β) w →
        (execOp a.eval ⟨dst, .binOp op t x y yt, type, pos, after, guard⟩).run c.P w = .ok (.value (z.den ι β)) w := by
      intro z hz
      simp only [execOp, eu, ev, SV.den, Sem.run_bind, eqGuard_at_int, Sem.run_pure, Result.andThen_ok, hz]
    split at h2
    · obtain ⟨hq, h3⟩ := pick_mustK hl h2
      obtain rfl := pick_val h3
      rw [mkLe_den, decide_eq_true_eq] at hq
      have hq : 0 ≤ q.den ι := hq
      refine go _ ?_
      simp only [binOp_shl, Op.shift, if_neg (by omega : ¬ q.den ι < 0), Sem.run_pure, SV.den, mkBin_den, den2]
    · obtain ⟨hq, h3⟩ := pick_mustK hl h2
      obtain rfl := pick_val h3
      rw [mkLe_den, decide_eq_true_eq] at hq
      have hq : 0 ≤ q.den ι := hq
      refine go _ ?_
      simp only [binOp_shr, Op.shift, if_neg (by omega : ¬ q.den ι < 0), Sem.run_pure, SV.den, mkBin_den, den2]
    · obtain ⟨hk, h3⟩ := pick_chk h2
      have hk : k = k' := by simpa using hk
      subst hk
      obtain ⟨hq, h4⟩ := pick_mustK hl h3
      obtain rfl := pick_val h4
      rw [mkNot_den, mkEq_den] at hq
      have hq : ¬ q.den ι = 0 := by
        intro h0
        have e0 : decide (q.den ι = E.den ι (.lit 0)) = true := decide_eq_true h0
        rw [e0] at hq; cases hq
      refine go _ ?_
      simp only [binOp_quo, Op.intDiv, if_neg hq, Sem.run_pure, SV.den, mkBin_den, den2]
    · obtain ⟨hk, h3⟩ := pick_chk h2
      have hk : k = k' := by simpa using hk
      subst hk
      obtain ⟨hq, h4⟩ := pick_mustK hl h3
      obtain rfl := pick_val h4
      rw [mkNot_den, mkEq_den] at hq
      have hq : ¬ q.den ι = 0 := by
        intro h0
        have e0 : decide (q.den ι = E.den ι (.lit 0)) = true := decide_eq_true h0
        rw [e0] at hq; cases hq
      refine go _ ?_
      simp only [binOp_rem, Op.intDiv, if_neg hq, Sem.run_pure, SV.den, mkBin_den, den2]
    · obtain ⟨hk, h3⟩ := pick_chk h2
      have hk : k = k' := by simpa using hk
      subst hk
      cases op <;> simp only [isCmp, if_true, Bool.false_eq_true, if_false] at h3 <;> obtain rfl := pick_val h3 <;> refine go _ ?_ <;>
        first
        | (simp only [binOp_add, binOp_sub, binOp_mul, Op.intArith, Sem.run_pure, SV.den, mkBin_den, den2]; done)
        | (simp only [binOp_and, binOp_or, binOp_xor, binOp_andNot, intBits_and, intBits_or, intBits_xor, intBits_andNot, Sem.run_pure, SV.den, mkBin_den, den2]; done)
        | (simp only [binOp_lss, binOp_leq, binOp_gtr, binOp_geq, Sem.run_pure, SV.den, cmpB, mkLt_den, mkLe_den]; done)
        | (simp only [binOp_lss, binOp_leq, binOp_gtr, binOp_geq, Sem.run_pure, SV.den, cmpB, mkLt_den, mkLe_den]; rfl)
        | (exfalso; simp at *; done)
        | (simp only [binOp_eql, binOp_neq, Sem.run_pure, SV.den, cmpB, mkEq_den, mkNot_den]; by_cases hab : p.den ι = q.den ι <;> simp [hab])
  · have go : ∀ z : SV, (eqGuard op t x y (u.den ι β) (v.den ι β)).run c.P w = .ok () w → (binOp op t (u.den ι β) (v.den ι β)).run c.P w = .ok (z.den ι β) w →
        (execOp a.eval ⟨dst, .binOp op t x y yt, type, pos, after, guard⟩).run c.P w = .ok (.value (z.den ι β)) w := by
      intro z hg hz
      simp only [execOp, eu, ev, Sem.run_bind, hg, Result.andThen_ok, hz, Sem.run_pure]
    split at h2
    · obtain ⟨q, hq, h3⟩ := pick_opt h2
      obtain rfl := pick_val h3
      obtain ⟨g, e1, e2⟩ := eqSV_ok (w := w) (ι := ι) (β := β) hq
      exact go _ (g x y).1 e1
    · obtain ⟨q, hq, h3⟩ := pick_opt h2
      obtain rfl := pick_val h3
      obtain ⟨g, e1, e2⟩ := eqSV_ok (w := w) (ι := ι) (β := β) hq
      refine go _ (g x y).2 ?_
      rw [e2]; simp only [SV.den, mkNot_den]
    · cases h2
end
end Go.Proofs.YtjmpoiafcdphbaaSx
