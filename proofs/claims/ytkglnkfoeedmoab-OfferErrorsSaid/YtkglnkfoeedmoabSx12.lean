/- Regions that draw, code, calls. -/
import Derived.Test.YtkglnkfoeedmoabSx11
namespace Go.Proofs.YtkglnkfoeedmoabSx
open Go.RowKit
set_option linter.unusedVariables false
set_option linter.unusedSimpArgs false

def actF (l : List Oper) (a : Act) (val : Nat → Value) : Nat → Act
  | 0 => a
  | i + 1 => (actF l a val i).put ((l[i]?).bind (·.dst)) (val i)
theorem actF_cons (o : Oper) (l : List Oper) (a : Act) (val : Nat → Value) : ∀ i, actF (o :: l) a val (i + 1) = actF l (a.put o.dst (val 0)) (fun i => val (i + 1)) i
  | 0 => by simp [actF]
  | i + 1 => by
    show (actF (o :: l) a val (i + 1)).put _ _ = (actF l _ _ i).put _ _
    rw [actF_cons o l a val i]
    simp
theorem actF_actL (ops : Array Oper) (a : Act) (val : Nat → Value) : ∀ i, actF ops.toList a val i = actL ops a val (fun _ => true) i
  | 0 => rfl
  | i + 1 => by
    unfold actL
    rw [if_pos rfl]
    show (actF ops.toList a val i).put ((ops.toList[i]?).bind (·.dst)) (val i) = _
    rw [actF_actL ops a val i]
    simp [dstOf]

section
variable {call : CallFn} {c : Ctx} {w0 : World} {X : Nat → Prop} {ι : Env} {β : Bt} {mem : Mem} {nxt : Nat} {w w' : World} {asm : Asm}

theorem execD_ok (hc : CallOk ι call) (H : Hyp c.P c.glob c.con ι) {ops : Array Oper} {s' : St} : ∀ (l : List Oper) (s : St) (a : Act) (w : World),
    (execD call c ops.toList l s).pick ι = some s' → OkT ι β s a → StM c w0 X ι β s.mem s.nxt w →
    s'.nxt = s.nxt ∧ ∃ (val : Nat → Value) (cl : Nat → World → Prop), cl 0 = StM c w0 X ι β s.mem s.nxt ∧ cl l.length = StM c w0 X ι β s'.mem s.nxt ∧ OkT ι β s' (actF l a val l.length) ∧
      ∀ i o, l[i]? = some o → StepD c.P ops o (actF l a val i) (cl i) (val i) (cl (i + 1))
  | [], s, a, w, h, hT, hM => by
    have h : some s = some s' := h
    injection h with h; subst h
    exact ⟨rfl, fun _ => undef, fun _ => StM c w0 X ι β s.mem s.nxt, rfl, rfl, hT, fun i o h => by simp at h⟩
  | o :: l, s, a, w, h, hT, hM => by
    have h : (oneD call c ops.toList o (execD call c ops.toList l) s).pick ι = some s' := h
    unfold oneD at h
    obtain ⟨s1, h1, hT1, em, en⟩ := guardT_ok hT h
    rw [← em, ← en] at hM ⊢
    -- what stands behind it
    have go : ∀ (v0 : Value) (s2 : St) (w2 : World), s2.nxt = s1.nxt → (execD call c ops.toList l s2).pick ι = some s' → OkT ι β s2 (a.put o.dst v0) → StM c w0 X ι β s2.mem s2.nxt w2 →
        StepD c.P ops o a (StM c w0 X ι β s1.mem s1.nxt) v0 (StM c w0 X ι β s2.mem s2.nxt) →
        s'.nxt = s1.nxt ∧ ∃ (val : Nat → Value) (cl : Nat → World → Prop), cl 0 = StM c w0 X ι β s1.mem s1.nxt ∧ cl (o :: l).length = StM c w0 X ι β s'.mem s1.nxt ∧ OkT ι β s' (actF (o :: l) a val (o :: l).length) ∧
          ∀ i o', (o :: l)[i]? = some o' → StepD c.P ops o' (actF (o :: l) a val i) (cl i) (val i) (cl (i + 1)) := by
      intro v0 s2 w2 hn h2 hT2 hM2 hstep
      obtain ⟨en2, val, cl, c0, cn, hTn, hst⟩ := execD_ok hc H l s2 _ w2 h2 hT2 hM2
      refine ⟨en2.trans hn, fun i => match i with | 0 => v0 | i + 1 => val i, fun i => match i with | 0 => StM c w0 X ι β s1.mem s1.nxt | i + 1 => cl i, rfl, ?_, ?_, ?_⟩
      · show cl l.length = _
        rw [cn, hn]
      · rw [List.length_cons, actF_cons]; exact hTn
      · intro i o' ho'
        cases i with
        | zero =>
          simp only [List.getElem?_cons_zero, Option.some.injEq] at ho'
          subst ho'
          show StepD c.P ops o a _ v0 (cl 0)
          rw [c0]; exact hstep
        | succ i =>
          rw [actF_cons]
          exact hst i o' (by simpa using ho')
    cases hw : Region.wanted o (yielded ops a.tmps) with
    | false =>
      rw [hw] at h1
      obtain ⟨hk, h2⟩ := pick_chk h1
      simp only [putK_put] at h2
      have hk : opKind o.op ≠ 2 := by simpa using hk
      exact go undef { s1 with tmps := putS o.dst uninit s1.tmps } w rfl h2 ⟨fun β' hb => put_den (hT1.tmps β' hb) o.dst uninit, hT1.asm, by rw [put_defers]; exact hT1.dfr⟩ hM (.inl ⟨hw, rfl, rfl, hk⟩)
    | true =>
      rw [hw] at h1
      simp only at h1
      split at h1
      · rename_i hk
        obtain ⟨hq, h2⟩ := pick_chk h1
        obtain ⟨r, hr, h3⟩ := (pick_bind _ _ _).1 h2
        have hrun : ∀ w β', Agree s1.nxt β β' → RunsTo ι β' s1.nxt w ((execOp a.eval o).run c.P w) r := fun w β' hb => opStep_ok (w0 := w0) (X := X) (mem := s1.mem) (hT1.tmps β' hb) hT1.asm (fun h => by rw [hq] at h; cases h) hr
        cases r with
        | val v =>
          simp only [nextD0, fcV_eq, putK_put] at h3
          refine go (v.den ι β) { s1 with tmps := putS o.dst v s1.tmps } w rfl h3 ⟨fun β' hb => ?_, hT1.asm, by rw [put_defers]; exact hT1.dfr⟩ hM (.inr ⟨hw, .inl ⟨hk, fun w => (run_val (hrun w)).1, rfl⟩⟩)
          rw [← (run_val (hrun w)).2 β' hb]
          exact put_den (hT1.tmps β' hb) o.dst v
        | _ => cases h3
      · rename_i hk
        obtain ⟨r, hr, h3⟩ := (pick_bind _ _ _).1 h1
        have hrun : ∀ w, StM c w0 X ι β s1.mem s1.nxt w → ∀ β', Agree s1.nxt β β' → RunsTo ι β' s1.nxt w ((execOp a.eval o).run c.P w) r := fun w hM β' hb => opStep_ok (hT1.tmps β' hb) hT1.asm (fun _ => hM β' hb) hr
        cases r with
        | val v =>
          simp only [nextD1, fcV_eq, putK_put] at h3
          refine go (v.den ι β) { s1 with tmps := putS o.dst v s1.tmps } w rfl h3 ⟨fun β' hb => ?_, hT1.asm, by rw [put_defers]; exact hT1.dfr⟩ hM (.inr ⟨hw, .inr (.inl ⟨hk, fun w hMw => ?_, rfl⟩)⟩)
          · rw [← (run_val (hrun w hM)).2 β' hb]
            exact put_den (hT1.tmps β' hb) o.dst v
          · unfold Oper.quietAt
            rw [(run_val (hrun w hMw)).1]
            exact ⟨rfl, rfl⟩
        | enter g args =>
          simp only [nextD1, fcL_eq] at h3
          have hst : StabL ι s1.nxt β args := (run_enter (hrun w hM)).2
          obtain ⟨v, h4, hv, hcall⟩ := callQ_ok (w0 := w0) (X := X) hc H hT1.asm hst h3
          simp only [putK_put] at h4
          refine go (v.den ι β) { s1 with tmps := putS o.dst v s1.tmps } w rfl h4 ⟨fun β' hb => ?_, hT1.asm, by rw [put_defers]; exact hT1.dfr⟩ hM (.inr ⟨hw, .inr (.inl ⟨hk, fun w hMw => ?_, rfl⟩)⟩)
          · rw [← hv β' hb]
            exact put_den (hT1.tmps β' hb) o.dst v
          · unfold Oper.quietAt
            rw [(run_enter (hrun w hMw)).1]
            exact ⟨rfl, Calls.mono (hcall w hMw) fun e w' ⟨he, hbel⟩ => ⟨he, hMw.below hbel⟩⟩
        | _ => cases h3
      · rename_i hk0 hk1
        obtain ⟨r, hr, h3⟩ := (pick_bind _ _ _).1 h1
        have hk : opKind o.op = 2 := by
          have : opKind o.op ≤ 2 := by unfold opKind; split <;> simp
          have h0 : opKind o.op ≠ 0 := hk0
          have h1 : opKind o.op ≠ 1 := hk1
          omega
        have hrun : ∀ w, StM c w0 X ι β s1.mem s1.nxt w → ∀ β', Agree s1.nxt β β' → RunsTo ι β' s1.nxt w ((execOp a.eval o).run c.P w) r := fun w hM β' hb => opStep_ok (hT1.tmps β' hb) hT1.asm (fun _ => hM β' hb) hr
        cases r with
        | sto b cs =>
          simp only [nextD2] at h3
          obtain ⟨hro, h4⟩ := pick_chk h3
          obtain ⟨old, hold, h5⟩ := pick_opt h4
          simp only [fcL_eq, msetK_eq, putK_put] at h5
          obtain ⟨w1, e, hM1⟩ := run_sto (hrun w hM) hM (mget_keys hold) (Nat.le_of_ble_eq_true hro)
          refine go undef { s1 with tmps := putS o.dst uninit s1.tmps, mem := msetL b cs s1.mem } w1 rfl h5 ⟨fun β' hb => put_den (hT1.tmps β' hb) o.dst uninit, hT1.asm, by rw [put_defers]; exact hT1.dfr⟩ hM1 (.inr ⟨hw, .inr (.inr ⟨hk, rfl, fun w hMw => ?_⟩)⟩)
          exact run_sto (hrun w hMw) hMw (mget_keys hold) (Nat.le_of_ble_eq_true hro)
        | _ => cases h3
end
end Go.Proofs.YtkglnkfoeedmoabSx
