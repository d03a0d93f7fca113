/- Regions that draw, code, calls. -/
import Derived.Test.YtjmpoiafcdphbaaSx11
namespace Go.Proofs.YtjmpoiafcdphbaaSx
open Go.RowKit
set_option linter.unusedVariables false
set_option linter.unusedSimpArgs false

def actF (l : List Oper) (a : Act) (val : Nat → Value) : Nat → Act
  | 0 => a
  | i + 1 => (actF l a val i).put ((l[i]?).bind (·.dst)) (val i)
theorem actF_cons (o : Oper) (l : List Oper) (a : Act) (val : Nat → Value) : ∀ i, actF (o :: l) a val (i + 1) = actF l (a.put o.dst (val 0)) (fun i => val (i + 1)) i
  | 0 => by simp [actF]
  | i + 1 => by
    show (actF (o :: l) a val (i + 1)).put _ _ = (actF l _ _ i).put _ _
    rw [actF_cons o l a val i]
    simp
theorem actF_actL (ops : Array Oper) (a : Act) (val : Nat → Value) : ∀ i, actF ops.toList a val i = actL ops a val (fun _ => true) i
  | 0 => rfl
  | i + 1 => by
    unfold actL
    rw [if_pos rfl]
    show (actF ops.toList a val i).put ((ops.toList[i]?).bind (·.dst)) (val i) = _
    rw [actF_actL ops a val i]
    simp [dstOf]

section
variable {call : CallFn} {c : Ctx} {w0 : World} {X : Nat → Prop} {ι : Env} {β : Bt} {mem : Mem} {nxt : Nat} {w w' : World} {asm : Asm}

/-- What the order of the text does at one operation. -/
def StepE (c : Ctx) (w0 : World) (X : Nat → Prop) (ι : Env) (β : Bt) (nxt : Nat) (ops : Array Oper) (k : Nat) (o : Oper) (a : Act) (m : Mem) (v : Value) (m' : Mem) (Lf Sf : List Nat) : Prop :=
  (Region.wanted o (yielded ops a.tmps) = false ∧ v = undef ∧ m' = m ∧ k ≠ 2) ∨
  (Region.wanted o (yielded ops a.tmps) = true ∧
    ((k = 0 ∧ m' = m ∧ ((∀ w, (execOp a.eval o).run c.P w = .ok (.value v) w) ∨
      ∃ b cs, b ∈ Lf ∧ mget b m = some cs ∧ ∀ w, (∃ T, w.heap[β.blk b]? = some (.cells (SV.denL ι β cs).toArray T (0, 0))) → (execOp a.eval o).run c.P w = .ok (.value v) w)) ∨
     (k = 1 ∧ m' = m ∧ ∀ w, StM c w0 X ι β m nxt w → o.quietAt c.P a (fun w' => Below w.heap.size w w') w v) ∨
     (k = 2 ∧ v = undef ∧ ∃ b cs, b ∈ Sf ∧ m' = msetL b cs m ∧ ∀ w, StM c w0 X ι β m nxt w → ∃ w', (execOp a.eval o).run c.P w = .ok .skip w' ∧ StM c w0 X ι β m' nxt w')))

theorem quietAt_mono {P : Program} {o : Oper} {a : Act} {C C' : World → Prop} {w : World} {v : Value} (hC : ∀ w', C w' → C' w') (h : o.quietAt P a C w v) : o.quietAt P a C' w v := by
  unfold Oper.quietAt at *
  generalize (execOp a.eval o).run P w = r at *
  cases r with
  | ok n w' =>
    cases n <;> simp only [Oper.quietUpon] at * <;> first | exact h | exact ⟨h.1, h.2.mono fun e w'' ⟨he, hw⟩ => ⟨he, hC _ hw⟩⟩
  | halt x w' => simp only [Oper.quietUpon] at h
theorem mget_msetL_ne {b b' : Nat} {cs : List SV} (h : b ≠ b') : ∀ m : Mem, mget b (msetL b' cs m) = mget b m
  | [] => rfl
  | x :: m => by
    unfold msetL
    split
    · rename_i e
      rw [mget_cons, mget_cons, if_neg (by rw [e]; exact fun h' => h h'.symm), if_neg (by rw [e]; exact fun h' => h h'.symm)]
    · rw [mget_cons, mget_cons, mget_msetL_ne h m]
theorem memN_mem {b : Nat} : ∀ {l : List Nat}, memN b l = false → b ∉ l
  | [], _ => by simp
  | x :: l, h => by
    simp only [memN, Bool.or_eq_false_iff] at h
    intro hm
    rcases List.mem_cons.1 hm with e | hm
    · subst e
      have := h.1
      simp at this
    · exact memN_mem h.2 hm
theorem apartN_mem {S : List Nat} : ∀ {L : List Nat}, apartN S L = true → ∀ b ∈ L, b ∉ S
  | [], _, b, hb => by cases hb
  | x :: L, h, b, hb => by
    simp only [apartN, Bool.and_eq_true, Bool.not_eq_true'] at h
    rcases List.mem_cons.1 hb with e | hb
    · subst e; exact memN_mem h.1
    · exact apartN_mem h.2 b hb

theorem execD_ok (hc : CallOk ι call) (H : Hyp c ι) {ops : Array Oper} {kd : List Nat} {s' : St} : ∀ (l : List Oper) (i : Nat) (L S : List Nat) (s : St) (a : Act) (w : World),
    (execD call c ops.toList kd l i L S s).pick ι = some s' → OkT ι β s a → StM c w0 X ι β s.mem s.nxt w →
    s'.nxt = s.nxt ∧ ∃ (Lf Sf : List Nat) (val : Nat → Value) (mems : Nat → Mem), (∀ b ∈ L, b ∈ Lf) ∧ (∀ b ∈ S, b ∈ Sf) ∧ apartN Sf Lf = true ∧ mems 0 = s.mem ∧ mems l.length = s'.mem ∧ OkT ι β s' (actF l a val l.length) ∧
      ∀ j o, l[j]? = some o → StepE c w0 X ι β s.nxt ops (nthN kd (i + j)) o (actF l a val j) (mems j) (val j) (mems (j + 1)) Lf Sf
  | [], i, L, S, s, a, w, h, hT, hM => by
    have h : (T.chk (apartN S L) (.leaf s)).pick ι = some s' := h
    obtain ⟨hap, h⟩ := pick_chk h
    have h : some s = some s' := h
    injection h with h; subst h
    exact ⟨rfl, L, S, fun _ => undef, fun _ => s.mem, fun _ h => h, fun _ h => h, hap, rfl, rfl, hT, fun j o h => by simp at h⟩
  | o :: l, i, L, S, s, a, w, h, hT, hM => by
    have h : (oneD call c ops.toList o (nthN kd i) L S (execD call c ops.toList kd l (i + 1)) s).pick ι = some s' := h
    unfold oneD at h
    obtain ⟨s1, h1, hT1, em, en⟩ := guardT_ok hT h
    rw [← em, ← en] at hM ⊢
    -- what stands behind it
    have go : ∀ (v0 : Value) (s2 : St) (w2 : World) (L2 S2 : List Nat), s2.nxt = s1.nxt → (execD call c ops.toList kd l (i + 1) L2 S2 s2).pick ι = some s' → OkT ι β s2 (a.put o.dst v0) → StM c w0 X ι β s2.mem s2.nxt w2 →
        (∀ b ∈ L, b ∈ L2) → (∀ b ∈ S, b ∈ S2) → (∀ Lf Sf, (∀ b ∈ L2, b ∈ Lf) → (∀ b ∈ S2, b ∈ Sf) → StepE c w0 X ι β s1.nxt ops (nthN kd i) o a s1.mem v0 s2.mem Lf Sf) →
        s'.nxt = s1.nxt ∧ ∃ (Lf Sf : List Nat) (val : Nat → Value) (mems : Nat → Mem), (∀ b ∈ L, b ∈ Lf) ∧ (∀ b ∈ S, b ∈ Sf) ∧ apartN Sf Lf = true ∧ mems 0 = s1.mem ∧ mems (o :: l).length = s'.mem ∧ OkT ι β s' (actF (o :: l) a val (o :: l).length) ∧
          ∀ j o', (o :: l)[j]? = some o' → StepE c w0 X ι β s1.nxt ops (nthN kd (i + j)) o' (actF (o :: l) a val j) (mems j) (val j) (mems (j + 1)) Lf Sf := by
      intro v0 s2 w2 L2 S2 hn h2 hT2 hM2 hL hS hstep
      obtain ⟨en2, Lf, Sf, val, mems, l1, l2, hap, m0, mn, hTn, hst⟩ := execD_ok hc H l (i + 1) L2 S2 s2 _ w2 h2 hT2 hM2
      refine ⟨en2.trans hn, Lf, Sf, fun i => match i with | 0 => v0 | i + 1 => val i, fun i => match i with | 0 => s1.mem | i + 1 => mems i, fun b hb => l1 b (hL b hb), fun b hb => l2 b (hS b hb), hap, rfl, mn, ?_, ?_⟩
      · rw [List.length_cons, actF_cons]; exact hTn
      · intro j o' ho'
        cases j with
        | zero =>
          simp only [List.getElem?_cons_zero, Option.some.injEq] at ho'
          subst ho'
          show StepE c w0 X ι β s1.nxt ops (nthN kd i) o a s1.mem v0 (mems 0) Lf Sf
          rw [m0]; exact hstep Lf Sf l1 l2
        | succ j =>
          rw [actF_cons]
          have := hst j o' (by simpa using ho')
          rw [hn, Nat.add_assoc, Nat.add_comm 1 j] at this
          exact this
    have keep : ∀ (l : List Nat), ∀ b ∈ l, b ∈ l := fun _ _ h => h
    cases hw : Region.wanted o (yielded ops a.tmps) with
    | false =>
      rw [hw] at h1
      obtain ⟨hk, h2⟩ := pick_chk h1
      simp only [putK_put] at h2
      have hk : nthN kd i ≠ 2 := fun e => by rw [e] at hk; cases hk
      exact go undef { s1 with tmps := putS o.dst uninit s1.tmps } w L S rfl h2 ⟨fun β' hb => put_den (hT1.tmps β' hb) o.dst uninit, hT1.asm, by rw [put_defers]; exact hT1.dfr⟩ hM (keep L) (keep S) (fun _ _ _ _ => .inl ⟨hw, rfl, rfl, hk⟩)
    | true =>
      rw [hw] at h1
      simp only at h1
      have hrun : ∀ r, (opStep c s1.asm s1.nxt s1.mem s1.tmps o.op).pick ι = some r → ∀ w, StM c w0 X ι β s1.mem s1.nxt w → ∀ β', Agree s1.nxt β β' → RunsTo ι β' s1.nxt w ((execOp a.eval o).run c.P w) r := fun r hr w hM β' hb => opStep_ok (hT1.tmps β' hb) hT1.asm H.rows (fun _ => hM β' hb) hr
      split at h1
      · rename_i hk
        unfold freeD at h1
        split at h1
        · rename_i t x hop
          obtain ⟨p, hp, h2⟩ := pick_opt h1
          split at h2
          · rename_i b off
            obtain ⟨cs, hg, h3⟩ := pick_opt h2
            obtain ⟨v, hv, h4⟩ := pick_opt h3
            simp only [fcV_eq, putK_put] at h4
            have one : ∀ β', Agree s1.nxt β β' → ∀ w, (∃ T, w.heap[β'.blk b]? = some (.cells (SV.denL ι β' cs).toArray T (0, 0))) → (execOp a.eval o).run c.P w = .ok (.value (v.den ι β')) w := by
              intro β' hb w ⟨T, hT⟩
              have e := evalO_den (hT1.tmps β' hb) hp
              have hload := run_loadVar (P := c.P) (w := w) (ι := ι) (β := β') (t := t) (cs := cs) (b := β'.blk b) (off := off) (v := v) (fun j => by simp [World.cell?, hT]) hv
              obtain ⟨dst, op, type, pos, after, guard⟩ := o
              simp only at hop
              subst hop
              simp only [execOp, e, SV.den, Instr.loadAt, Instr.sureAddr, Sem.run_bind, Sem.run_pure, Result.andThen_ok, hload]
            have hval : ∀ β', Agree s1.nxt β β' → v.den ι β' = v.den ι β := by
              intro β' hb
              have r1 := one β' hb w ((hM β' hb).blocks b cs (mget_mem _ _ _ hg))
              have r2 := one β (Agree.refl _ _) w ((hM β (Agree.refl _ _)).blocks b cs (mget_mem _ _ _ hg))
              rw [r1] at r2
              injection r2 with r2 _; injection r2
            refine go (v.den ι β) { s1 with tmps := putS o.dst v s1.tmps } w (b :: L) S rfl h4 ⟨fun β' hb => ?_, hT1.asm, by rw [put_defers]; exact hT1.dfr⟩ hM (fun _ h => List.mem_cons_of_mem _ h) (keep S) (fun Lf Sf hL _ => .inr ⟨hw, .inl ⟨hk, rfl, .inr ⟨b, cs, hL b (List.mem_cons_self ..), hg, one β (Agree.refl _ _)⟩⟩⟩)
            rw [← hval β' hb]
            exact put_den (hT1.tmps β' hb) o.dst v
          · cases h2
        · obtain ⟨hq, h2⟩ := pick_chk h1
          obtain ⟨r, hr, h3⟩ := (pick_bind _ _ _).1 h2
          have hrun : ∀ w β', Agree s1.nxt β β' → RunsTo ι β' s1.nxt w ((execOp a.eval o).run c.P w) r := fun w β' hb => opStep_ok (w0 := w0) (X := X) (mem := s1.mem) (hT1.tmps β' hb) hT1.asm H.rows (fun h => by rw [hq] at h; cases h) hr
          cases r with
          | val v =>
            simp only [nextD0, fcV_eq, putK_put] at h3
            refine go (v.den ι β) { s1 with tmps := putS o.dst v s1.tmps } w L S rfl h3 ⟨fun β' hb => ?_, hT1.asm, by rw [put_defers]; exact hT1.dfr⟩ hM (keep L) (keep S) (fun _ _ _ _ => .inr ⟨hw, .inl ⟨hk, rfl, .inl fun w => (run_val (hrun w)).1⟩⟩)
            rw [← (run_val (hrun w)).2 β' hb]
            exact put_den (hT1.tmps β' hb) o.dst v
          | _ => cases h3
      · rename_i hk
        obtain ⟨r, hr, h3⟩ := (pick_bind _ _ _).1 h1
        have hrun := hrun r hr
        cases r with
        | val v =>
          simp only [nextD1, fcV_eq, putK_put] at h3
          refine go (v.den ι β) { s1 with tmps := putS o.dst v s1.tmps } w L S rfl h3 ⟨fun β' hb => ?_, hT1.asm, by rw [put_defers]; exact hT1.dfr⟩ hM (keep L) (keep S) (fun _ _ _ _ => .inr ⟨hw, .inr (.inl ⟨hk, rfl, fun w hMw => ?_⟩)⟩)
          · rw [← (run_val (hrun w hM)).2 β' hb]
            exact put_den (hT1.tmps β' hb) o.dst v
          · unfold Oper.quietAt
            rw [(run_val (hrun w hMw)).1]
            exact ⟨rfl, rfl⟩
        | enter g args =>
          simp only [nextD1, fcL_eq] at h3
          have hst : StabL ι s1.nxt β args := (run_enter (hrun w hM)).2
          obtain ⟨v, h4, hv, hcall⟩ := callQ_ok (w0 := w0) (X := X) hc H hT1.asm hst h3
          simp only [putK_put] at h4
          refine go (v.den ι β) { s1 with tmps := putS o.dst v s1.tmps } w L S rfl h4 ⟨fun β' hb => ?_, hT1.asm, by rw [put_defers]; exact hT1.dfr⟩ hM (keep L) (keep S) (fun _ _ _ _ => .inr ⟨hw, .inr (.inl ⟨hk, rfl, fun w hMw => ?_⟩)⟩)
          · rw [← hv β' hb]
            exact put_den (hT1.tmps β' hb) o.dst v
          · unfold Oper.quietAt
            rw [(run_enter (hrun w hMw)).1]
            exact ⟨rfl, Calls.mono (hcall w hMw) fun e w' ⟨he, hbel⟩ => ⟨he, hbel⟩⟩
        | _ => cases h3
      · rename_i hk
        obtain ⟨r, hr, h3⟩ := (pick_bind _ _ _).1 h1
        have hrun := hrun r hr
        cases r with
        | sto b cs =>
          simp only [nextD2] at h3
          obtain ⟨hro, h4⟩ := pick_chk h3
          obtain ⟨old, hold, h5⟩ := pick_opt h4
          simp only [fcL_eq, msetK_eq, putK_put] at h5
          obtain ⟨w1, e, hM1⟩ := run_sto (hrun w hM) hM (mget_keys hold) (Nat.le_of_ble_eq_true hro)
          refine go undef { s1 with tmps := putS o.dst uninit s1.tmps, mem := msetL b cs s1.mem } w1 L (b :: S) rfl h5 ⟨fun β' hb => put_den (hT1.tmps β' hb) o.dst uninit, hT1.asm, by rw [put_defers]; exact hT1.dfr⟩ hM1 (keep L) (fun _ h => List.mem_cons_of_mem _ h) (fun Lf Sf _ hS => .inr ⟨hw, .inr (.inr ⟨hk, rfl, b, cs, hS b (List.mem_cons_self ..), rfl, fun w hMw => ?_⟩)⟩)
          exact run_sto (hrun w hMw) hMw (mget_keys hold) (Nat.le_of_ble_eq_true hro)
        | _ => cases h3
      · cases h1

/-- From the steps of the text to those that every order has. -/
theorem stepD_of {ops : Array Oper} {kd : List Nat} {nxt : Nat} {a : Act} {Lf Sf : List Nat} {val : Nat → Value} {mems : Nat → Mem} (hap : apartN Sf Lf = true)
    (hst : ∀ j o, ops.toList[j]? = some o → StepE c w0 X ι β nxt ops (nthN kd (0 + j)) o (actF ops.toList a val j) (mems j) (val j) (mems (j + 1)) Lf Sf) :
    ∀ i o, ops[i]? = some o → StepD c.P ops (nthN kd i) (fun w => ∃ m, m ≤ ops.size ∧ StM c w0 X ι β (mems m) nxt w) o (actL ops a val (fun _ => true) i) (StM c w0 X ι β (mems i) nxt) (val i) (StM c w0 X ι β (mems (i + 1)) nxt) := by
  have same : ∀ b, b ∉ Sf → ∀ m, m ≤ ops.size → mget b (mems m) = mget b (mems 0) := by
    intro b hb m
    induction m with
    | zero => intro _; rfl
    | succ m ih =>
      intro hm
      have hm' : m < ops.size := hm
      have ho : ops.toList[m]? = some ops[m] := by simp [hm']
      rw [← ih (by omega)]
      rcases hst m _ ho with ⟨_, _, e, _⟩ | ⟨_, ⟨_, e, _⟩ | ⟨_, e, _⟩ | ⟨_, _, b', cs, hb', e, _⟩⟩
      · rw [e]
      · rw [e]
      · rw [e]
      · rw [e]; exact mget_msetL_ne (fun h => hb (by rw [h]; exact hb')) _
  intro i o ho
  have h := hst i o (by simpa using ho)
  rw [Nat.zero_add, actF_actL] at h
  rcases h with ⟨h1, h2, h3, h4⟩ | ⟨h1, ⟨h2, h3, h4⟩ | ⟨h2, h3, h4⟩ | ⟨h2, h3, b, cs, hb, e, h4⟩⟩
  · exact .inl ⟨h1, h2, by rw [h3], h4⟩
  · refine .inr ⟨h1, .inl ⟨h2, fun w hw => ?_, by rw [h3]⟩⟩
    rcases h4 with h4 | ⟨b, cs, hb, hg, h4⟩
    · exact h4 w
    · obtain ⟨m, hm, hMw⟩ := hw
      have hin : i < ops.size := lt_of_some ho
      have hnb := apartN_mem hap b hb
      have e1 := same b hnb m hm
      have e2 := same b hnb i (by omega)
      refine h4 w ((hMw β (Agree.refl _ _)).blocks b cs (mget_mem _ _ _ ?_))
      rw [e1, ← e2]; exact hg
  · exact .inr ⟨h1, .inr (.inl ⟨h2, fun w hw => quietAt_mono (fun w' hb => hw.below hb) (h4 w hw), by rw [h3]⟩)⟩
  · exact .inr ⟨h1, .inr (.inr ⟨h2, h3, h4⟩)⟩
end
end Go.Proofs.YtjmpoiafcdphbaaSx
