/- Regions, code, calls. -/
import Derived.Test.YtjmpoiafcdphbaaSx10
namespace Go.Proofs.YtjmpoiafcdphbaaSx
open Go.RowKit
set_option linter.unusedVariables false
set_option linter.unusedSimpArgs false

/-- What is so behind code. -/
def Post (c : Ctx) (w0 : World) (X : Nat → Prop) (ι : Env) (β : Bt) (n0 : Nat) (e : Exit) (s' : St) : Exit → Act → World → Prop :=
  fun e' a' w' => e' = e ∧ n0 ≤ s'.nxt ∧ ∃ β1, Agree n0 β β1 ∧ OkT ι β1 s' a' ∧ StM c w0 X ι β1 s'.mem s'.nxt w'
def CodeOk (c : Ctx) (w0 : World) (X : Nat → Prop) (ι : Env) (code : Code) (f : St → T (Exit × St)) : Prop :=
  ∀ (s : St) (e : Exit) (s' : St) (β : Bt) (a : Act) (w : World), (f s).pick ι = some (e, s') → OkT ι β s a → StM c w0 X ι β s.mem s.nxt w → code.wp c.P (Post c w0 X ι β s.nxt e s') a w
/-- What the functions that are said to be known do. -/
structure Hyp (c : Ctx) (ι : Env) : Prop where
  mixed : c.P.follows .mixedOrders = true
  con : ∀ g f, conOf g c.con = some f → ∀ args nxt v n, f args nxt = some (v, n) → nxt ≤ n → ∀ β w, GlobOk ι β c.glob w → c.base ≤ w.heap.size → (∀ k, k < c.base → w.heap[k]? = c.bw.heap[k]?) → StabL ι nxt β args →
    Calls c.P g (SV.denL ι β args).toArray w (fun e w' => ∃ β1, Agree nxt β β1 ∧ (∀ β', Agree n β1 β' → e = .returned (v.den ι β')) ∧ Below w.heap.size w w')
  rows : RowsOk c ι
  lps : ∀ f r F, lpOf f r c.lps = some F → ∀ fn code, c.P.funcs[f]? = some fn → fn.body = some code → ∀ x ∈ loopsOf code, firstRid x = r → ∀ w0 X, CodeOk { c with ro := 0 } w0 X ι (.loop x) F

def CallOk (ι : Env) (call : CallFn) : Prop := ∀ c, Hyp c ι → ∀ w0 X β g args mem nxt asm w v mem' nxt' asm', AsmOk ι asm → StabL ι nxt β args → StM c w0 X ι β mem nxt w →
  (call c g args mem nxt asm).pick ι = some (v, mem', nxt', asm') →
  Calls c.P g (SV.denL ι β args).toArray w (fun e w' => AsmOk ι asm' ∧ nxt ≤ nxt' ∧ ∃ β1, Agree nxt β β1 ∧ (∀ β', Agree nxt' β1 β' → e = .returned (v.den ι β')) ∧ StM c w0 X ι β1 mem' nxt' w')

section
variable {call : CallFn} {c : Ctx} {w0 : World} {X : Nat → Prop} {ι : Env} {β : Bt} {mem : Mem} {nxt : Nat} {w w' : World} {asm : Asm}

/-- A call that leaves all as it was. -/
theorem callQ_ok (hc : CallOk ι call) (H : Hyp c ι) {g : Nat} {args : List SV} {k : SV → T St} {y : St} (hl : AsmOk ι asm) (hs : StabL ι nxt β args)
    (h : (callQ call c g args mem nxt asm k).pick ι = some y) :
    ∃ v, (k v).pick ι = some y ∧ (∀ β', Agree nxt β β' → v.den ι β' = v.den ι β) ∧ ∀ w, StM c w0 X ι β mem nxt w → Calls c.P g (SV.denL ι β args).toArray w (fun e w' => e = .returned (v.den ι β) ∧ Below w.heap.size w w') := by
  unfold callQ at h
  split at h
  · rename_i f hf
    obtain ⟨⟨v, n⟩, hfa, h1⟩ := pick_opt h
    obtain ⟨hchk, h2⟩ := pick_chk h1
    simp only [Bool.and_eq_true] at hchk
    obtain ⟨hn, hu⟩ := hchk
    have hn : n = nxt := Nat.eq_of_beq_eq_true hn
    subst hn
    simp only [fcV_eq] at h2
    refine ⟨v, h2, fun β' hb => under_den hb v hu, fun w hM => ?_⟩
    refine Calls.mono (H.con g f hf args _ v _ hfa (Nat.le_refl _) β w (hM β (Agree.refl _ _)).globs (hM β (Agree.refl _ _)).size0 (hM β (Agree.refl _ _)).base.2.2 hs) fun e w' ⟨β1, hb, he, hbel⟩ => ⟨?_, hbel⟩
    rw [he β1 (Agree.refl _ _), under_den hb v hu]
  · rename_i hf
    obtain ⟨⟨p, v⟩, hm, h1⟩ := pick_opt h
    obtain ⟨hp, h2⟩ := pick_needs hl h1
    simp only [fcV_eq] at h2
    obtain ⟨hu, h3⟩ := pick_chk h2
    obtain ⟨x, hx, hd⟩ := mergeT_den _ p v hm hp
    obtain ⟨⟨v', mem', nxt', asm'⟩, hcall, hleaf⟩ := (pick_bind _ _ _).1 hx
    have hleaf : some v' = some x := hleaf
    injection hleaf with hleaf; subst hleaf
    refine ⟨v, h3, fun β' hb => under_den hb v hu, fun w hM => ?_⟩
    refine Calls.mono (hc { c with ro := nxt } ⟨H.mixed, H.con, H.rows, fun f r F h fn code h1 h2 x hx hr => H.lps f r F h fn code h1 h2 x hx hr⟩ w (fun _ => False) β g args mem nxt asm w v' mem' nxt' asm' hl hs hM.self hcall) fun e w' ⟨_, _, β1, hb, he, hM'⟩ => ⟨?_, ?_⟩
    · rw [he β1 (Agree.refl _ _), ← hd, under_den hb v hu]
    · have k := (hM' β1 (Agree.refl _ _)).fr
      exact ⟨k.os, k.tape, k.output, k.size, fun i hi => k.block i hi (fun h => h)⟩

theorem callO_ok (hc : CallOk ι call) (H : Hyp c ι) {g : Nat} {args : List SV} {s : St} {k : SV → St → T St} {y : St} (hl : AsmOk ι s.asm) (hs : StabL ι s.nxt β args)
    (hM : StM c w0 X ι β s.mem s.nxt w) (h : (callO call c g args s k).pick ι = some y) :
    ∃ v s1, (k v s1).pick ι = some y ∧ s1.tmps = s.tmps ∧ Calls c.P g (SV.denL ι β args).toArray w (fun e w' => AsmOk ι s1.asm ∧ s.nxt ≤ s1.nxt ∧ ∃ β1, Agree s.nxt β β1 ∧ (∀ β', Agree s1.nxt β1 β' → e = .returned (v.den ι β')) ∧ StM c w0 X ι β1 s1.mem s1.nxt w') := by
  unfold callO at h
  split at h
  · obtain ⟨⟨v, m, n, l⟩, hcall, h1⟩ := (pick_bind _ _ _).1 h
    simp only [fcV_eq] at h1
    exact ⟨v, { s with mem := m, nxt := n, asm := l }, h1, rfl, hc c H w0 X β g args _ _ _ w v m n l hl hs hM hcall⟩
  · split at h
    · rename_i f hf
      obtain ⟨⟨v, n⟩, hfa, h1⟩ := pick_opt h
      obtain ⟨hchk, h2⟩ := pick_chk h1
      have hn : s.nxt ≤ n := Nat.le_of_ble_eq_true hchk
      simp only [fcV_eq, fcN_eq] at h2
      refine ⟨v, { s with nxt := n }, h2, rfl, ?_⟩
      refine Calls.mono (H.con g f hf args _ v n hfa hn β w (hM β (Agree.refl _ _)).globs (hM β (Agree.refl _ _)).size0 (hM β (Agree.refl _ _)).base.2.2 hs) fun e w' ⟨β1, hb, he, hbel⟩ => ⟨hl, hn, β1, hb, he, ?_⟩
      exact (hM.move hb hn).below hbel
    · obtain ⟨v, h1, hst, h2⟩ := callQ_ok (w0 := w0) (X := X) hc H hl hs h
      refine ⟨v, s, h1, rfl, Calls.mono (h2 w hM) fun e w' ⟨he, hbel⟩ => ⟨hl, Nat.le_refl _, β, Agree.refl _ _, fun β' hb => by rw [he, hst β' hb], hM.below hbel⟩⟩

/-- The operations of a region, in the order of the text. -/
theorem execOps_ok (hc : CallOk ι call) (H : Hyp c ι) {ops : Array Oper} {s' : St} {Q : Exit → Act → World → Prop} : ∀ (l : List Oper) (s : St) (β : Bt) (a : Act) (w : World),
    (execOps call c ops.toList l s).pick ι = some s' → OkT ι β s a → StM c w0 X ι β s.mem s.nxt w →
    (∀ β1 a' w', Agree s.nxt β β1 → s.nxt ≤ s'.nxt → OkT ι β1 s' a' → StM c w0 X ι β1 s'.mem s'.nxt w' → Q .normal a' w') → wpList c.P ops Q l a w
  | [], s, β, a, w, h, hT, hM, hQ => by
    have h : some s = some s' := h
    injection h with h; subst h
    exact hQ β a w (Agree.refl _ _) (Nat.le_refl _) hT hM
  | o :: l, s, β, a, w, h, hT, hM, hQ => by
    have h : (oneOp call c ops.toList o (execOps call c ops.toList l) s).pick ι = some s' := h
    unfold oneOp at h
    obtain ⟨s1, h1, hT1, em, en⟩ := guardT_ok hT h
    rw [← em, ← en] at hM
    rw [← en] at hQ
    refine wpList_step fun K hK => ?_
    cases hw : Region.wanted o (yielded ops a.tmps) with
    | false =>
      rw [hw] at h1
      simp only [putK_put] at h1
      rw [if_neg (by simp)]
      refine hK _ _ (execOps_ok hc H l _ β _ w h1 ⟨fun β' hb => ?_, hT1.asm, ?_⟩ hM hQ)
      · exact put_den (hT1.tmps β' hb) o.dst uninit
      · rw [put_defers]; exact hT1.dfr
    | true =>
      rw [hw] at h1
      rw [if_pos rfl]
      obtain ⟨r, hr, h2⟩ := (pick_bind _ _ _).1 h1
      have hrun : ∀ β', Agree s1.nxt β β' → RunsTo ι β' s1.nxt w ((execOp a.eval o).run c.P w) r := fun β' hb => opStep_ok (hT1.tmps β' hb) hT1.asm H.rows (fun _ => hM β' hb) hr
      unfold Oper.wp
      cases r with
      | val v =>
        simp only [nextOp, fcV_eq, putK_put] at h2
        obtain ⟨e, hst⟩ := run_val hrun
        rw [e]
        refine hK _ _ (execOps_ok hc H l _ β _ w h2 ⟨fun β' hb => ?_, hT1.asm, ?_⟩ hM hQ)
        · rw [← hst β' hb]; exact put_den (hT1.tmps β' hb) o.dst v
        · rw [put_defers]; exact hT1.dfr
      | new v cs =>
        simp only [nextOp, fcV_eq, fcN_eq, fcL_eq, putK_put] at h2
        obtain ⟨val, w1, β1, e, hb1, hv, hM1⟩ := run_new hrun hM
        rw [e]
        refine hK _ _ (execOps_ok hc H l _ β1 _ w1 h2 ⟨fun β' hb => ?_, hT1.asm, ?_⟩ hM1 fun β2 a' w' hb2 hn2 hT2 hM2 => hQ β2 a' w' (hb1.trans hb2 (Nat.le_succ _)) (Nat.le_of_succ_le hn2) hT2 hM2)
        · rw [← hv β' hb]; exact put_den (hT1.tmps β' (hb1.trans hb (Nat.le_succ _))) o.dst v
        · rw [put_defers]; exact hT1.dfr
      | sto b cs =>
        simp only [nextOp] at h2
        obtain ⟨hro, h3⟩ := pick_chk h2
        obtain ⟨old, hold, h4⟩ := pick_opt h3
        simp only [fcL_eq, msetK_eq, putK_put] at h4
        obtain ⟨w1, e, hM1⟩ := run_sto hrun hM (mget_keys hold) (Nat.le_of_ble_eq_true hro)
        rw [e]
        refine hK _ _ (execOps_ok hc H l _ β _ w1 h4 ⟨fun β' hb => ?_, hT1.asm, ?_⟩ hM1 hQ)
        · exact put_den (hT1.tmps β' hb) o.dst uninit
        · rw [put_defers]; exact hT1.dfr
      | enter g args =>
        simp only [nextOp, fcL_eq] at h2
        obtain ⟨e, hst⟩ := run_enter hrun
        rw [e]
        obtain ⟨v, s2, h3, et, hcall⟩ := callO_ok hc H hT1.asm hst hM h2
        simp only [putK_put] at h3
        refine Calls.mono hcall fun e w' ⟨hl2, hn2, β1, hb1, he, hM1⟩ => ?_
        rw [he β1 (Agree.refl _ _)]
        refine hK _ _ (execOps_ok hc H l _ β1 _ w' h3 ⟨fun β' hb => ?_, hl2, ?_⟩ hM1 fun β2 a' w' hb2 hn3 hT2 hM2 => hQ β2 a' w' (hb1.trans hb2 hn2) (Nat.le_trans hn2 hn3) hT2 hM2)
        · have e1 := he β1 (Agree.refl _ _)
          have e2 := he β' hb
          rw [e1] at e2
          injection e2 with e2
          rw [e2]
          show _ = SV.denL ι β' (putS o.dst v s2.tmps)
          rw [et]
          exact put_den (hT1.tmps β' (hb1.trans hb hn2)) o.dst v
        · rw [put_defers]; exact hT1.dfr
end
end Go.Proofs.YtjmpoiafcdphbaaSx
