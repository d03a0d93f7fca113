/- Code, calls. -/
import Derived.Test.YtkglnkfoeedmoaaSx12
namespace Go.Proofs.YtkglnkfoeedmoaaSx
open Go.RowKit
set_option linter.unusedVariables false
set_option linter.unusedSimpArgs false

/-- What is so behind code. -/
def Post (c : Ctx) (w0 : World) (X : Nat → Prop) (ι : Env) (β : Bt) (n0 : Nat) (e : Exit) (s' : St) : Exit → Act → World → Prop :=
  fun e' a' w' => e' = e ∧ n0 ≤ s'.nxt ∧ ∃ β1, Agree n0 β β1 ∧ OkT ι β1 s' a' ∧ StM c w0 X ι β1 s'.mem s'.nxt w'

section
variable {call : CallFn} {c : Ctx} {w0 : World} {X : Nat → Prop} {ι : Env} {β : Bt} {mem : Mem} {nxt : Nat} {w w' : World} {asm : Asm}

theorem Post.trans {β1 : Bt} {n0 n1 : Nat} {e e' : Exit} {s' : St} {a' : Act} (h : Post c w0 X ι β1 n1 e s' e' a' w') (hn : n0 ≤ n1) (hb : Agree n0 β β1) : Post c w0 X ι β n0 e s' e' a' w' := by
  obtain ⟨h1, h2, β2, h3, h4, h5⟩ := h
  exact ⟨h1, Nat.le_trans hn h2, β2, hb.trans h3 hn, h4, h5⟩

def CodeOk (c : Ctx) (w0 : World) (X : Nat → Prop) (ι : Env) (code : Code) (f : St → T (Exit × St)) : Prop :=
  ∀ (s : St) (e : Exit) (s' : St) (β : Bt) (a : Act) (w : World), (f s).pick ι = some (e, s') → OkT ι β s a → StM c w0 X ι β s.mem s.nxt w → code.wp c.P (Post c w0 X ι β s.nxt e s') a w

theorem codeRegion_ok (hc : CallOk ι call) (H : Hyp c ι) (id : Nat) (ops : Array Oper) (draw : Bool) : CodeOk c w0 X ι (.region id ops draw) (fun s => codeRegion call c ops draw s) := by
  intro s e s' β a w h hT hM
  cases draw with
  | false =>
    have h : ((execOps call c ops.toList ops.toList s).bind fun s => .leaf (.normal, s)).pick ι = some (e, s') := h
    obtain ⟨s1, h1, h2⟩ := (pick_bind _ _ _).1 h
    have h2 : some (Exit.normal, s1) = some (e, s') := h2
    injection h2 with h2; injection h2 with e1 e2; subst e1; subst e2
    exact wp_region_list (execOps_ok hc H ops.toList s β a w h1 hT hM fun β1 a' w' hb hn hT' hM' => ⟨rfl, hn, β1, hb, hT', hM'⟩)
  | true =>
    have h : (fcS (kindsOf ops.toList) fun kd => T.chk (commB ops (nthN kd)) ((execD call c ops.toList kd ops.toList 0 [] [] s).bind fun s => .leaf (.normal, s))).pick ι = some (e, s') := h
    rw [fcS_eq] at h
    obtain ⟨hcom, h0⟩ := pick_chk h
    obtain ⟨s1, h1, h2⟩ := (pick_bind _ _ _).1 h0
    have h2 : some (Exit.normal, s1) = some (e, s') := h2
    injection h2 with h2; injection h2 with e1 e2; subst e1; subst e2
    obtain ⟨en, Lf, Sf, val, mems, _, _, hap, m0, mn, hTn, hst⟩ := execD_ok hc H ops.toList 0 [] [] s a _ h1 hT hM.drawn
    have hlen : ops.toList.length = ops.size := by simp
    rw [hlen] at mn hTn
    rw [actF_actL] at hTn
    refine wp_region_comm (val := val) (cl := fun m => StM c w0 X ι β (mems m) s.nxt) H.mixed hcom (stepD_of hap hst) (by show StM c w0 X ι β (mems 0) s.nxt _; rw [m0]; exact hM.drawn) fun w' hw' => ⟨rfl, Nat.le_of_eq en.symm, β, Agree.refl _ _, hTn, ?_⟩
    have hw' : StM c w0 X ι β (mems ops.size) s.nxt w' := hw'
    rw [mn] at hw'; rw [en]; exact hw'

theorem codeSeq_ok {x y : Code} {f g : St → T (Exit × St)} (hx : CodeOk c w0 X ι x f) (hy : CodeOk c w0 X ι y g) : CodeOk c w0 X ι (.seq x y) (fun s => (f s).bind (codeSeq g)) := by
  intro s e s' β a w h hT hM
  obtain ⟨⟨e1, s1⟩, h1, h2⟩ := (pick_bind _ _ _).1 h
  refine wp_seq (Code.wp_mono ?_ (hx s e1 s1 β a w h1 hT hM))
  rintro e' a' w' ⟨rfl, hn, β1, hb, hT1, hM1⟩
  unfold codeSeq at h2
  cases e' with
  | normal => exact Code.wp_mono (fun e'' a'' w'' h => h.trans hn hb) (hy s1 e s' β1 a' w' h2 hT1 hM1)
  | _ =>
    have h2 : some (_, s1) = some (e, s') := h2
    injection h2 with h2; injection h2 with e1 e2; subst e1; subst e2
    exact ⟨rfl, hn, β1, hb, hT1, hM1⟩

theorem codeCond_ok {q : Operand} {x y : Code} {f g : St → T (Exit × St)} (hx : CodeOk c w0 X ι x f) (hy : CodeOk c w0 X ι y g) : CodeOk c w0 X ι (.cond q x y) (fun s => codeCond q f g s) := by
  intro s e s' β a w h hT hM
  have h : (codeCond q f g s).pick ι = some (e, s') := h
  unfold codeCond at h
  obtain ⟨v, hv, h1⟩ := pick_opt h
  have ev := evalO_den (hT.tmps β (Agree.refl _ _)) hv
  split at h1
  · rename_i b
    obtain ⟨l, hl, h2 | h2⟩ := pick_ifA hT.asm h1
    · exact wp_cond_true (by rw [ev]; simp only [SV.den, h2.1]) (hx { s with asm := l } e s' β a w h2.2 ⟨hT.tmps, hl, hT.dfr⟩ hM)
    · exact wp_cond_false (by rw [ev]; simp only [SV.den, h2.1]) (hy { s with asm := l } e s' β a w h2.2 ⟨hT.tmps, hl, hT.dfr⟩ hM)
  · cases h1

theorem codeBlock_ok {id : Nat} {x : Code} {f : St → T (Exit × St)} (hx : CodeOk c w0 X ι x f) : CodeOk c w0 X ι (.block id x) (fun s => (f s).bind (codeBlock id)) := by
  intro s e s' β a w h hT hM
  obtain ⟨⟨e1, s1⟩, h1, h2⟩ := (pick_bind _ _ _).1 h
  refine wp_block (Code.wp_mono ?_ (hx s e1 s1 β a w h1 hT hM))
  rintro e' a' w' ⟨rfl, hn, β1, hb, hT1, hM1⟩
  unfold codeBlock at h2
  cases e' with
  | exit id' =>
    simp only at h2
    unfold Exit.inBlock
    simp only
    split
    · rename_i hid
      rw [if_pos hid] at h2
      have h2 : some (Exit.normal, s1) = some (e, s') := h2
      injection h2 with h2; injection h2 with e1 e2; subst e1; subst e2
      exact ⟨rfl, hn, β1, hb, hT1, hM1⟩
    · rename_i hid
      rw [if_neg hid] at h2
      have h2 : some (Exit.exit id', s1) = some (e, s') := h2
      injection h2 with h2; injection h2 with e1 e2; subst e1; subst e2
      exact ⟨rfl, hn, β1, hb, hT1, hM1⟩
  | _ =>
    have h2 : some (_, s1) = some (e, s') := h2
    injection h2 with h2; injection h2 with e1 e2; subst e1; subst e2
    exact ⟨rfl, hn, β1, hb, hT1, hM1⟩

theorem codeScope_ok {x : Code} {f : St → T (Exit × St)} (hx : CodeOk c w0 X ι x f) : CodeOk c w0 X ι (.scope x) (fun s => (f s).bind codeScope) := by
  intro s e s' β a w h hT hM
  obtain ⟨⟨e1, s1⟩, h1, h2⟩ := (pick_bind _ _ _).1 h
  refine wp_scope_straight (Code.wp_mono ?_ (hx s e1 s1 β a w h1 hT hM))
  rintro e' a' w' ⟨rfl, hn, β1, hb, hT1, hM1⟩
  unfold codeScope at h2
  cases e' with
  | goto l => cases h2
  | _ =>
    have h2 : some (_, s1) = some (e, s') := h2
    injection h2 with h2; injection h2 with e1 e2; subst e1; subst e2
    exact ⟨rfl, hn, β1, hb, hT1, hM1⟩

theorem loopN_ok {x : Code} {f : St → T (Exit × St)} (hx : CodeOk c w0 X ι x f) : ∀ (n : Nat) (s : St) (e : Exit) (s' : St) (β : Bt) (a : Act) (w : World), (loopN f n s).pick ι = some (e, s') → OkT ι β s a → StM c w0 X ι β s.mem s.nxt w →
    Code.rounds c.P x (Post c w0 X ι β s.nxt e s') n a w
  | 0, s, e, s', β, a, w, h, hT, hM => by cases h
  | n + 1, s, e, s', β, a, w, h, hT, hM => by
    have h : ((f s).bind fun (e, s) => match Ex.isNormal e with | true => loopN f n s | false => .leaf (e, s)).pick ι = some (e, s') := h
    obtain ⟨⟨e1, s1⟩, h1, h2⟩ := (pick_bind _ _ _).1 h
    refine Code.wp_mono ?_ (hx s e1 s1 β a w h1 hT hM)
    rintro e' a' w' ⟨rfl, hn, β1, hb, hT1, hM1⟩
    cases e' with
    | normal =>
      have h2 : (loopN f n s1).pick ι = some (e, s') := h2
      have := loopN_ok hx n s1 e s' β1 a' w' h2 hT1 hM1
      exact rounds_mono (fun e'' a'' w'' h => h.trans hn hb) this
    | _ =>
      have h2 : some (_, s1) = some (e, s') := h2
      injection h2 with h2; injection h2 with e1 e2; subst e1; subst e2
      exact ⟨rfl, hn, β1, hb, hT1, hM1⟩
where
  rounds_mono {P : Program} {x : Code} {Q Q' : Exit → Act → World → Prop} (hq : ∀ e a w, Q e a w → Q' e a w) : ∀ {n : Nat} {a : Act} {w : World}, Code.rounds P x Q n a w → Code.rounds P x Q' n a w
    | 0, _, _, h => h
    | n + 1, _, _, h => Code.wp_mono (fun e a w h => by
      cases e with
      | normal => exact rounds_mono hq h
      | _ => exact hq _ _ _ h) h

theorem execCode_ok (hc : CallOk ι call) (H : Hyp c ι) (n : Nat) (code : Code) : CodeOk c w0 X ι code (execCode call c n code) := by
  induction code with
  | skip =>
    intro s e s' β a w h hT hM
    have h : some (Exit.normal, s) = some (e, s') := h
    injection h with h; injection h with e1 e2; subst e1; subst e2
    exact wp_skip ⟨rfl, Nat.le_refl _, β, Agree.refl _ _, hT, hM⟩
  | region id ops draw => exact codeRegion_ok hc H id ops draw
  | seq x y hx hy => exact codeSeq_ok hx hy
  | cond q x y hx hy => exact codeCond_ok hx hy
  | block id x hx => exact codeBlock_ok hx
  | loop x hx =>
    intro s e s' β a w h hT hM
    exact wp_loop_rounds n (loopN_ok hx n s e s' β a w h hT hM)
  | rangeFunc f params assign body h1 h2 =>
    intro s e s' β a w h hT hM
    cases h
  | exit id =>
    intro s e s' β a w h hT hM
    have h : some (Exit.exit id, s) = some (e, s') := h
    injection h with h; injection h with e1 e2; subst e1; subst e2
    exact wp_exit ⟨rfl, Nat.le_refl _, β, Agree.refl _ _, hT, hM⟩
  | scope x hx => exact codeScope_ok hx
  | label l =>
    intro s e s' β a w h hT hM
    have h : some (Exit.normal, s) = some (e, s') := h
    injection h with h; injection h with e1 e2; subst e1; subst e2
    exact wp_label ⟨rfl, Nat.le_refl _, β, Agree.refl _ _, hT, hM⟩
  | goto l =>
    intro s e s' β a w h hT hM
    cases h
  | ret =>
    intro s e s' β a w h hT hM
    have h : some (Exit.ret, s) = some (e, s') := h
    injection h with h; injection h with e1 e2; subst e1; subst e2
    exact wp_ret ⟨rfl, Nat.le_refl _, β, Agree.refl _ _, hT, hM⟩
  | refuse why =>
    intro s e s' β a w h hT hM
    cases h

/-! ### Calls -/
def resF (tmps : Array Value) (r : ResultVar) : Sem Value := match r with | .tmp t => pure (tmps.getD t undef) | .cell b t => do loadVar t (← asAddr (tmps.getD b undef))
theorem resultSV_ok {s : St} {a : Act} {r : ResultVar} {v : SV} (ht : a.tmps.toList = SV.denL ι β s.tmps) (hM : AbsM c w0 X ι β s.mem s.nxt w) (h : resultSV c s r = some v) :
    (resF a.tmps r).run c.P w = .ok (v.den ι β) w := by
  unfold resF
  cases r with
  | tmp t =>
    have h : some ((nthSV s.tmps t).getD uninit) = some v := h
    injection h with h; subst h
    have := evalO_den (x := .tmp t) ht rfl
    simp only [Act.eval] at this
    simp only [this, Sem.run_pure]
  | cell b t =>
    simp only [resultSV] at h
    split at h
    · rename_i b' off hb
      have := evalO_den (x := .tmp b) (v := .ptr b' off) ht (by show some _ = some _; rw [hb]; rfl)
      simp only [Act.eval] at this
      simp only [this, SV.den, asAddr, Sem.run_bind, Sem.run_pure, Result.andThen_ok]
      unfold loadSV at h
      simp only [cellsAt] at h
      split at h
      · rename_i cs off' hc
        split at hc
        · rename_i cs' hg
          injection hc with hc; injection hc with e1 e2; subst e1; subst e2
          exact run_loadVar (hM.cell (mget_mem _ _ _ hg)) h
        · cases hc
      · cases h
    · cases h

theorem resultsSV_ok {s : St} {a : Act} {F : ResultVar → Sem Value} (hF : ∀ r, F r = resF a.tmps r) (ht : a.tmps.toList = SV.denL ι β s.tmps) (hM : AbsM c w0 X ι β s.mem s.nxt w) : ∀ {rs : List ResultVar} {vs : List SV}, resultsSV c s rs = some vs →
    (rs.mapM (m := Sem) F).run c.P w = .ok (SV.denL ι β vs) w
  | [], vs, h => by
    simp only [resultsSV] at h
    injection h with h; subst h
    rfl
  | r :: rs, vs, h => by
    simp only [resultsSV] at h
    split at h
    · rename_i v l e1 e2
      injection h with h; subst h
      have h1 := resultSV_ok ht hM e1
      have h2 := resultsSV_ok hF ht hM e2
      rw [List.mapM_cons]
      simp only [Sem.run_bind, Sem.run_pure]
      rw [hF, h1]
      simp only [Result.andThen_ok]
      rw [h2]
      rfl
    · cases h

theorem results_ok {s : St} {a : Act} {fn : Func} {vs : List SV} (ht : a.tmps.toList = SV.denL ι β s.tmps) (hM : AbsM c w0 X ι β s.mem s.nxt w) (h : resultsSV c s fn.results.toList = some vs) :
    (results fn a.tmps).run c.P w = .ok ((tupSV vs).den ι β) w := by
  unfold results
  rw [Array.mapM_eq_mapM_toList]
  simp only [Sem.run_bind, Sem.run_map]
  rw [resultsSV_ok (a := a) (fun r => by cases r <;> rfl) ht hM h]
  simp only [Result.andThen_ok, Sem.run_pure]
  congr 1
  cases vs with
  | nil => simp [tupSV, SV.den, SV.denL]
  | cons v vs =>
    cases vs with
    | nil => simp [tupSV, SV.denL]
    | cons v' vs => simp [tupSV, SV.den, SV.denL]

theorem callIn_ok (hc : CallOk ι call) (n : Nat) : CallOk ι (callIn call n) := by
  intro c H w0 X β g args mem nxt asm w v mem' nxt' asm' hl hs hM h
  unfold callIn at h
  obtain ⟨fn, hfn, h1⟩ := pick_opt h
  obtain ⟨code, hcode, h2⟩ := pick_opt h1
  simp only [fcS_eq] at h2
  obtain ⟨⟨e, s'⟩, h3, h4⟩ := (pick_bind _ _ _).1 h2
  refine calls_of_wp hfn hcode (Code.wp_mono ?_ (execCode_ok hc H n code _ e s' β _ w h3 ⟨fun β' hb => ?_, hl, rfl⟩ hM))
  · rintro e' a' w' ⟨rfl, hn, β1, hb, hT, hM'⟩
    have fin : (T.opt (resultsSV c s' fn.results.toList) fun vs => T.leaf (tupSV vs, s'.mem, s'.nxt, s'.asm)).pick ι = some (v, mem', nxt', asm') →
        a'.defers = [] ∧ ∃ u, (results fn a'.tmps).run c.P w' = .ok u w' ∧ (AsmOk ι asm' ∧ nxt ≤ nxt' ∧ ∃ β1, Agree nxt β β1 ∧ (∀ β', Agree nxt' β1 β' → Ending.returned u = .returned (v.den ι β')) ∧ StM c w0 X ι β1 mem' nxt' w') := by
      intro h
      obtain ⟨vs, hvs, h5⟩ := pick_opt h
      have h5 : some (tupSV vs, s'.mem, s'.nxt, s'.asm) = some (v, mem', nxt', asm') := h5
      injection h5 with h5; injection h5 with e1 h5; injection h5 with e2 h5; injection h5 with e3 e4
      subst e1; subst e2; subst e3; subst e4
      have hr : ∀ β', Agree s'.nxt β1 β' → (results fn a'.tmps).run c.P w' = .ok ((tupSV vs).den ι β') w' := fun β' hb' => results_ok (hT.tmps β' hb') (hM' β' hb') hvs
      refine ⟨hT.dfr, _, hr β1 (Agree.refl _ _), hT.asm, hn, β1, hb, fun β' hb' => ?_, hM'⟩
      have h0 := hr β1 (Agree.refl _ _)
      rw [hr β' hb'] at h0
      injection h0 with h0 _
      rw [h0]
    unfold callEnd at h4
    cases e' with
    | normal => exact fin h4
    | ret => exact fin h4
    | _ => cases h4
  · show (_ ++ _ : Array Value).toList = _
    rw [denL_append, hs β' hb]
    simp only [Array.toList_append, Array.toList_replicate]
    congr 1
    simp [denL_map, uninit_den]

theorem execCall_ok (n : Nat) : ∀ d, CallOk ι (execCall n d)
  | 0 => fun c H w0 X β g args mem nxt asm w v mem' nxt' asm' hl hs hM h => by cases h
  | d + 1 => callIn_ok (execCall_ok n d) n
end
end Go.Proofs.YtkglnkfoeedmoaaSx
