/- Code, calls. -/
import Derived.Test.YtjmpoiafcdphbaaSx12
namespace Go.Proofs.YtjmpoiafcdphbaaSx
open Go.RowKit
set_option linter.unusedVariables false
set_option linter.unusedSimpArgs false

section
variable {call : CallFn} {c : Ctx} {w0 : World} {X : Nat → Prop} {ι : Env} {β : Bt} {mem : Mem} {nxt : Nat} {w w' : World} {asm : Asm}

theorem Post.trans {β1 : Bt} {n0 n1 : Nat} {e e' : Exit} {s' : St} {a' : Act} (h : Post c w0 X ι β1 n1 e s' e' a' w') (hn : n0 ≤ n1) (hb : Agree n0 β β1) : Post c w0 X ι β n0 e s' e' a' w' := by
  obtain ⟨h1, h2, β2, h3, h4, h5⟩ := h
  exact ⟨h1, Nat.le_trans hn h2, β2, hb.trans h3 hn, h4, h5⟩

theorem allocEnd_eq : ∀ {l : List Oper} {A : List Oper} {oa os : Oper}, allocEnd l = some (A, oa, os) → l = A ++ [oa, os] ∧ (∃ t, oa.op = .alloc t) ∧ oa.guard = none ∧ os.guard = none
  | [], _, _, _, h => by cases h
  | x :: l, A, oa, os, h => by
    unfold allocEnd at h
    split at h
    · split at h
      · rename_i e1 e2 e3 e4
        injection h with h; injection h with h1 h; injection h with h2 h3
        subst h1; subst h2; subst h3
        exact ⟨rfl, ⟨_, e1⟩, e2, e4⟩
      · cases h
    · split at h
      · rename_i e
        injection h with h; injection h with h1 h; injection h with h2 h3
        subst h1; subst h2; subst h3
        obtain ⟨h1, h2⟩ := allocEnd_eq e
        exact ⟨by rw [h1]; rfl, h2⟩
      · cases h

/-- What is known of memory, the block that was made last left out. -/
theorem StM.pop {β1 : Bt} {cs : List SV} {wk : World} (hk : StM c w0 X ι β mem nxt wk) (hag : Agree nxt β β1) (h : StM c w0 X ι β1 ((nxt, cs) :: mem) (nxt + 1) w) : StM c w0 X ι β mem nxt w := by
  intro β' hb
  let β2 : Bt := ⟨fun i => if i = nxt then β1.blk nxt else β'.blk i, fun i => if i = nxt then β1.val nxt else β'.val i, fun i => by split; exact β1.one _; exact β'.one _⟩
  have a2 : Agree (nxt + 1) β1 β2 := by
    intro i hi
    show (if i = nxt then _ else _) = _ ∧ (if i = nxt then _ else _) = _
    by_cases e : i = nxt
    · rw [if_pos e, if_pos e, e]; exact ⟨rfl, rfl⟩
    · rw [if_neg e, if_neg e]
      have h1 := hb i (by omega)
      have h2 := hag i (by omega)
      exact ⟨h1.1.trans h2.1.symm, h1.2.trans h2.2.symm⟩
  have b2 : Agree nxt β β2 := hag.trans a2 (Nat.le_succ _)
  have k2 := h β2 a2
  have k0 := hk β' hb
  have k3 := hk β2 b2
  refine ⟨fun b cs' hm => ?_, k0.inj, k0.nodup, k0.lt, k0.wr, k0.glob, k2.fr, k0.base.1, k0.base.2.1, k2.base.2.2⟩
  have hlt := k0.lt b (List.mem_map.2 ⟨_, hm, rfl⟩)
  obtain ⟨T, hT⟩ := k2.blocks b cs' (List.mem_cons_of_mem _ hm)
  obtain ⟨T1, hT1⟩ := k0.blocks b cs' hm
  obtain ⟨T3, hT3⟩ := k3.blocks b cs' hm
  have eb : β2.blk b = β'.blk b := by show (if b = nxt then _ else _) = _; rw [if_neg (by omega)]
  rw [eb] at hT hT3
  rw [hT1] at hT3
  injection hT3 with hT3; injection hT3 with hT3 _ _
  exact ⟨T, by rw [hT, hT3]⟩

theorem actF_append (A B : List Oper) (a : Act) (val : Nat → Value) : ∀ i, i ≤ A.length → actF (A ++ B) a val i = actF A a val i
  | 0, _ => rfl
  | i + 1, h => by
    show (actF (A ++ B) a val i).put _ _ = (actF A a val i).put _ _
    rw [actF_append A B a val i (by omega), List.getElem?_append_left (by omega)]
theorem actF_val {l : List Oper} {a : Act} {v v' : Nat → Value} : ∀ i, (∀ j, j < i → v j = v' j) → actF l a v i = actF l a v' i
  | 0, _ => rfl
  | i + 1, h => by
    show (actF l a v i).put _ _ = (actF l a v' i).put _ _
    rw [actF_val i (fun j hj => h j (by omega)), h i (by omega)]

theorem codeRegionA_ok (hc : CallOk ι call) (H : Hyp c ι) (id : Nat) (ops : Array Oper) {A : List Oper} {oa os : Oper} (hA : allocEnd ops.toList = some (A, oa, os)) : CodeOk c w0 X ι (.region id ops true) (fun s => codeRegionA call c ops A oa os s) := by
  intro s e s' β a w h hT hM
  obtain ⟨hops, ⟨ta, hta⟩, hga, hgs⟩ := allocEnd_eq hA
  have h : (codeRegionA call c ops A oa os s).pick ι = some (e, s') := h
  unfold codeRegionA at h
  rw [fcS_eq] at h
  obtain ⟨hchk, h0⟩ := pick_chk h
  simp only [Bool.and_eq_true] at hchk
  obtain ⟨hcom, hch⟩ := hchk
  unfold chkA at hch
  simp only [Bool.and_eq_true, Bool.not_eq_true'] at hch
  obtain ⟨hbit, hkA, hkn, hks⟩ := hch
  generalize hkd : kindsOf ops.toList = kd at *
  obtain ⟨s4, h1, h2⟩ := (pick_bind _ _ _).1 h0
  have h2 : some (Exit.normal, s4) = some (e, s') := h2
  injection h2 with h2; injection h2 with e1 e2; subst e1; subst e2
  obtain ⟨s1, h3, h4⟩ := (pick_bind _ _ _).1 h1
  obtain ⟨r, h5, h6⟩ := (pick_bind _ _ _).1 h4
  obtain ⟨en, Lf, Sf, val, mems, _, _, hap, m0, mn, hTn, hst⟩ := execD_ok hc H A 0 [] [] s a _ h3 hT hM.drawn
  have hpos : ops.size = A.length + 2 := by rw [← Array.length_toList, hops]; simp
  have hget : ∀ j, j < A.length → ops[j]? = A[j]? := fun j hj => by
    rw [← Array.getElem?_toList, hops, List.getElem?_append_left hj]
  have hga' : ops[A.length]? = some oa := by rw [← Array.getElem?_toList, hops]; simp
  have hgs' : ops[A.length + 1]? = some os := by rw [← Array.getElem?_toList, hops]; simp
  have kA : ∀ j, j < A.length → nthN kd j ≠ 2 := fun j hj h2 => by
    have := List.all_eq_true.1 hkA j (List.mem_range.2 hj)
    rw [h2] at this; cases this
  have kn : nthN kd A.length ≠ 2 := fun h2 => by rw [h2] at hkn; cases hkn
  have ks : nthN kd (A.length + 1) = 2 := Nat.eq_of_beq_eq_true hks
  have memsE : ∀ j, j ≤ A.length → mems j = s.mem := by
    intro j
    induction j with
    | zero => intro _; exact m0
    | succ j ih =>
      intro hj
      have ho : A[j]? = some A[j] := by simp
      rcases hst j _ ho with ⟨_, _, e, _⟩ | ⟨_, ⟨_, e, _⟩ | ⟨_, e, _⟩ | ⟨h2, _⟩⟩
      · rw [e, ih (by omega)]
      · rw [e, ih (by omega)]
      · rw [e, ih (by omega)]
      · rw [Nat.zero_add] at h2; exact absurd h2 (kA j hj)
  have em : s1.mem = s.mem := by rw [← mn]; exact memsE _ (Nat.le_refl _)
  -- the frame ahead of the making
  have actE : ∀ (v : Nat → Value) (j : Nat), j ≤ A.length → actL ops a v (fun _ => true) j = actF A a v j := fun v j hj => by
    rw [← actF_actL, hops, actF_append _ _ _ _ _ hj]
  -- the steps ahead, in any class of worlds that stays
  have stepK : ∀ (K : World → Prop) (C : World → Prop) (v2 : Nat → Value), (∀ j, j < A.length → v2 j = val j) → (∀ w, K w → StM c w0 X ι β s.mem s.nxt w) → (∀ w w', K w → Below w.heap.size w w' → K w') →
      (∀ w, C w → ∀ b cs, mget b s.mem = some cs → ∃ T, w.heap[β.blk b]? = some (.cells (SV.denL ι β cs).toArray T (0, 0))) →
      ∀ j o, j < A.length → ops[j]? = some o → StepD c.P ops (nthN kd j) C o (actL ops a v2 (fun _ => true) j) K (v2 j) K := by
    intro K C v2 hv2 hK hKb hC j o hj ho
    rw [hget j hj] at ho
    have h := hst j o ho
    rw [Nat.zero_add, ← actF_val j (fun i hi => hv2 i (by omega)), ← actE v2 j (by omega), memsE j (by omega), ← hv2 j hj] at h
    rcases h with ⟨h1, h2, h3, h4⟩ | ⟨h1, ⟨h2, h3, h4⟩ | ⟨h2, h3, h4⟩ | ⟨h2, _⟩⟩
    · exact .inl ⟨h1, h2, rfl, h4⟩
    · refine .inr ⟨h1, .inl ⟨h2, fun w hw => ?_, rfl⟩⟩
      rcases h4 with h4 | ⟨b, cs, hb, hg, h4⟩
      · exact h4 w
      · exact h4 w (hC w hw b cs hg)
    · exact .inr ⟨h1, .inr (.inl ⟨h2, fun w hw => quietAt_mono (fun w' hb => hKb w w' hw hb) (h4 w (hK w hw)), rfl⟩)⟩
    · exact absurd h2 (kA j hj)
  -- the making
  obtain ⟨na, opa, typea, posa, aftera, guarda⟩ := oa
  simp only at hta hga
  subst hta; subst hga
  refine wp_region_alloc (P := c.P) (ops := ops) (kd := nthN kd) (a0 := a) (val := val) (pa := A.length) (K := StM c w0 X ι β s.mem s.nxt) H.mixed hga' kn hcom (fun j hj => kA j hj) (fun j o hj ho => ?_)
    (fun i o hi ho => stepK _ _ val (fun _ _ => rfl) (fun _ h => h) (fun _ _ h k => h.below k) (fun w hw b cs hg => (hw β (Agree.refl _ _)).blocks b cs (mget_mem _ _ _ hg)) i o hi ho) ?_ hM.drawn
  · have hj' : j = A.length + 1 := by have := lt_of_some ho; omega
    subst hj'; exact hbit
  intro wk ak hKw _
  have hKw1 : StM c w0 X ι β s1.mem s1.nxt wk := by rw [em, en]; exact hKw
  have hrun : ∀ β', Agree s1.nxt β β' → RunsTo ι β' s1.nxt wk ((execOp (actF A a val A.length).eval ⟨na, .alloc ta, typea, posa, aftera, none⟩).run c.P wk) r := fun β' hb => opStep_ok (hTn.tmps β' hb) hTn.asm H.rows (fun _ => hKw1 β' hb) h5
  cases r with
  | new v cs =>
    simp only [nextA, fcN_eq, fcV_eq, fcL_eq, putK_put] at h6
    obtain ⟨vp, w1, β1, hr, hb1, hv, hM1⟩ := run_new hrun hKw1
    obtain ⟨r2, h7, h8⟩ := (pick_bind _ _ _).1 h6
    have hT2 : OkT ι β1 { tmps := putS na v s1.tmps, mem := (s1.nxt, cs) :: s1.mem, nxt := s1.nxt + 1, asm := s1.asm } ((actF A a val A.length).put na vp) := by
      refine ⟨fun β' hb => ?_, hTn.asm, by rw [put_defers]; exact hTn.dfr⟩
      rw [← hv β' hb]; exact put_den (hTn.tmps β' (hb1.trans hb (Nat.le_succ _))) na v
    have hrunS : ∀ w, StM c w0 X ι β1 ((s1.nxt, cs) :: s1.mem) (s1.nxt + 1) w → ∀ β', Agree (s1.nxt + 1) β1 β' → RunsTo ι β' (s1.nxt + 1) w ((execOp ((actF A a val A.length).put na vp).eval os).run c.P w) r2 := fun w hMw β' hb => opStep_ok (hT2.tmps β' hb) hT2.asm H.rows (fun _ => hMw β' hb) h7
    cases r2 with
    | sto b cs2 =>
      simp only [nextB] at h8
      obtain ⟨hbc, h9⟩ := pick_chk h8
      simp only [Bool.and_eq_true] at hbc
      obtain ⟨old, hold, h10⟩ := pick_opt h9
      simp only [fcL_eq, msetK_eq, putK_put] at h10
      have h10 : some _ = some _ := h10
      injection h10 with h10
      have hbn := Nat.eq_of_beq_eq_true hbc.1
      have hro := Nat.le_of_ble_eq_true hbc.2
      have eW : Region.wanted (⟨na, .alloc ta, typea, posa, aftera, none⟩ : Oper) (yielded ops ak.tmps) = true := rfl
      have eX : execOp ak.eval (⟨na, .alloc ta, typea, posa, aftera, none⟩ : Oper) = execOp (actF A a val A.length).eval ⟨na, .alloc ta, typea, posa, aftera, none⟩ := rfl
      let D : World → Prop := StM c w0 X ι β1 ((s1.nxt, cs) :: s1.mem) (s1.nxt + 1)
      let D' : World → Prop := StM c w0 X ι β1 (msetL b cs2 ((s1.nxt, cs) :: s1.mem)) (s1.nxt + 1)
      let val2 : Nat → Value := fun i => if i = A.length then vp else if i = A.length + 1 then undef else val i
      let cl2 : Nat → World → Prop := fun m => if m ≤ A.length + 1 then D else D'
      have v2A : ∀ i, i < A.length → val2 i = val i := fun i hi => by
        show (if _ then _ else if _ then _ else _) = _
        rw [if_neg (by omega), if_neg (by omega)]
      have v2p : val2 A.length = vp := by show (if _ then _ else _) = _; rw [if_pos rfl]
      have v2s : val2 (A.length + 1) = undef := by show (if _ then _ else if _ then _ else _) = _; rw [if_neg (by omega), if_pos rfl]
      have clD : ∀ m, m ≤ A.length + 1 → cl2 m = D := fun m hm => by show (if _ then _ else _) = _; rw [if_pos hm]
      have clD' : cl2 (A.length + 2) = D' := by show (if _ then _ else _) = _; rw [if_neg (by omega)]
      have hDK : ∀ w, D w → StM c w0 X ι β s.mem s.nxt w := fun w hw => by
        have := StM.pop hKw1 hb1 hw
        rw [em, en] at this; exact this
      have act1 : actL ops a val2 (fun _ => true) A.length = actF A a val A.length := by rw [actE val2 _ (Nat.le_refl _)]; exact actF_val _ (fun j hj => v2A j hj)
      have act2 : actL ops a val2 (fun _ => true) (A.length + 1) = (actF A a val A.length).put na vp := by
        show (actL ops a val2 (fun _ => true) A.length).put _ _ = _
        rw [act1, v2p]
        have : dstOf ops A.length = na := by unfold dstOf; rw [hga']; rfl
        rw [this]
      have act3 : actL ops a val2 (fun _ => true) (A.length + 2) = ((actF A a val A.length).put na vp).put os.dst undef := by
        show (actL ops a val2 (fun _ => true) (A.length + 1)).put _ _ = _
        rw [act2, v2s]
        have : dstOf ops (A.length + 1) = os.dst := by unfold dstOf; rw [hgs']; rfl
        rw [this]
      have fine : ∀ w, (∃ m, m ≤ ops.size ∧ cl2 m w) → ∀ b' cs', mget b' s.mem = some cs' → ∃ T, w.heap[β.blk b']? = some (.cells (SV.denL ι β cs').toArray T (0, 0)) := by
        intro w hm b' cs' hg
        have hmem : (b', cs') ∈ s1.mem := by rw [em]; exact mget_mem _ _ _ hg
        have hlt := (hKw1 β (Agree.refl _ _)).lt b' (List.mem_map.2 ⟨_, hmem, rfl⟩)
        have eb := (hb1 b' hlt).1
        have same : (SV.denL ι β1 cs').toArray = (SV.denL ι β cs').toArray := by
          obtain ⟨T1, hT1⟩ := (hKw1 β (Agree.refl _ _)).blocks b' cs' hmem
          obtain ⟨T2, hT2⟩ := (hKw1 β1 hb1).blocks b' cs' hmem
          rw [eb, hT1] at hT2
          injection hT2 with hT2; injection hT2 with hT2 _ _
          exact hT2.symm
        obtain ⟨m, _, hm⟩ := hm
        by_cases h : m ≤ A.length + 1
        · rw [clD m h] at hm
          obtain ⟨T, hT⟩ := (hm β1 (Agree.refl _ _)).blocks b' cs' (List.mem_cons_of_mem _ hmem)
          exact ⟨T, by rw [← eb, hT, same]⟩
        · have hm : D' w := by
            have : cl2 m = D' := by show (if _ then _ else _) = _; rw [if_neg h]
            rw [this] at hm; exact hm
          have hmem2 : (b', cs') ∈ msetL b cs2 ((s1.nxt, cs) :: s1.mem) := by
            refine mget_mem _ _ _ ?_
            have hg1 : mget b' s1.mem = some cs' := by rw [em]; exact hg
            rw [mget_msetL_ne (by omega), mget_cons, if_neg (by omega)]
            exact hg1
          obtain ⟨T, hT⟩ := (hm β1 (Agree.refl _ _)).blocks b' cs' hmem2
          exact ⟨T, by rw [← eb, hT, same]⟩
      refine ⟨vp, w1, eW, by rw [eX]; exact hr, val2, cl2, v2A, v2p, by rw [clD 0 (by omega)]; exact hM1, by rw [clD _ (Nat.le_refl _), clD _ (by omega)], ?_, ?_⟩
      · intro i o ho hip
        rcases Nat.lt_or_ge i A.length with hi | hi
        · rw [clD i (by omega), clD (i + 1) (by omega)]
          exact stepK D _ val2 v2A hDK (fun w w' h k => StM.below h k) (fun w hw => fine w hw) i o hi ho
        · have hi' : i = A.length + 1 := by have := lt_of_some ho; omega
          subst hi'
          rw [hgs'] at ho; injection ho with ho; subst ho
          rw [clD _ (Nat.le_refl _), clD', act2, v2s, ks]
          refine .inr ⟨by unfold Region.wanted; rw [hgs], .inr (.inr ⟨rfl, rfl, fun w hw => ?_⟩)⟩
          exact run_sto (hrunS w hw) hw (mget_keys hold) hro
      · intro w hw
        rw [hpos, clD'] at hw
        rw [hpos, act3]
        subst h10
        refine ⟨rfl, ?_, β1, by rw [← en]; exact hb1, ⟨fun β' hb => ?_, hTn.asm, by rw [put_defers, put_defers]; exact hTn.dfr⟩, hw⟩
        · show s.nxt ≤ s1.nxt + 1
          omega
        · exact put_den (hT2.tmps β' hb) os.dst uninit
    | _ => cases h8
  | _ => cases h6

theorem codeRegion_ok (hc : CallOk ι call) (H : Hyp c ι) (id : Nat) (ops : Array Oper) (draw : Bool) : CodeOk c w0 X ι (.region id ops draw) (fun s => codeRegion call c ops draw s) := by
  intro s e s' β a w h hT hM
  cases draw with
  | false =>
    have h : ((execOps call c ops.toList ops.toList s).bind fun s => .leaf (.normal, s)).pick ι = some (e, s') := h
    obtain ⟨s1, h1, h2⟩ := (pick_bind _ _ _).1 h
    have h2 : some (Exit.normal, s1) = some (e, s') := h2
    injection h2 with h2; injection h2 with e1 e2; subst e1; subst e2
    exact wp_region_list (execOps_ok hc H ops.toList s β a w h1 hT hM fun β1 a' w' hb hn hT' hM' => ⟨rfl, hn, β1, hb, hT', hM'⟩)
  | true =>
    have h : (match allocEnd ops.toList with
      | some x => codeRegionA call c ops x.1 x.2.1 x.2.2 s
      | none => fcS (kindsOf ops.toList) fun kd => T.chk (commB ops (nthN kd)) ((execD call c ops.toList kd ops.toList 0 [] [] s).bind fun s => .leaf (.normal, s))).pick ι = some (e, s') := h
    split at h
    · rename_i x hx
      exact codeRegionA_ok hc H id ops hx s e s' β a w h hT hM
    rw [fcS_eq] at h
    obtain ⟨hcom, h0⟩ := pick_chk h
    obtain ⟨s1, h1, h2⟩ := (pick_bind _ _ _).1 h0
    have h2 : some (Exit.normal, s1) = some (e, s') := h2
    injection h2 with h2; injection h2 with e1 e2; subst e1; subst e2
    obtain ⟨en, Lf, Sf, val, mems, _, _, hap, m0, mn, hTn, hst⟩ := execD_ok hc H ops.toList 0 [] [] s a _ h1 hT hM.drawn
    have hlen : ops.toList.length = ops.size := by simp
    rw [hlen] at mn hTn
    rw [actF_actL] at hTn
    refine wp_region_comm (val := val) (cl := fun m => StM c w0 X ι β (mems m) s.nxt) H.mixed hcom (stepD_of hap hst) (by show StM c w0 X ι β (mems 0) s.nxt _; rw [m0]; exact hM.drawn) fun w' hw' => ⟨rfl, Nat.le_of_eq en.symm, β, Agree.refl _ _, hTn, ?_⟩
    have hw' : StM c w0 X ι β (mems ops.size) s.nxt w' := hw'
    rw [mn] at hw'; rw [en]; exact hw'

theorem codeSeq_ok {x y : Code} {f g : St → T (Exit × St)} (hx : CodeOk c w0 X ι x f) (hy : CodeOk c w0 X ι y g) : CodeOk c w0 X ι (.seq x y) (fun s => (f s).bind (codeSeq g)) := by
  intro s e s' β a w h hT hM
  obtain ⟨⟨e1, s1⟩, h1, h2⟩ := (pick_bind _ _ _).1 h
  refine wp_seq (Code.wp_mono ?_ (hx s e1 s1 β a w h1 hT hM))
  rintro e' a' w' ⟨rfl, hn, β1, hb, hT1, hM1⟩
  unfold codeSeq at h2
  cases e' with
  | normal => exact Code.wp_mono (fun e'' a'' w'' h => h.trans hn hb) (hy s1 e s' β1 a' w' h2 hT1 hM1)
  | _ =>
    have h2 : some (_, s1) = some (e, s') := h2
    injection h2 with h2; injection h2 with e1 e2; subst e1; subst e2
    exact ⟨rfl, hn, β1, hb, hT1, hM1⟩

theorem codeCond_ok {q : Operand} {x y : Code} {f g : St → T (Exit × St)} (hx : CodeOk c w0 X ι x f) (hy : CodeOk c w0 X ι y g) : CodeOk c w0 X ι (.cond q x y) (fun s => codeCond q f g s) := by
  intro s e s' β a w h hT hM
  have h : (codeCond q f g s).pick ι = some (e, s') := h
  unfold codeCond at h
  obtain ⟨v, hv, h1⟩ := pick_opt h
  have ev := evalO_den (hT.tmps β (Agree.refl _ _)) hv
  split at h1
  · rename_i b
    obtain ⟨l, hl, h2 | h2⟩ := pick_ifA hT.asm h1
    · exact wp_cond_true (by rw [ev]; simp only [SV.den, h2.1]) (hx { s with asm := l } e s' β a w h2.2 ⟨hT.tmps, hl, hT.dfr⟩ hM)
    · exact wp_cond_false (by rw [ev]; simp only [SV.den, h2.1]) (hy { s with asm := l } e s' β a w h2.2 ⟨hT.tmps, hl, hT.dfr⟩ hM)
  · cases h1

theorem codeBlock_ok {id : Nat} {x : Code} {f : St → T (Exit × St)} (hx : CodeOk c w0 X ι x f) : CodeOk c w0 X ι (.block id x) (fun s => (f s).bind (codeBlock id)) := by
  intro s e s' β a w h hT hM
  obtain ⟨⟨e1, s1⟩, h1, h2⟩ := (pick_bind _ _ _).1 h
  refine wp_block (Code.wp_mono ?_ (hx s e1 s1 β a w h1 hT hM))
  rintro e' a' w' ⟨rfl, hn, β1, hb, hT1, hM1⟩
  unfold codeBlock at h2
  cases e' with
  | exit id' =>
    simp only at h2
    unfold Exit.inBlock
    simp only
    split
    · rename_i hid
      rw [if_pos hid] at h2
      have h2 : some (Exit.normal, s1) = some (e, s') := h2
      injection h2 with h2; injection h2 with e1 e2; subst e1; subst e2
      exact ⟨rfl, hn, β1, hb, hT1, hM1⟩
    · rename_i hid
      rw [if_neg hid] at h2
      have h2 : some (Exit.exit id', s1) = some (e, s') := h2
      injection h2 with h2; injection h2 with e1 e2; subst e1; subst e2
      exact ⟨rfl, hn, β1, hb, hT1, hM1⟩
  | _ =>
    have h2 : some (_, s1) = some (e, s') := h2
    injection h2 with h2; injection h2 with e1 e2; subst e1; subst e2
    exact ⟨rfl, hn, β1, hb, hT1, hM1⟩

theorem codeScope_ok {x : Code} {f : St → T (Exit × St)} (hx : CodeOk c w0 X ι x f) : CodeOk c w0 X ι (.scope x) (fun s => (f s).bind codeScope) := by
  intro s e s' β a w h hT hM
  obtain ⟨⟨e1, s1⟩, h1, h2⟩ := (pick_bind _ _ _).1 h
  refine wp_scope_straight (Code.wp_mono ?_ (hx s e1 s1 β a w h1 hT hM))
  rintro e' a' w' ⟨rfl, hn, β1, hb, hT1, hM1⟩
  unfold codeScope at h2
  cases e' with
  | goto l => cases h2
  | _ =>
    have h2 : some (_, s1) = some (e, s') := h2
    injection h2 with h2; injection h2 with e1 e2; subst e1; subst e2
    exact ⟨rfl, hn, β1, hb, hT1, hM1⟩

theorem loopN_ok {x : Code} {f : St → T (Exit × St)} (hx : CodeOk c w0 X ι x f) : ∀ (n : Nat) (s : St) (e : Exit) (s' : St) (β : Bt) (a : Act) (w : World), (loopN f n s).pick ι = some (e, s') → OkT ι β s a → StM c w0 X ι β s.mem s.nxt w →
    Code.rounds c.P x (Post c w0 X ι β s.nxt e s') n a w
  | 0, s, e, s', β, a, w, h, hT, hM => by cases h
  | n + 1, s, e, s', β, a, w, h, hT, hM => by
    have h : ((f s).bind fun (e, s) => match Ex.isNormal e with | true => loopN f n s | false => .leaf (e, s)).pick ι = some (e, s') := h
    obtain ⟨⟨e1, s1⟩, h1, h2⟩ := (pick_bind _ _ _).1 h
    refine Code.wp_mono ?_ (hx s e1 s1 β a w h1 hT hM)
    rintro e' a' w' ⟨rfl, hn, β1, hb, hT1, hM1⟩
    cases e' with
    | normal =>
      have h2 : (loopN f n s1).pick ι = some (e, s') := h2
      have := loopN_ok hx n s1 e s' β1 a' w' h2 hT1 hM1
      exact rounds_mono (fun e'' a'' w'' h => h.trans hn hb) this
    | _ =>
      have h2 : some (_, s1) = some (e, s') := h2
      injection h2 with h2; injection h2 with e1 e2; subst e1; subst e2
      exact ⟨rfl, hn, β1, hb, hT1, hM1⟩
where
  rounds_mono {P : Program} {x : Code} {Q Q' : Exit → Act → World → Prop} (hq : ∀ e a w, Q e a w → Q' e a w) : ∀ {n : Nat} {a : Act} {w : World}, Code.rounds P x Q n a w → Code.rounds P x Q' n a w
    | 0, _, _, h => h
    | n + 1, _, _, h => Code.wp_mono (fun e a w h => by
      cases e with
      | normal => exact rounds_mono hq h
      | _ => exact hq _ _ _ h) h

theorem execCode_ok (hc : CallOk ι call) (H : Hyp c ι) (n cur : Nat) (code : Code) (hlp : ∀ x ∈ loopsOf code, ∀ F, lpAt c cur (firstRid x) = some F → CodeOk c w0 X ι (.loop x) F) : CodeOk c w0 X ι code (execCode call c n cur code) := by
  induction code with
  | skip =>
    intro s e s' β a w h hT hM
    have h : some (Exit.normal, s) = some (e, s') := h
    injection h with h; injection h with e1 e2; subst e1; subst e2
    exact wp_skip ⟨rfl, Nat.le_refl _, β, Agree.refl _ _, hT, hM⟩
  | region id ops draw => exact codeRegion_ok hc H id ops draw
  | seq x y hx hy => exact codeSeq_ok (hx fun z hz => hlp z (List.mem_append_left _ hz)) (hy fun z hz => hlp z (List.mem_append_right _ hz))
  | cond q x y hx hy => exact codeCond_ok (hx fun z hz => hlp z (List.mem_append_left _ hz)) (hy fun z hz => hlp z (List.mem_append_right _ hz))
  | block id x hx => exact codeBlock_ok (hx hlp)
  | loop x hx =>
    intro s e s' β a w h hT hM
    have h : (match lpAt c cur (firstRid x) with | some F => F s | none => loopN (execCode call c n cur x) n s).pick ι = some (e, s') := h
    split at h
    · rename_i F hF
      exact hlp x (List.mem_cons_self ..) F hF s e s' β a w h hT hM
    · exact wp_loop_rounds n (loopN_ok (hx fun z hz => hlp z (List.mem_cons_of_mem _ hz)) n s e s' β a w h hT hM)
  | rangeFunc f params assign body h1 h2 =>
    intro s e s' β a w h hT hM
    cases h
  | exit id =>
    intro s e s' β a w h hT hM
    have h : some (Exit.exit id, s) = some (e, s') := h
    injection h with h; injection h with e1 e2; subst e1; subst e2
    exact wp_exit ⟨rfl, Nat.le_refl _, β, Agree.refl _ _, hT, hM⟩
  | scope x hx => exact codeScope_ok (hx hlp)
  | label l =>
    intro s e s' β a w h hT hM
    have h : some (Exit.normal, s) = some (e, s') := h
    injection h with h; injection h with e1 e2; subst e1; subst e2
    exact wp_label ⟨rfl, Nat.le_refl _, β, Agree.refl _ _, hT, hM⟩
  | goto l =>
    intro s e s' β a w h hT hM
    cases h
  | ret =>
    intro s e s' β a w h hT hM
    have h : some (Exit.ret, s) = some (e, s') := h
    injection h with h; injection h with e1 e2; subst e1; subst e2
    exact wp_ret ⟨rfl, Nat.le_refl _, β, Agree.refl _ _, hT, hM⟩
  | refuse why =>
    intro s e s' β a w h hT hM
    cases h

/-! ### Calls -/
def resF (tmps : Array Value) (r : ResultVar) : Sem Value := match r with | .tmp t => pure (tmps.getD t undef) | .cell b t => do loadVar t (← asAddr (tmps.getD b undef))
theorem resultSV_ok {s : St} {a : Act} {r : ResultVar} {v : SV} (ht : a.tmps.toList = SV.denL ι β s.tmps) (hM : AbsM c w0 X ι β s.mem s.nxt w) (h : resultSV c s r = some v) :
    (resF a.tmps r).run c.P w = .ok (v.den ι β) w := by
  unfold resF
  cases r with
  | tmp t =>
    have h : some ((nthSV s.tmps t).getD uninit) = some v := h
    injection h with h; subst h
    have := evalO_den (x := .tmp t) ht rfl
    simp only [Act.eval] at this
    simp only [this, Sem.run_pure]
  | cell b t =>
    simp only [resultSV] at h
    split at h
    · rename_i b' off hb
      have := evalO_den (x := .tmp b) (v := .ptr b' off) ht (by show some _ = some _; rw [hb]; rfl)
      simp only [Act.eval] at this
      simp only [this, SV.den, asAddr, Sem.run_bind, Sem.run_pure, Result.andThen_ok]
      unfold loadSV at h
      simp only [cellsAt] at h
      split at h
      · rename_i cs off' hc
        split at hc
        · rename_i cs' hg
          injection hc with hc; injection hc with e1 e2; subst e1; subst e2
          exact run_loadVar (hM.cell (mget_mem _ _ _ hg)) h
        · cases hc
      · cases h
    · cases h

theorem resultsSV_ok {s : St} {a : Act} {F : ResultVar → Sem Value} (hF : ∀ r, F r = resF a.tmps r) (ht : a.tmps.toList = SV.denL ι β s.tmps) (hM : AbsM c w0 X ι β s.mem s.nxt w) : ∀ {rs : List ResultVar} {vs : List SV}, resultsSV c s rs = some vs →
    (rs.mapM (m := Sem) F).run c.P w = .ok (SV.denL ι β vs) w
  | [], vs, h => by
    simp only [resultsSV] at h
    injection h with h; subst h
    rfl
  | r :: rs, vs, h => by
    simp only [resultsSV] at h
    split at h
    · rename_i v l e1 e2
      injection h with h; subst h
      have h1 := resultSV_ok ht hM e1
      have h2 := resultsSV_ok hF ht hM e2
      rw [List.mapM_cons]
      simp only [Sem.run_bind, Sem.run_pure]
      rw [hF, h1]
      simp only [Result.andThen_ok]
      rw [h2]
      rfl
    · cases h

theorem results_ok {s : St} {a : Act} {fn : Func} {vs : List SV} (ht : a.tmps.toList = SV.denL ι β s.tmps) (hM : AbsM c w0 X ι β s.mem s.nxt w) (h : resultsSV c s fn.results.toList = some vs) :
    (results fn a.tmps).run c.P w = .ok ((tupSV vs).den ι β) w := by
  unfold results
  rw [Array.mapM_eq_mapM_toList]
  simp only [Sem.run_bind, Sem.run_map]
  rw [resultsSV_ok (a := a) (fun r => by cases r <;> rfl) ht hM h]
  simp only [Result.andThen_ok, Sem.run_pure]
  congr 1
  cases vs with
  | nil => simp [tupSV, SV.den, SV.denL]
  | cons v vs =>
    cases vs with
    | nil => simp [tupSV, SV.denL]
    | cons v' vs => simp [tupSV, SV.den, SV.denL]

theorem callIn_ok (hc : CallOk ι call) (n : Nat) : CallOk ι (callIn call n) := by
  intro c H w0 X β g args mem nxt asm w v mem' nxt' asm' hl hs hM h
  unfold callIn at h
  obtain ⟨fn, hfn, h1⟩ := pick_opt h
  obtain ⟨code, hcode, h2⟩ := pick_opt h1
  simp only [fcS_eq] at h2
  obtain ⟨⟨e, s'⟩, h3, h4⟩ := (pick_bind _ _ _).1 h2
  refine calls_of_wp hfn hcode (Code.wp_mono ?_ (execCode_ok hc H n g code (fun x hx F hF => by
    unfold lpAt at hF
    split at hF
    · rename_i hro
      have hro := Nat.eq_of_beq_eq_true hro
      have := H.lps g _ F hF fn code hfn hcode x hx rfl w0 X
      rw [← hro] at this
      exact this
    · cases hF) _ e s' β _ w h3 ⟨fun β' hb => ?_, hl, rfl⟩ hM))
  · rintro e' a' w' ⟨rfl, hn, β1, hb, hT, hM'⟩
    have fin : (T.opt (resultsSV c s' fn.results.toList) fun vs => T.leaf (tupSV vs, s'.mem, s'.nxt, s'.asm)).pick ι = some (v, mem', nxt', asm') →
        a'.defers = [] ∧ ∃ u, (results fn a'.tmps).run c.P w' = .ok u w' ∧ (AsmOk ι asm' ∧ nxt ≤ nxt' ∧ ∃ β1, Agree nxt β β1 ∧ (∀ β', Agree nxt' β1 β' → Ending.returned u = .returned (v.den ι β')) ∧ StM c w0 X ι β1 mem' nxt' w') := by
      intro h
      obtain ⟨vs, hvs, h5⟩ := pick_opt h
      have h5 : some (tupSV vs, s'.mem, s'.nxt, s'.asm) = some (v, mem', nxt', asm') := h5
      injection h5 with h5; injection h5 with e1 h5; injection h5 with e2 h5; injection h5 with e3 e4
      subst e1; subst e2; subst e3; subst e4
      have hr : ∀ β', Agree s'.nxt β1 β' → (results fn a'.tmps).run c.P w' = .ok ((tupSV vs).den ι β') w' := fun β' hb' => results_ok (hT.tmps β' hb') (hM' β' hb') hvs
      refine ⟨hT.dfr, _, hr β1 (Agree.refl _ _), hT.asm, hn, β1, hb, fun β' hb' => ?_, hM'⟩
      have h0 := hr β1 (Agree.refl _ _)
      rw [hr β' hb'] at h0
      injection h0 with h0 _
      rw [h0]
    unfold callEnd at h4
    cases e' with
    | normal => exact fin h4
    | ret => exact fin h4
    | _ => cases h4
  · show (_ ++ _ : Array Value).toList = _
    rw [denL_append, hs β' hb]
    simp only [Array.toList_append, Array.toList_replicate]
    congr 1
    simp [denL_map, uninit_den]

theorem execCall_ok (n : Nat) : ∀ d, CallOk ι (execCall n d)
  | 0 => fun c H w0 X β g args mem nxt asm w v mem' nxt' asm' hl hs hM h => by cases h
  | d + 1 => callIn_ok (execCall_ok n d) n
end
end Go.Proofs.YtjmpoiafcdphbaaSx
