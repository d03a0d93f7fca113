/- Loops that are told of: what holds at each round's head, and what is so behind the last one. -/
import Derived.Test.YtkglnkfoeedmoaaSy21
namespace Go.Proofs.YtkglnkfoeedmoaaSy
open Go.RowKit
set_option linter.unusedVariables false
set_option linter.unusedSimpArgs false
mutual
def sameV : SV → SV → Bool
  | .int k e, .int k' e' => eqK k k' && eqE e e'
  | .bool b, .bool b' => eqB b b'
  | .ptr b o, .ptr b' o' => Nat.beq b b' && Nat.beq o o'
  | .nilptr, .nilptr => true
  | .nilslice, .nilslice => true
  | .slc n, .slc m => Nat.beq n m
  | .opq n, .opq m => Nat.beq n m
  | .any n, .any m => Nat.beq n m
  | .agg xs, .agg ys => sameL xs ys
  | .tup xs, .tup ys => sameL xs ys
  | _, _ => false
def sameL : List SV → List SV → Bool
  | [], [] => true
  | x :: xs, y :: ys => sameV x y && sameL xs ys
  | _, _ => false
end
mutual
theorem sameV_eq : ∀ x y : SV, sameV x y = true → x = y
  | .int k e, y, h => by
    cases y <;> simp only [sameV] at h <;> try (cases h)
    simp only [Bool.and_eq_true] at h
    have hk : k = _ := of_decide_eq_true h.1
    rw [hk, eqE_eq _ _ h.2]
  | .bool b, y, h => by
    cases y <;> simp only [sameV] at h <;> try (cases h)
    rw [eqB_eq _ _ h]
  | .ptr b o, y, h => by
    cases y <;> simp only [sameV] at h <;> try (cases h)
    simp only [Bool.and_eq_true] at h
    rw [Nat.eq_of_beq_eq_true h.1, Nat.eq_of_beq_eq_true h.2]
  | .nilptr, y, h => by cases y <;> simp only [sameV] at h <;> first | rfl | cases h
  | .nilslice, y, h => by cases y <;> simp only [sameV] at h <;> first | rfl | cases h
  | .slc n, y, h => by
    cases y <;> simp only [sameV] at h <;> try (cases h)
    rw [Nat.eq_of_beq_eq_true h]
  | .opq n, y, h => by
    cases y <;> simp only [sameV] at h <;> try (cases h)
    rw [Nat.eq_of_beq_eq_true h]
  | .any n, y, h => by
    cases y <;> simp only [sameV] at h <;> try (cases h)
    rw [Nat.eq_of_beq_eq_true h]
  | .agg xs, y, h => by
    cases y <;> simp only [sameV] at h <;> try (cases h)
    rw [sameL_eq _ _ h]
  | .tup xs, y, h => by
    cases y <;> simp only [sameV] at h <;> try (cases h)
    rw [sameL_eq _ _ h]
  | .ptx _ _ _, y, h => by cases y <;> simp only [sameV] at h <;> cases h
  | .gptr _ _, y, h => by cases y <;> simp only [sameV] at h <;> cases h
  | .slice _ _ _ _, y, h => by cases y <;> simp only [sameV] at h <;> cases h
  | .func _ _ _, y, h => by cases y <;> simp only [sameV] at h <;> cases h
  | .nilfunc, y, h => by cases y <;> simp only [sameV] at h <;> cases h
  | .nilif, y, h => by cases y <;> simp only [sameV] at h <;> cases h
  | .str _, y, h => by cases y <;> simp only [sameV] at h <;> cases h
  | .rptr _ _ _ _, y, h => by cases y <;> simp only [sameV] at h <;> cases h
theorem sameL_eq : ∀ xs ys : List SV, sameL xs ys = true → xs = ys
  | [], [], _ => rfl
  | x :: xs, y :: ys, h => by
    simp only [sameL, Bool.and_eq_true] at h
    rw [sameV_eq x y h.1, sameL_eq xs ys h.2]
  | [], _ :: _, h => by cases h
  | _ :: _, [], h => by cases h
end

structure LoopSpec where
  nt : Nat
  nxt : Nat
  live : List (Nat × SV)
  mem : Mem
  head : List SV
  headM : Mem
  headA : Asm
  out : List SV
  outM : Mem
  outA : Asm
  ex : Exit
noncomputable def liveOk (tmps : List SV) : List (Nat × SV) → Bool
  | [] => true
  | x :: l => (match nthSV tmps x.1 with | some v => sameV v x.2 | none => false) && liveOk tmps l
noncomputable def memOk (m : Mem) : Mem → Bool
  | [] => true
  | x :: l => (match mget x.1 m with | some cs => sameL cs x.2 | none => false) && memOk m l
def lenB : List SV → Nat → Bool
  | [], 0 => true
  | _ :: l, n + 1 => lenB l n
  | _, _ => false
theorem lenB_eq : ∀ {l : List SV} {n : Nat}, lenB l n = true → l.length = n
  | [], 0, _ => rfl
  | _ :: l, n + 1, h => by simp [lenB_eq (l := l) (n := n) h]
  | [], _ + 1, h => by cases h
  | _ :: _, 0, h => by cases h
noncomputable def loopF (L : LoopSpec) : LoopF := fun s =>
  T.chk (Nat.beq s.nxt L.nxt && (lenB s.tmps L.nt && (liveOk s.tmps L.live && memOk s.mem L.mem))) (.leaf (L.ex, { tmps := L.out, mem := L.outM, nxt := L.nxt + L.nt, asm := L.outA }))

/-- Slots: any value, or one that is known. -/
def slotsOk (nxt : Nat) : List SV → Nat → Bool
  | [], _ => true
  | .any n :: l, i => Nat.beq n (nxt + i) && slotsOk nxt l (i + 1)
  | v :: l, i => v.under nxt && slotsOk nxt l (i + 1)
def memUnder (nxt : Nat) : Mem → Bool
  | [] => true
  | x :: l => Nat.blt x.1 nxt && (SV.underL nxt x.2 && memUnder nxt l)
def keysB : Mem → Bool
  | [] => true
  | x :: l => l.all (fun y => !Nat.beq y.1 x.1) && keysB l
theorem slotsOk_get {nxt : Nat} : ∀ {l : List SV} {i : Nat}, slotsOk nxt l i = true → ∀ {j : Nat} {v : SV}, l[j]? = some v → v = SV.any (nxt + (i + j)) ∨ ((∀ n, v ≠ SV.any n) ∧ v.under nxt = true)
  | [], _, _, j, v, h => by simp at h
  | x :: l, i, h, j, v, hj => by
    have hx : (x = SV.any (nxt + i) ∨ ((∀ n, x ≠ SV.any n) ∧ x.under nxt = true)) ∧ slotsOk nxt l (i + 1) = true := by
      cases x <;> simp only [slotsOk, Bool.and_eq_true] at h
      case any n => exact ⟨.inl (by rw [Nat.eq_of_beq_eq_true h.1]), h.2⟩
      all_goals exact ⟨.inr ⟨fun n hn => (by cases hn), h.1⟩, h.2⟩
    cases j with
    | zero =>
      simp only [List.getElem?_cons_zero, Option.some.injEq] at hj
      subst hj; exact hx.1
    | succ j =>
      simp only [List.getElem?_cons_succ] at hj
      have := slotsOk_get hx.2 hj
      rw [Nat.add_assoc, Nat.add_comm 1 j] at this
      exact this
theorem memUnder_get {nxt : Nat} : ∀ {M : Mem}, memUnder nxt M = true → ∀ {b : Nat} {cs : List SV}, (b, cs) ∈ M → b < nxt ∧ SV.underL nxt cs = true
  | [], _, _, _, h => by cases h
  | x :: M, h, b, cs, hm => by
    simp only [memUnder, Bool.and_eq_true] at h
    rcases List.mem_cons.1 hm with e | hm
    · subst e; exact ⟨by have := h.1; simp [Nat.blt] at this; omega, h.2.1⟩
    · exact memUnder_get h.2.2 hm
theorem keysB_nodup : ∀ {M : Mem}, keysB M = true → (M.map (·.1)).Nodup
  | [], _ => List.nodup_nil
  | x :: M, h => by
    simp only [keysB, Bool.and_eq_true] at h
    rw [List.map_cons, List.nodup_cons]
    refine ⟨fun hm => ?_, keysB_nodup h.2⟩
    obtain ⟨y, hy, e⟩ := List.mem_map.1 hm
    have := List.all_eq_true.1 h.1 y hy
    rw [e] at this
    simp at this
/-- The state's slots and blocks are those, seen from another environment. -/
structure Tie (ι' : Env) (s' : St) (ι'' : Env) (nt : Nat) (tm : List SV) (M : Mem) : Prop where
  len : s'.tmps.length = nt
  slot : ∀ (i : Nat) (v : SV), tm[i]? = some v → (∀ n, v ≠ SV.any n) → ∃ x : SV, s'.tmps[i]? = some x ∧ ∀ β, v.den ι'' β = x.den ι' β
  blk : ∀ b cs, (b, cs) ∈ M → ∃ cs', (b, cs') ∈ s'.mem ∧ ∀ β, SV.denL ι'' β cs = SV.denL ι' β cs'
section
variable {c : Ctx} {w0 : World} {X : Nat → Prop}
theorem retie {ι' ι'' : Env} {β1 : Bt} {s' : St} {a : Act} {w : World} {nxt nt : Nat} {tm : List SV} {M : Mem} {A : Asm} (hg : c.glob = []) (hT : OkT ι' β1 s' a) (hM : StM c w0 X ι' β1 s'.mem s'.nxt w) (ht : Tie ι' s' ι'' nt tm M)
    (hl : tm.length = nt) (hs : slotsOk nxt tm 0 = true) (hm : memUnder nxt M = true) (hk : keysB M = true) (hA : AsmOk ι'' A) :
    ∃ β2, Agree nxt β1 β2 ∧ OkT ι'' β2 { tmps := tm, mem := M, nxt := nxt + nt, asm := A } a ∧ StM c w0 X ι'' β2 M (nxt + nt) w := by
  let β2 : Bt := ⟨β1.blk, fun i => if nxt ≤ i ∧ i < nxt + nt then .iface 0 (a.tmps.getD (i - nxt) undef) else β1.val i, fun i => by split; rfl; exact β1.one _⟩
  have hag : Agree nxt β1 β2 := fun i hi => ⟨rfl, by show (if _ then _ else _) = _; rw [if_neg (by omega)]⟩
  have h1 := hT.tmps β1 (Agree.refl _ _)
  refine ⟨β2, hag, ⟨fun β' hb => ?_, hA, hT.dfr⟩, fun β' hb => ?_⟩
  · apply List.ext_getElem?
    intro i
    rw [denL_get]
    show _ = (tm[i]?).map _
    cases hv : tm[i]? with
    | none =>
      have hge : tm.length ≤ i := List.getElem?_eq_none_iff.1 hv
      rw [h1, List.getElem?_eq_none (by rw [denL_length, ht.len]; omega)]; rfl
    | some v =>
      have hin : i < tm.length := by
        rcases Nat.lt_or_ge i tm.length with h | h
        · exact h
        · rw [List.getElem?_eq_none h] at hv; cases hv
      simp only [Option.map_some]
      rcases slotsOk_get hs hv with e | ⟨hna, hu⟩
      · rw [Nat.zero_add] at e
        subst e
        have hsz : i < a.tmps.size := by rw [← Array.length_toList, h1, denL_length, ht.len]; omega
        simp only [SV.den]
        have e2 : β'.val (nxt + i) = .iface 0 (a.tmps.getD i undef) := by
          rw [(hb (nxt + i) (by show _ < nxt + nt; omega)).2]
          show (if _ then _ else _) = _
          rw [if_pos (by omega), Nat.add_sub_cancel_left]
        rw [e2]
        simp only [unbox]
        simp [Array.getD_eq_getD_getElem?, hsz]
      · obtain ⟨x, hx, hden⟩ := ht.slot i v hv hna
        rw [h1, denL_get, hx]
        simp only [Option.map_some]
        rw [← hden β1]
        have := under_den (ι := ι'') (hag.trans (hb.mono (Nat.le_add_right _ _)) (Nat.le_refl _)) v hu
        rw [this]
  · have k := hM β1 (Agree.refl _ _)
    have hbl : ∀ b, b < nxt → β'.blk b = β1.blk b := fun b h => (hb b (by omega)).1
    have keys : ∀ b, b ∈ M.map (·.1) → b < nxt ∧ b ∈ s'.mem.map (·.1) := by
      intro b hbm
      obtain ⟨⟨b', cs⟩, hmm, rfl⟩ := List.mem_map.1 hbm
      obtain ⟨cs', h2, _⟩ := ht.blk b' cs hmm
      exact ⟨(memUnder_get hm hmm).1, List.mem_map.2 ⟨_, h2, rfl⟩⟩
    refine ⟨fun b cs hmm => ?_, fun b b' hb1 hb2 he => ?_, keysB_nodup hk, fun b hb1 => ?_, fun b hb1 hro => ?_, fun g cs h => ?_, k.fr, k.base⟩
    · obtain ⟨hlt, hun⟩ := memUnder_get hm hmm
      obtain ⟨cs', h2, hden⟩ := ht.blk b cs hmm
      obtain ⟨T, hT'⟩ := k.blocks b cs' h2
      refine ⟨T, ?_⟩
      rw [hbl b hlt, hT', ← hden β1, underL_den (ι := ι'') (hag.trans (hb.mono (Nat.le_add_right _ _)) (Nat.le_refl _)) cs hun]
    · rw [hbl b (keys b hb1).1, hbl b' (keys b' hb2).1] at he
      exact k.inj b b' (keys b hb1).2 (keys b' hb2).2 he
    · have := (keys b hb1).1; omega
    · rw [hbl b (keys b hb1).1]
      exact k.wr b (keys b hb1).2 hro
    · rw [hg] at h; cases h
theorem liveOk_get {tmps : List SV} : ∀ {l : List (Nat × SV)}, liveOk tmps l = true → ∀ {i : Nat} {v : SV}, (i, v) ∈ l → tmps[i]? = some v
  | [], _, _, _, h => by cases h
  | x :: l, h, i, v, hm => by
    simp only [liveOk, Bool.and_eq_true] at h
    rcases List.mem_cons.1 hm with e | hm
    · subst e
      have h1 := h.1
      rw [nthSV_eq] at h1
      split at h1
      · rename_i u hu
        rw [hu, sameV_eq _ _ h1]
      · cases h1
    · exact liveOk_get h.2 hm
theorem memOk_get {m : Mem} : ∀ {l : Mem}, memOk m l = true → ∀ {b : Nat} {cs : List SV}, (b, cs) ∈ l → (b, cs) ∈ m
  | [], _, _, _, h => by cases h
  | x :: l, h, b, cs, hm => by
    simp only [memOk, Bool.and_eq_true] at h
    rcases List.mem_cons.1 hm with e | hm
    · subst e
      have h1 := h.1
      split at h1
      · rename_i u hu
        have := mget_mem _ _ _ hu
        rw [sameL_eq _ _ h1] at this; exact this
      · cases h1
    · exact memOk_get h.2 hm
def headSt (L : LoopSpec) : St := { tmps := L.head, mem := L.headM, nxt := L.nxt + L.nt, asm := L.headA }
def outSt (L : LoopSpec) : St := { tmps := L.out, mem := L.outM, nxt := L.nxt + L.nt, asm := L.outA }
/-- What is asked of a told loop's lists. -/
def LoopSpec.fine (L : LoopSpec) : Bool :=
  lenB L.head L.nt && (lenB L.out L.nt && (slotsOk L.nxt L.head 0 && (slotsOk L.nxt L.out 0 && (memUnder L.nxt L.headM && (memUnder L.nxt L.outM && (keysB L.headM && keysB L.outM))))))
theorem loop_told {ι : Env} {L : LoopSpec} {B : Code} {fB : St → T (Exit × St)} (hg : c.glob = []) (hf : L.fine = true) (Inv : Env → Prop) (μ : Env → Nat)
    (hB : ∀ ι', Inv ι' → CodeOk c w0 X ι' B fB)
    (entry : ∃ ι0, Inv ι0 ∧ AsmOk ι0 L.headA ∧ (∀ (i : Nat) (v : SV), L.head[i]? = some v → (∀ n, v ≠ SV.any n) → ∃ x : SV, (i, x) ∈ L.live ∧ ∀ β, v.den ι0 β = x.den ι β) ∧ (∀ b cs, (b, cs) ∈ L.headM → ∃ cs', (b, cs') ∈ L.mem ∧ ∀ β, SV.denL ι0 β cs = SV.denL ι β cs'))
    (step : ∀ ι', Inv ι' → ∃ e s', (fB (headSt L)).pick ι' = some (e, s') ∧
      ((e = .normal ∧ ∃ ι'', Inv ι'' ∧ μ ι'' < μ ι' ∧ AsmOk ι'' L.headA ∧ Tie ι' s' ι'' L.nt L.head L.headM) ∨ (e = L.ex ∧ L.ex ≠ .normal ∧ AsmOk ι L.outA ∧ Tie ι' s' ι L.nt L.out L.outM))) :
    CodeOk c w0 X ι (.loop B) (loopF L) := by
  intro s e s' β a w h hT hM
  unfold LoopSpec.fine at hf
  simp only [Bool.and_eq_true] at hf
  obtain ⟨f1, f2, f3, f4, f5, f6, f7, f8⟩ := hf
  have f1 := lenB_eq f1
  have f2 := lenB_eq f2
  have h : (T.chk _ (T.leaf _)).pick ι = some (e, s') := h
  obtain ⟨hchk, h⟩ := pick_chk h
  simp only [Bool.and_eq_true] at hchk
  obtain ⟨c1, c2, c3, c4⟩ := hchk
  have c1 := Nat.eq_of_beq_eq_true c1
  have c2 := lenB_eq c2
  have h : some (L.ex, outSt L) = some (e, s') := h
  injection h with h; injection h with e1 e2; subst e1; subst e2
  have rounds : ∀ (n : Nat) (ι' : Env) (β' : Bt) (a' : Act) (w' : World), μ ι' < n → Inv ι' → Agree L.nxt β β' → OkT ι' β' (headSt L) a' → StM c w0 X ι' β' L.headM (L.nxt + L.nt) w' →
      Code.rounds c.P B (Post c w0 X ι β s.nxt L.ex (outSt L)) n a' w' := by
    intro n
    induction n with
    | zero => intro ι' β' a' w' hμ; omega
    | succ n ih =>
      intro ι' β' a' w' hμ hI hag hT' hM'
      obtain ⟨e, s1, hp, hcase⟩ := step ι' hI
      refine Code.wp_mono ?_ (hB ι' hI (headSt L) e s1 β' a' w' hp hT' hM')
      rintro e' a2 w2 ⟨rfl, hn, β1, hb1, hT1, hM1⟩
      have hag1 : Agree L.nxt β β1 := hag.trans (hb1.mono (by show L.nxt ≤ L.nxt + L.nt; omega)) (Nat.le_refl _)
      rcases hcase with ⟨he, ι'', hI'', hμ'', hA, htie⟩ | ⟨he, hne, hA, htie⟩
      · subst he
        obtain ⟨β2, hag2, hT2, hM2⟩ := retie hg hT1 hM1 htie f1 f3 f5 f7 hA
        exact ih ι'' β2 a2 w2 (by omega) hI'' (hag1.trans hag2 (Nat.le_refl _)) hT2 hM2
      · have fin : Post c w0 X ι β s.nxt L.ex (outSt L) e' a2 w2 := by
          obtain ⟨β2, hag2, hT2, hM2⟩ := retie hg hT1 hM1 htie f2 f4 f6 f8 hA
          refine ⟨he, ?_, β2, ?_, hT2, hM2⟩
          · show s.nxt ≤ L.nxt + L.nt
            omega
          · rw [c1]; exact hag1.trans hag2 (Nat.le_refl _)
        rw [he] at fin ⊢
        cases hx : L.ex with
        | normal => exact absurd hx hne
        | _ => rw [hx] at fin; exact fin
  obtain ⟨ι0, hI, hA, hslot, hblk⟩ := entry
  have htie : Tie ι s ι0 L.nt L.head L.headM := ⟨c2, fun i v hv hna => by
      obtain ⟨x, hx, hd⟩ := hslot i v hv hna
      exact ⟨x, liveOk_get c3 hx, hd⟩, fun b cs hm => by
      obtain ⟨cs', h1, hd⟩ := hblk b cs hm
      exact ⟨cs', memOk_get c4 h1, hd⟩⟩
  obtain ⟨β2, hag2, hT2, hM2⟩ := retie (nxt := L.nxt) hg hT hM htie f1 f3 f5 f7 hA
  exact wp_loop_rounds (μ ι0 + 1) (rounds _ ι0 β2 a w (Nat.lt_succ_self _) hI hag2 hT2 hM2)
end
end Go.Proofs.YtkglnkfoeedmoaaSy
