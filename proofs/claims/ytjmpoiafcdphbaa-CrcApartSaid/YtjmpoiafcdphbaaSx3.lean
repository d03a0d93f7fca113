/- What the executor reckons with means what it says: expressions, lists, ways. -/
import Derived.Test.YtjmpoiafcdphbaaSx1
namespace Go.Proofs.YtjmpoiafcdphbaaSx
set_option linter.unusedVariables false
set_option linter.unusedSimpArgs false
section
variable (ι : Env) (β : Bt)

theorem denL_map : ∀ l : List SV, SV.denL ι β l = l.map (SV.den ι β)
  | [] => by simp [SV.denL]
  | v :: vs => by simp [SV.denL, denL_map vs]

@[simp] theorem mkBin_den (op : BinOp) (k : IntKind) (a b : E) : (mkBin op k a b).den ι = den2 op k (a.den ι) (b.den ι) := by
  unfold mkBin; split <;> simp [E.den]
@[simp] theorem mkWrap_den (k : IntKind) (a : E) : (mkWrap k a).den ι = k.wrap (a.den ι) := by
  unfold mkWrap; split <;> simp [E.den]
@[simp] theorem mkMx_den (a b : E) : (mkMx a b).den ι = if a.den ι < b.den ι then b.den ι else a.den ι := by
  unfold mkMx; split <;> rfl
@[simp] theorem mkMn_den (a b : E) : (mkMn a b).den ι = if b.den ι < a.den ι then b.den ι else a.den ι := by
  unfold mkMn; split <;> rfl
@[simp] theorem mkNot_den (a : B) : (mkNot a).den ι = !a.den ι := by
  unfold mkNot; split <;> simp [B.den]
@[simp] theorem mkAnd_den (a b : B) : (mkAnd a b).den ι = (a.den ι && b.den ι) := by
  unfold mkAnd; split <;> simp [B.den]
@[simp] theorem mkOr_den (a b : B) : (mkOr a b).den ι = (a.den ι || b.den ι) := by
  unfold mkOr; split <;> simp [B.den]
@[simp] theorem mkBeq_den (a b : B) : (mkBeq a b).den ι = (a.den ι == b.den ι) := by
  unfold mkBeq; split <;> simp [B.den]
@[simp] theorem mkIteB_den (c a b : B) : (mkIteB c a b).den ι = if c.den ι = true then a.den ι else b.den ι := by
  unfold mkIteB; split <;> simp [B.den]
  all_goals (cases c.den ι <;> simp)

theorem distL_den (f : Int → Bool) : ∀ (e : E) (q : B), distL f e = some q → q.den ι = f (e.den ι)
  | .ite c a b, q, h => by
    simp only [distL] at h
    split at h
    · rename_i p r hp hr
      injection h with h; subst h
      rw [mkIteB_den, distL_den f a p hp, distL_den f b r hr]
      simp only [E.den]
      split <;> rfl
    · cases h
  | .lit x, q, h => by simp only [distL] at h; injection h with h; subst h; rfl
  | .var _, q, h => by cases h
  | .bin _ _ _ _, q, h => by cases h
  | .wrap _ _, q, h => by cases h
  | .mx _ _, q, h => by cases h
  | .mn _ _, q, h => by cases h
  | .slen _, q, h => by cases h
  | .app _ _, q, h => by cases h
theorem orB_den {f : Int → Bool} {e : E} {q : B} (h : q.den ι = f (e.den ι)) : (orB (distL f e) q).den ι = f (e.den ι) := by
  unfold orB
  split
  · rename_i p hp; exact distL_den ι f e p hp
  · exact h
@[simp] theorem mkLt_den (a b : E) : (mkLt a b).den ι = decide (a.den ι < b.den ι) := by
  unfold mkLt
  split
  · rfl
  · rw [orB_den ι (by rfl)]; rfl
  · rw [orB_den ι (by rfl)]; rfl
  · rfl
@[simp] theorem mkLe_den (a b : E) : (mkLe a b).den ι = decide (a.den ι ≤ b.den ι) := by
  unfold mkLe
  split
  · rfl
  · rw [orB_den ι (by rfl)]; rfl
  · rw [orB_den ι (by rfl)]; rfl
  · rfl
@[simp] theorem mkEq_den (a b : E) : (mkEq a b).den ι = decide (a.den ι = b.den ι) := by
  unfold mkEq
  split
  · rfl
  · rw [orB_den ι (by rfl)]; rfl
  · rw [orB_den ι (by rfl)]; rfl
  · rfl

mutual
theorem eqE_eq : ∀ a b : E, eqE a b = true → a = b
  | .lit _, b, h => by cases b <;> simp_all [eqE]
  | .var _, b, h => by cases b <;> simp_all [eqE]
  | .bin o k x y, b, h => by
    cases b <;> simp only [eqE, Bool.false_eq_true, Bool.and_eq_true, eqOp, eqK, decide_eq_true_eq] at h
    obtain ⟨rfl, rfl, h1, h2⟩ := h
    rw [eqE_eq _ _ h1, eqE_eq _ _ h2]
  | .wrap k x, b, h => by
    cases b <;> simp only [eqE, Bool.false_eq_true, Bool.and_eq_true, eqK, decide_eq_true_eq] at h
    obtain ⟨rfl, h1⟩ := h
    rw [eqE_eq _ _ h1]
  | .mx x y, b, h => by
    cases b <;> simp only [eqE, Bool.false_eq_true, Bool.and_eq_true] at h
    rw [eqE_eq _ _ h.1, eqE_eq _ _ h.2]
  | .mn x y, b, h => by
    cases b <;> simp only [eqE, Bool.false_eq_true, Bool.and_eq_true] at h
    rw [eqE_eq _ _ h.1, eqE_eq _ _ h.2]
  | .ite c x y, b, h => by
    cases b <;> simp only [eqE, Bool.false_eq_true, Bool.and_eq_true] at h
    rw [eqB_eq _ _ h.1, eqE_eq _ _ h.2.1, eqE_eq _ _ h.2.2]
  | .slen _, b, h => by cases b <;> simp_all [eqE]
  | .app f x, b, h => by
    cases b <;> simp only [eqE, Bool.false_eq_true, Bool.and_eq_true, decide_eq_true_eq] at h
    obtain ⟨rfl, h1⟩ := h
    rw [eqE_eq _ _ h1]
theorem eqB_eq : ∀ a b : B, eqB a b = true → a = b
  | .lit _, b, h => by cases b <;> simp_all [eqB]
  | .var _, b, h => by cases b <;> simp_all [eqB]
  | .lt x y, b, h => by
    cases b <;> simp only [eqB, Bool.false_eq_true, Bool.and_eq_true] at h
    rw [eqE_eq _ _ h.1, eqE_eq _ _ h.2]
  | .le x y, b, h => by
    cases b <;> simp only [eqB, Bool.false_eq_true, Bool.and_eq_true] at h
    rw [eqE_eq _ _ h.1, eqE_eq _ _ h.2]
  | .eq x y, b, h => by
    cases b <;> simp only [eqB, Bool.false_eq_true, Bool.and_eq_true] at h
    rw [eqE_eq _ _ h.1, eqE_eq _ _ h.2]
  | .not x, b, h => by
    cases b <;> simp only [eqB, Bool.false_eq_true] at h
    rw [eqB_eq _ _ h]
  | .and x y, b, h => by
    cases b <;> simp only [eqB, Bool.false_eq_true, Bool.and_eq_true] at h
    rw [eqB_eq _ _ h.1, eqB_eq _ _ h.2]
  | .or x y, b, h => by
    cases b <;> simp only [eqB, Bool.false_eq_true, Bool.and_eq_true] at h
    rw [eqB_eq _ _ h.1, eqB_eq _ _ h.2]
  | .beq x y, b, h => by
    cases b <;> simp only [eqB, Bool.false_eq_true, Bool.and_eq_true] at h
    rw [eqB_eq _ _ h.1, eqB_eq _ _ h.2]
  | .ite c x y, b, h => by
    cases b <;> simp only [eqB, Bool.false_eq_true, Bool.and_eq_true] at h
    rw [eqB_eq _ _ h.1, eqB_eq _ _ h.2.1, eqB_eq _ _ h.2.2]
end

/-! ### What is known is so -/
def AsmOk (l : Asm) : Prop := ∀ q v, (q, v) ∈ l → B.den ι q = v

variable {ι}
theorem AsmOk.tail {x : B × Bool} {l : Asm} (h : AsmOk ι (x :: l)) : AsmOk ι l := fun q v hq => h q v (List.mem_cons_of_mem _ hq)
theorem AsmOk.head {q : B} {v : Bool} {l : Asm} (h : AsmOk ι ((q, v) :: l)) : B.den ι q = v := h q v (List.mem_cons_self ..)
theorem AsmOk.cons {q : B} {v : Bool} {l : Asm} (h : AsmOk ι l) (hq : B.den ι q = v) : AsmOk ι ((q, v) :: l) := by
  intro p u hp
  rcases List.mem_cons.1 hp with e | e
  · injection e with e1 e2; subst e1; subst e2; exact hq
  · exact h p u e

theorem knowLt_ok (a b : E) : ∀ (l : Asm), AsmOk ι l → ∀ v, knowLt a b l = some v → decide (a.den ι < b.den ι) = v
  | [], _, v, h => by simp [knowLt] at h
  | (q, u) :: l, hl, v, h => by
    have hh := hl.head
    have ht := hl.tail
    have ih := knowLt_ok a b l ht v
    cases q <;> (try (cases u <;> exact ih (by simpa [knowLt] using h)))
    case lt x y =>
      simp only [knowLt] at h
      split at h
      · rename_i e
        rw [Bool.and_eq_true] at e
        rw [eqE_eq _ _ e.1, eqE_eq _ _ e.2]
        injection h with h; subst h; exact hh
      · split at h
        · rename_i e
          rw [Bool.and_eq_true, Bool.and_eq_true] at e
          rw [eqE_eq _ _ e.2.1, eqE_eq _ _ e.2.2]
          injection h with h; subst h
          have hu := e.1
          subst hu
          simp only [B.den, decide_eq_true_eq] at hh
          simp; omega
        · exact ih h
    case eq x y =>
      cases u
      · exact ih (by simpa [knowLt] using h)
      · simp only [knowLt] at h
        split at h
        · rename_i e
          injection h with h; subst h
          simp only [B.den, decide_eq_true_eq] at hh
          rw [Bool.or_eq_true, Bool.and_eq_true, Bool.and_eq_true] at e
          rcases e with e | e
          · rw [eqE_eq _ _ e.1, eqE_eq _ _ e.2]; simp; omega
          · rw [eqE_eq _ _ e.1, eqE_eq _ _ e.2]; simp; omega
        · exact ih h
theorem litNe_ok {a b : E} (h : litNe a b = true) : a.den ι ≠ b.den ι := by
  unfold litNe at h
  split at h
  · simpa [E.den] using h
  · cases h
theorem knowEq_ok (a b : E) : ∀ (l : Asm), AsmOk ι l → ∀ v, knowEq a b l = some v → decide (a.den ι = b.den ι) = v
  | [], _, v, h => by simp [knowEq] at h
  | (q, u) :: l, hl, v, h => by
    have hh := hl.head
    have ht := hl.tail
    have ih := knowEq_ok a b l ht v
    cases q <;> (try (cases u <;> exact ih (by simpa [knowEq] using h)))
    case lt x y =>
      cases u
      · exact ih (by simpa [knowEq] using h)
      · simp only [knowEq] at h
        split at h
        · rename_i e
          injection h with h; subst h
          simp only [B.den, decide_eq_true_eq] at hh
          rw [Bool.or_eq_true, Bool.and_eq_true, Bool.and_eq_true] at e
          rcases e with e | e
          · rw [eqE_eq _ _ e.1, eqE_eq _ _ e.2]; simp; omega
          · rw [eqE_eq _ _ e.1, eqE_eq _ _ e.2]; simp; omega
        · exact ih h
    case eq x y =>
      cases u
      · simp only [knowEq] at h
        split at h
        · rename_i e
          injection h with h; subst h
          simp only [B.den, decide_eq_false_iff_not] at hh
          rw [Bool.or_eq_true, Bool.and_eq_true, Bool.and_eq_true] at e
          rcases e with e | e
          · rw [eqE_eq _ _ e.1, eqE_eq _ _ e.2]; simpa using hh
          · rw [eqE_eq _ _ e.1, eqE_eq _ _ e.2]; simp; omega
        · exact ih h
      · simp only [knowEq] at h
        simp only [B.den, decide_eq_true_eq] at hh
        split at h
        · rename_i e
          injection h with h; subst h
          rw [Bool.or_eq_true, Bool.and_eq_true, Bool.and_eq_true] at e
          rcases e with e | e
          · rw [eqE_eq _ _ e.1, eqE_eq _ _ e.2]; simpa using hh
          · rw [eqE_eq _ _ e.1, eqE_eq _ _ e.2]; simp; omega
        · split at h
          · rename_i e
            injection h with h; subst h
            simp only [Bool.or_eq_true, Bool.and_eq_true] at e
            rcases e with ((e | e) | e) | e
            all_goals (have h1 := eqE_eq _ _ e.1; have h2 := litNe_ok (ι := ι) e.2; subst h1; simp; omega)
          · exact ih h
theorem knowVar_ok (n : Nat) : ∀ (l : Asm), AsmOk ι l → ∀ v, knowVar n l = some v → ι.bool n = v
  | [], _, v, h => by simp [knowVar] at h
  | (q, u) :: l, hl, v, h => by
    have hh := hl.head
    have ih := knowVar_ok n l hl.tail v
    cases q <;> (try exact ih (by simpa [knowVar] using h))
    case var m =>
      simp only [knowVar] at h
      split at h
      · rename_i e
        have e : n = m := by simpa using e
        subst e
        injection h with h; subst h; exact hh
      · exact ih h
theorem evalA_ok {l : Asm} (hl : AsmOk ι l) : ∀ (q : B) v, evalA l q = some v → q.den ι = v
  | .lit b, v, h => by simpa [evalA, B.den] using h
  | .var n, v, h => by simpa [B.den] using knowVar_ok n l hl v (by simpa [evalA] using h)
  | .lt a b, v, h => by
    simp only [evalA] at h
    split at h
    · rename_i e
      injection h with h; subst h
      rw [eqE_eq _ _ e]; simp [B.den]
    · simpa [B.den] using knowLt_ok a b l hl v h
  | .le a b, v, h => by
    simp only [evalA] at h
    split at h
    · rename_i e
      injection h with h; subst h
      rw [eqE_eq _ _ e]; simp [B.den]
    · split at h
      · rename_i u hu
        injection h with h; subst h
        have := knowLt_ok b a l hl u hu
        rw [← this]
        simp only [B.den]
        by_cases hc : a.den ι ≤ b.den ι
        · rw [decide_eq_true hc, decide_eq_false (by omega)]; rfl
        · rw [decide_eq_false hc, decide_eq_true (by omega)]; rfl
      · cases h
  | .eq a b, v, h => by
    simp only [evalA] at h
    split at h
    · rename_i e
      injection h with h; subst h
      rw [eqE_eq _ _ e]; simp [B.den]
    · split at h
      · rename_i u hu
        injection h with h; subst h
        simpa [B.den] using knowEq_ok a b l hl u hu
      · split at h
        · rename_i h1 h2
          injection h with h; subst h
          have e1 := knowLt_ok a b l hl _ h1
          have e2 := knowLt_ok b a l hl _ h2
          simp only [decide_eq_false_iff_not] at e1 e2
          simp [B.den]; omega
        · cases h
  | .not a, v, h => by
    simp only [evalA] at h
    split at h
    · rename_i u hu
      injection h with h; subst h
      simp [B.den, evalA_ok hl a u hu]
    · cases h
  | .and a b, v, h => by
    simp only [evalA] at h
    split at h
    · rename_i h1; injection h with h; subst h; simp [B.den, evalA_ok hl a _ h1]
    · rename_i h0 h1; injection h with h; subst h; simp [B.den, evalA_ok hl b _ h0]
    · rename_i h1 h2; injection h with h; subst h; simp [B.den, evalA_ok hl a _ h1, evalA_ok hl b _ h2]
    · cases h
  | .or a b, v, h => by
    simp only [evalA] at h
    split at h
    · rename_i h1; injection h with h; subst h; simp [B.den, evalA_ok hl a _ h1]
    · rename_i h0 h1; injection h with h; subst h; simp [B.den, evalA_ok hl b _ h0]
    · rename_i h1 h2; injection h with h; subst h; simp [B.den, evalA_ok hl a _ h1, evalA_ok hl b _ h2]
    · cases h
  | .beq a b, v, h => by
    simp only [evalA] at h
    split at h
    · rename_i h1; injection h with h; subst h; rw [eqB_eq _ _ h1]; simp [B.den]
    · split at h
      · rename_i h1 h2; injection h with h; subst h; simp [B.den, evalA_ok hl a _ h1, evalA_ok hl b _ h2]
      · cases h
  | .ite c a b, v, h => by
    simp only [evalA] at h
    split at h
    · rename_i h1; simp [B.den, evalA_ok hl c _ h1, evalA_ok hl a _ h]
    · rename_i h1; simp [B.den, evalA_ok hl c _ h1, evalA_ok hl b _ h]
    · cases h
theorem addA_ok : ∀ (q : B) (v : Bool) (l : Asm), AsmOk ι l → q.den ι = v → AsmOk ι (addA q v l)
  | .lit _, v, l, h, _ => by simpa [addA] using h
  | .not a, v, l, h, hq => by
    simp only [addA]
    exact addA_ok a _ l h (by simp only [B.den] at hq; rw [← hq]; simp)
  | .and a b, true, l, h, hq => by
    simp only [addA]
    simp only [B.den, Bool.and_eq_true] at hq
    exact addA_ok a _ _ (addA_ok b _ l h hq.2) hq.1
  | .or a b, false, l, h, hq => by
    simp only [addA]
    simp only [B.den, Bool.or_eq_false_iff] at hq
    exact addA_ok a _ _ (addA_ok b _ l h hq.2) hq.1
  | .le a b, v, l, h, hq => by
    simp only [addA]
    refine h.cons ?_
    simp only [B.den] at hq ⊢
    subst hq
    by_cases hc : a.den ι ≤ b.den ι
    · rw [decide_eq_true hc, decide_eq_false (by omega)]; rfl
    · rw [decide_eq_false hc, decide_eq_true (by omega)]; rfl
  | .and a b, false, l, h, hq => by simpa [addA] using h.cons hq
  | .or a b, true, l, h, hq => by simpa [addA] using h.cons hq
  | .var _, v, l, h, hq => by cases v <;> simpa [addA] using h.cons hq
  | .lt _ _, v, l, h, hq => by cases v <;> simpa [addA] using h.cons hq
  | .eq _ _, v, l, h, hq => by cases v <;> simpa [addA] using h.cons hq
  | .beq _ _, v, l, h, hq => by cases v <;> simpa [addA] using h.cons hq
  | .ite _ _ _, v, l, h, hq => by cases v <;> simpa [addA] using h.cons hq
end

/-! ### Ways -/
section
variable {ι : Env} {α γ : Type}
theorem pick_bind (t : T α) (f : α → T γ) (y : γ) : (t.bind f).pick ι = some y ↔ ∃ x, t.pick ι = some x ∧ (f x).pick ι = some y := by
  induction t with
  | leaf a => simp [T.bind, T.pick]
  | br c t e iht ihe =>
    show T.pick ι (.br c (t.bind f) (e.bind f)) = some y ↔ _
    simp only [T.pick]
    split
    · exact iht
    · exact ihe
  | need c t iht =>
    show T.pick ι (.need c (t.bind f)) = some y ↔ _
    simp only [T.pick]
    split
    · exact iht
    · simp
  | fail s => simp [T.bind, T.pick]
theorem pick_opt {o : Option α} {k : α → T γ} {y : γ} (h : (T.opt o k).pick ι = some y) : ∃ x, o = some x ∧ (k x).pick ι = some y := by
  cases o with
  | none => simp [T.opt, T.pick] at h
  | some x => exact ⟨x, rfl, h⟩
theorem pick_chk {b : Bool} {k : T γ} {y : γ} (h : (T.chk b k).pick ι = some y) : b = true ∧ k.pick ι = some y := by
  cases b with
  | false => simp [T.chk, T.pick] at h
  | true => exact ⟨rfl, h⟩
theorem pick_mustK {l : Asm} (hl : AsmOk ι l) {q : B} {k : T γ} {y : γ} (h : (T.mustK l q k).pick ι = some y) : q.den ι = true ∧ k.pick ι = some y := by
  unfold T.mustK at h
  split at h
  · rename_i e; exact ⟨evalA_ok hl q _ e, h⟩
  · simp only [T.pick] at h
    split at h
    · rename_i e; exact ⟨e, h⟩
    · cases h
theorem pick_needs {l : Asm} (hl : AsmOk ι l) {y : γ} {k : T γ} : ∀ {qs : List B}, (T.needs l qs k).pick ι = some y → (∀ q ∈ qs, q.den ι = true) ∧ k.pick ι = some y
  | [], h => ⟨by simp, h⟩
  | q :: qs, h => by
    have h' : (T.mustK l q (T.needs l qs k)).pick ι = some y := h
    obtain ⟨h1, h2⟩ := pick_mustK hl h'
    obtain ⟨h3, h4⟩ := pick_needs hl h2
    refine ⟨fun q' hq' => ?_, h4⟩
    rcases List.mem_cons.1 hq' with e | e
    · subst e; exact h1
    · exact h3 q' e
theorem pick_ifK {l : Asm} (hl : AsmOk ι l) {q : B} {t e : T γ} {y : γ} (h : (T.ifK l q t e).pick ι = some y) : (if q.den ι = true then t else e).pick ι = some y := by
  unfold T.ifK at h
  split at h
  · rename_i e; rw [if_pos (evalA_ok hl q _ e)]; exact h
  · rename_i e; rw [if_neg (by rw [evalA_ok hl q _ e]; simp)]; exact h
  · simp only [T.pick] at h
    split at h <;> rename_i e
    · rw [if_pos e]; exact h
    · rw [if_neg e]; exact h
theorem pick_ifA {l : Asm} (hl : AsmOk ι l) {q : B} {t e : Asm → T γ} {y : γ} (h : (T.ifA l q t e).pick ι = some y) :
    ∃ l', AsmOk ι l' ∧ ((q.den ι = true ∧ (t l').pick ι = some y) ∨ (q.den ι = false ∧ (e l').pick ι = some y)) := by
  unfold T.ifA at h
  split at h
  · rename_i e; exact ⟨l, hl, .inl ⟨evalA_ok hl q _ e, h⟩⟩
  · rename_i e; exact ⟨l, hl, .inr ⟨evalA_ok hl q _ e, h⟩⟩
  · simp only [T.pick] at h
    split at h <;> rename_i e
    · exact ⟨_, addA_ok q true l hl e, .inl ⟨e, h⟩⟩
    · have e : q.den ι = false := by simpa using e
      exact ⟨_, addA_ok q false l hl e, .inr ⟨e, h⟩⟩
end

/-! ### 'fc' -/
section
variable {α : Type}
@[simp] theorem fcN_eq (n : Nat) (k : Nat → α) : fcN n k = k n := by cases n <;> rfl
@[simp] theorem fcI_eq (z : Int) (k : Int → α) : fcI z k = k z := by cases z <;> simp [fcI]
@[simp] theorem fcE_eq (e : E) (k : E → α) : fcE e k = k e := by cases e <;> simp [fcE]
@[simp] theorem fcB_eq (b : B) (k : B → α) : fcB b k = k b := by
  cases b <;> simp only [fcB]
  rename_i b; cases b <;> rfl
@[simp] theorem fcX_eq (l : List (E × (Nat × Nat))) : ∀ (k : List (E × (Nat × Nat)) → α), fcX l k = k l := by
  induction l with
  | nil => intro k; rfl
  | cons x l ih =>
    intro k
    show (fcE x.1 fun e => fcN x.2.1 fun m => fcN x.2.2 fun n => fcX l fun l => k ((e, m, n) :: l)) = k (x :: l)
    simp [ih]
theorem fcV_all : (∀ (v : SV) (k : SV → α), fcV v k = k v) ∧ (∀ (l : List SV) (k : List SV → α), (SV.rec_1 (motive_1 := fun _ => (SV → α) → α) (motive_2 := fun _ => (List SV → α) → α)
    (fun q e k => fcE e fun e => k (.int q e)) (fun b k => fcB b fun b => k (.bool b)) (fun b off k => fcN b fun b => fcN off fun off => k (.ptr b off)) (fun b off ix k => fcN b fun b => fcN off fun off => fcX ix fun ix => k (.ptx b off ix)) (fun b off k => fcN off fun off => k (.gptr b off))
    (fun k => k .nilptr) (fun b off len cap k => fcN b fun b => fcN off fun off => fcN len fun len => fcN cap fun cap => k (.slice b off len cap)) (fun k => k .nilslice) (fun n k => k (.slc n))
    (fun fn _ _ a b k => a fun a => b fun b => k (.func fn a b)) (fun k => k .nilfunc) (fun k => k .nilif) (fun s k => k (.str s)) (fun n k => k (.opq n)) (fun _ a k => a fun a => k (.agg a)) (fun _ a k => a fun a => k (.tup a))
    (fun n e m off k => fcE e fun e => fcN m fun m => fcN off fun off => k (.rptr n e m off)) (fun n k => fcN n fun n => k (.any n))
    (fun k => k []) (fun _ _ a b k => a fun v => b fun vs => k (v :: vs)) l k) = k l) := by
  have key : ∀ v : SV, ∀ (k : SV → α), fcV v k = k v := by
    intro v
    induction v using SV.rec (motive_2 := fun l => ∀ (k : List SV → α), (SV.rec_1 (motive_1 := fun _ => (SV → α) → α) (motive_2 := fun _ => (List SV → α) → α)
      (fun q e k => fcE e fun e => k (.int q e)) (fun b k => fcB b fun b => k (.bool b)) (fun b off k => fcN b fun b => fcN off fun off => k (.ptr b off)) (fun b off ix k => fcN b fun b => fcN off fun off => fcX ix fun ix => k (.ptx b off ix)) (fun b off k => fcN off fun off => k (.gptr b off))
      (fun k => k .nilptr) (fun b off len cap k => fcN b fun b => fcN off fun off => fcN len fun len => fcN cap fun cap => k (.slice b off len cap)) (fun k => k .nilslice) (fun n k => k (.slc n))
      (fun fn _ _ a b k => a fun a => b fun b => k (.func fn a b)) (fun k => k .nilfunc) (fun k => k .nilif) (fun s k => k (.str s)) (fun n k => k (.opq n)) (fun _ a k => a fun a => k (.agg a)) (fun _ a k => a fun a => k (.tup a))
      (fun n e m off k => fcE e fun e => fcN m fun m => fcN off fun off => k (.rptr n e m off)) (fun n k => fcN n fun n => k (.any n))
      (fun k => k []) (fun _ _ a b k => a fun v => b fun vs => k (v :: vs)) l k) = k l) with
    | nil => rfl
    | cons v l hv hl => unfold fcV at hv; dsimp only; rw [hv, hl]
    | func fn a b ha hb => intro k; unfold fcV; simp only []; rw [ha, hb]
    | agg cs h => intro k; unfold fcV; simp only []; rw [h]
    | tup cs h => intro k; unfold fcV; simp only []; rw [h]
    | _ => intro k; simp [fcV]
  refine ⟨key, fun l => ?_⟩
  induction l with
  | nil => intro k; rfl
  | cons v l ih => intro k; have := key v; unfold fcV at this; simp only []; rw [this, ih]
@[simp] theorem fcV_eq (v : SV) (k : SV → α) : fcV v k = k v := fcV_all.1 v k
@[simp] theorem fcL_eq (l : List SV) : ∀ (k : List SV → α), fcL l k = k l := by
  induction l with
  | nil => intro k; rfl
  | cons v l ih =>
    intro k
    show (fcV v fun v => fcL l fun vs => k (v :: vs)) = _
    simp [ih]
@[simp] theorem fcS_eq {β : Type} (l : List β) : ∀ (k : List β → α), fcS l k = k l := by
  induction l with
  | nil => intro k; rfl
  | cons v l ih =>
    intro k
    show (fcS l fun vs => k (v :: vs)) = _
    rw [ih]
end

/-! ### Lists -/
theorem nthSV_eq : ∀ (l : List SV) (n : Nat), nthSV l n = l[n]?
  | [], n => by cases n <;> rfl
  | _ :: _, 0 => rfl
  | v :: vs, n + 1 => by show nthSV vs n = _; rw [nthSV_eq vs n]; simp
theorem takeSV_eq : ∀ (n : Nat) (l : List SV) (r : List SV), takeSV n l = some r → r = l.take n ∧ r.length = n
  | 0, l, r, h => by
    have h : some [] = some r := h
    injection h with h; subst h; simp
  | n + 1, [], r, h => by
    have h : none = some r := h
    cases h
  | n + 1, v :: l, r, h => by
    have h : (match takeSV n l with | none => none | some l => some (v :: l)) = some r := by
      rw [← h]; show _ = (Option.rec none (fun l => some (v :: l)) (takeSV n l) : Option (List SV)); cases takeSV n l <;> rfl
    cases ht : takeSV n l with
    | none => rw [ht] at h; cases h
    | some x =>
      rw [ht] at h
      injection h with h; subst h
      obtain ⟨h1, h2⟩ := takeSV_eq n l x ht
      refine ⟨by rw [h1]; rfl, by simp [h2]⟩
theorem dropSV_eq : ∀ (n : Nat) (l : List SV), dropSV n l = l.drop n
  | 0, l => rfl
  | _ + 1, [] => rfl
  | n + 1, v :: l => by show dropSV n l = _; rw [dropSV_eq n l]; simp
theorem put0_eq : ∀ (vs cs r : List SV), put0 vs cs = some r → r = vs ++ cs.drop vs.length ∧ vs.length ≤ cs.length
  | [], cs, r, h => by
    have h : some cs = some r := h
    injection h with h; subst h; simp
  | v :: vs, [], r, h => by
    have h : none = some r := h
    cases h
  | v :: vs, c :: cs, r, h => by
    have h : (match put0 vs cs with | none => none | some l => some (v :: l)) = some r := by
      rw [← h]; show _ = (Option.rec none (fun l => some (v :: l)) (put0 vs cs) : Option (List SV)); cases put0 vs cs <;> rfl
    cases ht : put0 vs cs with
    | none => rw [ht] at h; cases h
    | some x =>
      rw [ht] at h
      injection h with h; subst h
      obtain ⟨h1, h2⟩ := put0_eq vs cs x ht
      subst h1; simp; omega
theorem putSV_eq : ∀ (n : Nat) (cs vs r : List SV), putSV cs n vs = some r → r = cs.take n ++ vs ++ cs.drop (n + vs.length) ∧ n + vs.length ≤ cs.length
  | 0, cs, vs, r, h => by
    obtain ⟨h1, h2⟩ := put0_eq vs cs r h
    subst h1; simp; exact h2
  | n + 1, [], vs, r, h => by
    have h : none = some r := h
    cases h
  | n + 1, c :: cs, vs, r, h => by
    have h : (match putSV cs n vs with | none => none | some l => some (c :: l)) = some r := by
      rw [← h]; show _ = (Option.rec none (fun l => some (c :: l)) (putSV cs n vs) : Option (List SV)); cases putSV cs n vs <;> rfl
    cases ht : putSV cs n vs with
    | none => rw [ht] at h; cases h
    | some x =>
      rw [ht] at h
      injection h with h; subst h
      obtain ⟨h1, h2⟩ := putSV_eq n cs vs x ht
      subst h1
      refine ⟨?_, by simp; omega⟩
      simp [Nat.add_right_comm n 1]
@[simp] theorem setK_eq {α : Type} : ∀ (l : List SV) (n : Nat) (x : SV) (k : List SV → α), setK l n x k = k (l.set n x)
  | [], n, x, k => by cases n <;> rfl
  | _ :: _, 0, x, k => rfl
  | v :: vs, n + 1, x, k => by show setK vs n x (fun l => k (v :: l)) = _; rw [setK_eq vs n x]; rfl
theorem putK_eq {α : Type} (d : Option Tmp) (v : SV) (s : List SV) (k : List SV → α) : putK d v s k = k (match d with | some d => s.set d v | none => s) := by
  cases d <;> simp [putK]
theorem mget_cons (b : Nat) (x : Nat × List SV) (m : Mem) : mget b (x :: m) = if x.1 = b then some x.2 else mget b m := by
  show (Bool.rec (mget b m) (some x.2) (Nat.beq x.1 b) : Option (List SV)) = _
  by_cases h : x.1 = b
  · have : Nat.beq x.1 b = true := by simpa using h
    rw [this, if_pos h]
  · have : Nat.beq x.1 b = false := by
      cases hb : Nat.beq x.1 b with
      | true => exact absurd (Nat.eq_of_beq_eq_true hb) h
      | false => rfl
    rw [this, if_neg h]
theorem mget_mem : ∀ (m : Mem) (b : Nat) (cs : List SV), mget b m = some cs → (b, cs) ∈ m
  | [], b, cs, h => by cases h
  | x :: m, b, cs, h => by
    rw [mget_cons] at h
    split at h
    · rename_i e; injection h with h; subst h; subst e; exact List.mem_cons_self ..
    · exact List.mem_cons_of_mem _ (mget_mem m b cs h)
def msetL (b : Nat) (cs : List SV) : Mem → Mem
  | [] => []
  | x :: m => if x.1 = b then (x.1, cs) :: m else x :: msetL b cs m
@[simp] theorem msetK_eq {α : Type} (b : Nat) (cs : List SV) : ∀ (m : Mem) (k : Mem → α), msetK b cs m k = k (msetL b cs m)
  | [], k => rfl
  | x :: m, k => by
    show (Bool.rec (msetK b cs m (fun m => k (x :: m))) (k ((x.1, cs) :: m)) (Nat.beq x.1 b) : α) = _
    unfold msetL
    by_cases h : x.1 = b
    · have : Nat.beq x.1 b = true := by simpa using h
      rw [this, if_pos h]
    · have : Nat.beq x.1 b = false := by
        cases hb : Nat.beq x.1 b with
        | true => exact absurd (Nat.eq_of_beq_eq_true hb) h
        | false => rfl
      rw [this, if_neg h]
      exact msetK_eq b cs m _
theorem msetL_keys (b : Nat) (cs : List SV) : ∀ m : Mem, (msetL b cs m).map (·.1) = m.map (·.1)
  | [] => rfl
  | x :: m => by
    unfold msetL
    split
    · simp
    · simp [msetL_keys b cs m]
theorem msetL_mem (b : Nat) (cs : List SV) : ∀ (m : Mem), (m.map (·.1)).Nodup → ∀ k x, (k, x) ∈ msetL b cs m → (k = b ∧ x = cs) ∨ (k ≠ b ∧ (k, x) ∈ m)
  | [], _, k, x, h => by cases h
  | y :: m, hn, k, x, h => by
    have hn' := List.nodup_cons.1 (by simpa using hn : (y.1 :: m.map (·.1)).Nodup)
    unfold msetL at h
    split at h
    · rename_i e
      rcases List.mem_cons.1 h with h | h
      · injection h with h1 h2; exact .inl ⟨h1.trans e, h2⟩
      · refine .inr ⟨fun hk => hn'.1 (by rw [e, ← hk]; exact List.mem_map.2 ⟨(k, x), h, rfl⟩), List.mem_cons_of_mem _ h⟩
    · rename_i e
      rcases List.mem_cons.1 h with h | h
      · subst h; exact .inr ⟨e, List.mem_cons_self ..⟩
      · rcases msetL_mem b cs m hn'.2 k x h with h | ⟨h1, h2⟩
        · exact .inl h
        · exact .inr ⟨h1, List.mem_cons_of_mem _ h2⟩
end Go.Proofs.YtjmpoiafcdphbaaSx
