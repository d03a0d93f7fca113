/- A region that draws its order: where operations that touch memory are ordered by its edges as the text has them, every order comes to what the order of the text comes to. -/
import Derived.Deep.Quiet
namespace Go.Proofs.YtjmpoiafcdphbaaSx
set_option linter.unusedVariables false
set_option linter.unusedSimpArgs false

/-- 0: it looks at its operands alone; 1: it reads memory, or calls; 2: it stores. -/
def opKind : Op → Nat
  | .store .. => 2
  | .load .. | .call { callee := .value _, args := _, argTypes := _ } => 1
  | _ => 0

def dstOf (ops : Array Oper) (i : Nat) : Option Tmp := (ops[i]?).bind (·.dst)

def actL (ops : Array Oper) (a0 : Act) (val : Nat → Value) (p : Nat → Bool) : Nat → Act
  | 0 => a0
  | i + 1 => if p i = true then (actL ops a0 val p i).put (dstOf ops i) (val i) else actL ops a0 val p i

section
variable {P : Program} {ops : Array Oper} {a0 : Act} {val : Nat → Value} {cl : Nat → World → Prop} {kd : Nat → Nat}

theorem put_size (a : Act) (d : Option Tmp) (v : Value) : (a.put d v).tmps.size = a.tmps.size := by
  cases d <;> simp [Act.put]
theorem put_defers (a : Act) (d : Option Tmp) (v : Value) : (a.put d v).defers = a.defers := by
  cases d <;> simp [Act.put]
theorem actL_size (p : Nat → Bool) : ∀ n, (actL ops a0 val p n).tmps.size = a0.tmps.size
  | 0 => rfl
  | n + 1 => by
    unfold actL
    split
    · rw [put_size]; exact actL_size p n
    · exact actL_size p n
theorem put_get (a : Act) (d : Option Tmp) (v : Value) (t : Nat) : (a.put d v).tmps[t]? = if d = some t then (if t < a.tmps.size then some v else none) else a.tmps[t]? := by
  cases d with
  | none => simp [Act.put]
  | some d =>
    simp only [Act.put, Array.getElem?_setIfInBounds, Option.some.injEq]
    by_cases h : d = t
    · subst h; simp
    · simp [h]
theorem actL_get (p q : Nat → Bool) (t : Nat) : ∀ n, (∀ j, j < n → dstOf ops j = some t → p j = q j) → (actL ops a0 val p n).tmps[t]? = (actL ops a0 val q n).tmps[t]?
  | 0, _ => rfl
  | n + 1, h => by
    have ih := actL_get p q t n (fun j hj => h j (by omega))
    have hn := h n (by omega)
    unfold actL
    by_cases hd : dstOf ops n = some t
    · rw [hn hd]
      split
      · rw [put_get, put_get, if_pos hd, if_pos hd, actL_size, actL_size]
      · exact ih
    · have e1 : ∀ (a : Act), (a.put (dstOf ops n) (val n)).tmps[t]? = a.tmps[t]? := fun a => by rw [put_get, if_neg hd]
      split <;> split <;> (try rw [e1]) <;> (try rw [e1]) <;> exact ih
theorem actL_prefix (i : Nat) : ∀ n, i ≤ n → actL ops a0 val (fun j => decide (j < i)) n = actL ops a0 val (fun _ => true) i
  | 0, h => by
    obtain rfl : i = 0 := by omega
    rfl
  | n + 1, h => by
    by_cases hi : i = n + 1
    · subst hi
      have : ∀ m, m ≤ n + 1 → actL ops a0 val (fun j => decide (j < n + 1)) m = actL ops a0 val (fun _ => true) m := by
        intro m
        induction m with
        | zero => intro _; rfl
        | succ m ih => intro hm; unfold actL; rw [ih (by omega), if_pos (by simp; omega), if_pos rfl]
      exact this _ (Nat.le_refl _)
    · have e : actL ops a0 val (fun j => decide (j < i)) (n + 1) = actL ops a0 val (fun j => decide (j < i)) n := by
        conv => lhs; unfold actL
        rw [if_neg (by simp; omega)]
      rw [e]
      exact actL_prefix i n (by omega)
theorem actL_put (p : Nat → Bool) (i : Nat) (v : Nat → Bool) (hi : p i = false) (hv : ∀ j, v j = (p j || decide (j = i))) : ∀ n, i < n → (∀ j, i < j → j < n → p j = true → ∀ d, dstOf ops i = some d → dstOf ops j ≠ some d) →
    actL ops a0 val v n = (actL ops a0 val p n).put (dstOf ops i) (val i)
  | 0, h, _ => by omega
  | n + 1, h, hc => by
    by_cases hin : i = n
    · subst hin
      have same : ∀ m, m ≤ i → actL ops a0 val v m = actL ops a0 val p m := by
        intro m
        induction m with
        | zero => intro _; rfl
        | succ m ih =>
          intro hm
          unfold actL
          have : v m = p m := by rw [hv]; have : decide (m = i) = false := by simp; omega
                                 rw [this, Bool.or_false]
          rw [ih (by omega), this]
      unfold actL
      rw [same i (Nat.le_refl _), if_pos (by rw [hv]; simp), if_neg (by rw [hi]; simp)]
    · have ih := actL_put p i v hi hv n (by omega) (fun j hj hjn => hc j hj (by omega))
      have hvn : v n = p n := by rw [hv]; have : decide (n = i) = false := by simp; omega
                                 rw [this, Bool.or_false]
      unfold actL
      rw [hvn, ih]
      by_cases hp : p n = true
      · rw [if_pos hp, if_pos hp]
        exact Act.put_comm _ _ _ (hc n (by omega) (by omega) hp)
      · rw [if_neg hp, if_neg hp]

/-- What is seen of two frames that agree at what an operation looks at. -/
theorem exec_same {o : Oper} (hs : ∀ cs b, o.op ≠ .select cs b) {a b : Act} (h : ∀ t ∈ o.looksAt ops, a.tmps[t]? = b.tmps[t]?) : execOp a.eval o = execOp b.eval o := by
  refine execOp_congr o hs fun x hx => ?_
  cases x with
  | tmp t =>
    have ht : t ∈ o.looksAt ops := List.mem_append_left _ (List.mem_filterMap.2 ⟨.tmp t, by simpa using hx, rfl⟩)
    have := h t ht
    simp only [Act.eval, Array.getD_eq_getD_getElem?, this]
  | const v => rfl
  | global g => rfl
  | func f => rfl
theorem wanted_same {o : Oper} {a b : Act} (h : ∀ t ∈ o.looksAt ops, a.tmps[t]? = b.tmps[t]?) : Region.wanted o (yielded ops a.tmps) = Region.wanted o (yielded ops b.tmps) := by
  unfold Region.wanted
  cases hg : o.guard with
  | none => rfl
  | some jw =>
    obtain ⟨j, want⟩ := jw
    simp only
    congr 1
    unfold yielded
    cases hd : (ops[j]?).bind (·.dst) with
    | none => rfl
    | some d =>
      have : d ∈ o.looksAt ops := by
        unfold Oper.looksAt
        rw [hg]
        exact List.mem_append_right _ (by simp [hd])
      simp only [Option.bind_some, h d this]

/-! ### What lies before what -/
def maskOf (o : Oper) (acc : List Nat) : Nat := o.after.toList.foldl (fun s e => if Region.binds .any e = true then s ||| 2 ^ e.on ||| acc.getD e.on 0 else s) 0
def befL : List Oper → List Nat → List Nat
  | [], acc => acc
  | o :: l, acc => befL l (acc ++ [maskOf o acc])

def Down (ops : Array Oper) (L : Nat → Bool) : Prop := ∀ i o, ops[i]? = some o → L i = true → ∀ e ∈ o.after, Region.binds .any e = true → L e.on = true

theorem mask_down {L : Nat → Bool} {acc : List Nat} (hacc : ∀ i, L i = true → ∀ j, (acc.getD i 0).testBit j = true → L j = true) (es : List Edge) (hes : ∀ e ∈ es, Region.binds .any e = true → L e.on = true) :
    ∀ s : Nat, (∀ j, s.testBit j = true → L j = true) → ∀ j, (es.foldl (fun s e => if Region.binds .any e = true then s ||| 2 ^ e.on ||| acc.getD e.on 0 else s) s).testBit j = true → L j = true := by
  induction es with
  | nil => intro s hs j hj; exact hs j hj
  | cons e es ih =>
    intro s hs j hj
    simp only [List.foldl_cons] at hj
    refine ih (fun e' he' => hes e' (List.mem_cons_of_mem _ he')) _ ?_ j hj
    intro j hj
    by_cases hb : Region.binds .any e = true
    · rw [if_pos hb] at hj
      have hon := hes e (List.mem_cons_self ..) hb
      rw [Nat.testBit_or, Nat.testBit_or, Bool.or_eq_true, Bool.or_eq_true] at hj
      rcases hj with (hj | hj) | hj
      · exact hs j hj
      · rw [Nat.testBit_two_pow] at hj
        have : e.on = j := by simpa using hj
        subst this; exact hon
      · exact hacc _ hon j hj
    · rw [if_neg hb] at hj; exact hs j hj

theorem befL_down {L : Nat → Bool} (hL : Down ops L) : ∀ (l : List Oper) (acc : List Nat), (∀ j, l[j]? = ops[acc.length + j]?) →
    (∀ i, L i = true → ∀ j, (acc.getD i 0).testBit j = true → L j = true) → ∀ i, L i = true → ∀ j, ((befL l acc).getD i 0).testBit j = true → L j = true
  | [], _, _, h => h
  | o :: l, acc, hl, h => by
    unfold befL
    have ho : ops[acc.length]? = some o := by simpa using (hl 0).symm
    refine befL_down hL l (acc ++ [maskOf o acc]) (fun j => by have := hl (j + 1); simpa [Nat.add_assoc, Nat.add_comm 1 j] using this) ?_
    intro i hi j hj
    by_cases hlt : i < acc.length
    · refine h i hi j ?_
      simpa [List.getD_eq_getElem?_getD, List.getElem?_append_left hlt] using hj
    · by_cases heq : i = acc.length
      · subst heq
        have e : (acc ++ [maskOf o acc]).getD acc.length 0 = maskOf o acc := by simp [List.getD_eq_getElem?_getD]
        rw [e] at hj
        unfold maskOf at hj
        exact mask_down h o.after.toList (fun e he hb => hL _ o ho hi e (by simpa using he) hb) 0 (by simp) j hj
      · have e : (acc ++ [maskOf o acc]).getD i 0 = 0 := by
          rw [List.getD_eq_getElem?_getD, List.getElem?_eq_none (by simp; omega)]; rfl
        rw [e] at hj; simp at hj

def clash (ops : Array Oper) (kp kq : Nat) (p q : Oper) : Bool :=
  (match p.dst with
   | some d => (q.looksAt ops).contains d || (match q.dst with | some e => d == e | none => false)
   | none => false) ||
  (match q.dst with
   | some e => (p.looksAt ops).contains e
   | none => false) ||
  (kp == 2 && !(kq == 0)) || (!(kp == 0) && kq == 2)

/-- Whatever clashes is ordered by the region's edges. -/
def commB (ops : Array Oper) (kd : Nat → Nat) : Bool :=
  let b := befL ops.toList []
  (List.range ops.size).all fun i =>
    match ops[i]? with
    | none => true
    | some o => (match o.op with | .select .. => false | _ => true) && o.after.toList.all (fun e => !Region.binds .any e || decide (e.on < i)) &&
      (List.range i).all fun j =>
        match ops[j]? with
        | none => true
        | some p => !clash ops (kd j) (kd i) p o || (b.getD i 0).testBit j

theorem commB_spec {kd : Nat → Nat} (h : commB ops kd = true) {i : Nat} {o : Oper} (ho : ops[i]? = some o) :
    (∀ cs b, o.op ≠ .select cs b) ∧ (∀ e ∈ o.after, Region.binds .any e = true → e.on < i) ∧
    (∀ j p, j < i → ops[j]? = some p → clash ops (kd j) (kd i) p o = true → ((befL ops.toList []).getD i 0).testBit j = true) := by
  have hi : i < ops.size := by
    rcases Nat.lt_or_ge i ops.size with h' | h'
    · exact h'
    · rw [Array.getElem?_eq_none h'] at ho; cases ho
  unfold commB at h
  have h1 := List.all_eq_true.1 h i (List.mem_range.2 hi)
  rw [ho] at h1
  simp only [Bool.and_eq_true] at h1
  obtain ⟨⟨h2, h3⟩, h4⟩ := h1
  refine ⟨?_, ?_, ?_⟩
  · intro cs b hsel
    rw [hsel] at h2
    simp at h2
  · intro e he hb
    have := List.all_eq_true.1 h3 e (by simpa using he)
    rw [hb] at this
    simpa using this
  · intro j p hj hp hc
    have := List.all_eq_true.1 h4 j (List.mem_range.2 hj)
    rw [hp] at this
    simp only [hc, Bool.not_true, Bool.false_or] at this
    exact this

/-- What the order of the text does at one operation. -/
def StepD (P : Program) (ops : Array Oper) (k : Nat) (C : World → Prop) (o : Oper) (a : Act) (c : World → Prop) (v : Value) (c' : World → Prop) : Prop :=
  (Region.wanted o (yielded ops a.tmps) = false ∧ v = undef ∧ c' = c ∧ k ≠ 2) ∨
  (Region.wanted o (yielded ops a.tmps) = true ∧
    ((k = 0 ∧ (∀ w, C w → (execOp a.eval o).run P w = .ok (.value v) w) ∧ c' = c) ∨
     (k = 1 ∧ (∀ w, c w → o.quietAt P a c w v) ∧ c' = c) ∨
     (k = 2 ∧ v = undef ∧ ∀ w, c w → ∃ w', (execOp a.eval o).run P w = .ok .skip w' ∧ c' w')))

/-- How far the stores have come: the first that is not listed yet. -/
theorem cl_flat {pa : Nat} (hpa : kd pa ≠ 2 ∧ cl (pa + 1) = cl pa ∨ ops.size ≤ pa) (hst : ∀ i o, ops[i]? = some o → i ≠ pa → StepD P ops (kd i) (fun w => ∃ m, m ≤ ops.size ∧ cl m w) o (actL ops a0 val (fun _ => true) i) (cl i) (val i) (cl (i + 1))) {i j : Nat} (hij : i ≤ j) (hj : j ≤ ops.size)
    (hno : ∀ k o, i ≤ k → k < j → ops[k]? = some o → kd k ≠ 2) : cl j = cl i := by
  induction j with
  | zero => obtain rfl : i = 0 := by omega
            rfl
  | succ j ih =>
    by_cases h : i = j + 1
    · rw [h]
    · have e := ih (by omega) (by omega) (fun k o h1 h2 => hno k o h1 (by omega))
      obtain ⟨o, ho⟩ : ∃ o, ops[j]? = some o := ⟨ops[j], by simp [Array.getElem?_eq_getElem (by omega : j < ops.size)]⟩
      have hk := hno j o (by omega) (by omega) ho
      by_cases hjp : j = pa
      · subst hjp
        rcases hpa with hpa | hpa
        · rw [hpa.2, e]
        · omega
      rcases hst j o ho hjp with ⟨_, _, hc, _⟩ | ⟨_, ⟨_, _, hc⟩ | ⟨_, _, hc⟩ | ⟨h2, _, _⟩⟩
      · rw [hc, e]
      · rw [hc, e]
      · rw [hc, e]
      · exact absurd h2 hk

structure Inv (ops : Array Oper) (kd : Nat → Nat) (a0 : Act) (val : Nat → Value) (cl : Nat → World → Prop) (listed : Array Bool) (a : Act) (w : World) : Prop where
  size : listed.size = ops.size
  down : Down ops (fun i => listed.getD i false)
  act : a = actL ops a0 val (fun i => listed.getD i false) ops.size
  far : ∃ m, m ≤ ops.size ∧ cl m w ∧ (∀ k o, k < m → ops[k]? = some o → kd k = 2 → listed.getD k false = true) ∧ (∀ k o, m ≤ k → ops[k]? = some o → kd k = 2 → listed.getD k false = false)

theorem getD_set_eq {listed : Array Bool} {i j : Nat} (hi : i < listed.size) : (listed.setIfInBounds i true).getD j false = (listed.getD j false || decide (j = i)) := by
  by_cases h : j = i
  · subst h
    simp [Array.getD_eq_getD_getElem?, hi]
  · rw [getD_set_ne false (Ne.symm h)]
    simp [h]

theorem looks_same (hc : commB ops kd = true) {listed : Array Bool} (hdown : Down ops (fun i => listed.getD i false)) {i : Nat} {o : Oper} (ho : ops[i]? = some o) (hi : listed.getD i false = false)
    (hpre : ∀ e ∈ o.after, Region.binds .any e = true → listed.getD e.on false = true) :
    ∀ t ∈ o.looksAt ops, (actL ops a0 val (fun j => listed.getD j false) ops.size).tmps[t]? = (actL ops a0 val (fun _ => true) i).tmps[t]? := by
  intro t ht
  have hin : i < ops.size := by
    rcases Nat.lt_or_ge i ops.size with h' | h'
    · exact h'
    · rw [Array.getElem?_eq_none h'] at ho; cases ho
  rw [← actL_prefix i ops.size (by omega)]
  refine actL_get _ _ t _ fun j hj hd => ?_
  obtain ⟨p, hp, hpd⟩ : ∃ p, ops[j]? = some p ∧ p.dst = some t := by
    unfold dstOf at hd
    cases hop : ops[j]? with
    | none => rw [hop] at hd; cases hd
    | some p => rw [hop] at hd; exact ⟨p, rfl, hd⟩
  have hmem : (o.looksAt ops).contains t = true := by simpa using ht
  rcases Nat.lt_trichotomy j i with hji | hji | hji
  · have hcl : clash ops (kd j) (kd i) p o = true := by simp [clash, hpd, ht]
    have hb := (commB_spec hc ho).2.2 j p hji hp hcl
    have hdown' : Down ops (fun k => listed.getD k false || decide (k = i)) := by
      intro k q hq hk e he hbind
      simp only [Bool.or_eq_true, decide_eq_true_eq] at hk ⊢
      rcases hk with hk | hk
      · exact .inl (hdown k q hq hk e he hbind)
      · subst hk
        rw [ho] at hq; injection hq with hq; subst hq
        exact .inl (hpre e he hbind)
    have := befL_down hdown' ops.toList [] (by simp) (by simp) i (by simp) j hb
    simp only [Bool.or_eq_true, decide_eq_true_eq] at this
    have hlj : listed.getD j false = true := by
      rcases this with h | h
      · exact h
      · omega
    rw [hlj]; simp [hji]
  · subst hji
    rw [hi]; simp
  · have hcl : clash ops (kd i) (kd j) o p = true := by
      unfold clash
      rw [hpd]
      simp [ht]
    have hb := (commB_spec hc hp).2.2 i o hji ho hcl
    by_cases hlj : listed.getD j false = true
    · have := befL_down hdown ops.toList [] (by simp) (by simp) j hlj i hb
      rw [hi] at this; cases this
    · have : listed.getD j false = false := by simpa using hlj
      rw [this]; simp; omega

theorem wpAny_comm {Q : Exit → Act → World → Prop} {pa : Nat} (hpa : kd pa ≠ 2 ∧ cl (pa + 1) = cl pa ∨ ops.size ≤ pa) (hc : commB ops kd = true)
    (hst : ∀ i o, ops[i]? = some o → i ≠ pa → StepD P ops (kd i) (fun w => ∃ m, m ≤ ops.size ∧ cl m w) o (actL ops a0 val (fun _ => true) i) (cl i) (val i) (cl (i + 1)))
    (hQ : ∀ w, cl ops.size w → Q .normal (actL ops a0 val (fun _ => true) ops.size) w) :
    ∀ (fuel : Nat) (listed : Array Bool) (a : Act) (w : World), Inv ops kd a0 val cl listed a w → (pa < ops.size → listed.getD pa false = true) → wpAny P .any ops Q fuel listed a w ∨ fuel < (List.range ops.size).countP (fun k => !listed.getD k false) := by
  have fin : ∀ (listed : Array Bool) (a : Act) (w : World), Inv ops kd a0 val cl listed a w → Region.ready .any ops listed = [] → Q .normal a w := by
    intro listed a w inv hr
    have all : ∀ k, k < ops.size → listed.getD k false = true := by
      intro k
      induction k using Nat.strongRecOn with
      | _ k ih =>
        intro hk
        by_cases h : listed.getD k false = true
        · exact h
        · exfalso
          obtain ⟨o, ho⟩ : ∃ o, ops[k]? = some o := ⟨ops[k], by simp [Array.getElem?_eq_getElem hk]⟩
          have hmem : k ∈ Region.ready .any ops listed := by
            rw [mem_ready]
            refine ⟨?_, o, ho, fun e he hb => ih _ ((commB_spec hc ho).2.1 e he hb) (by have := (commB_spec hc ho).2.1 e he hb; omega)⟩
            have hks : k < listed.size := by rw [inv.size]; exact hk
            have h' : listed.getD k false = false := by simpa using h
            simpa [Array.getD_eq_getD_getElem?, Array.getElem?_eq_getElem hks] using h'
          rw [hr] at hmem; cases hmem
    have e : a = actL ops a0 val (fun _ => true) ops.size := by
      rw [inv.act]
      have : ∀ m, m ≤ ops.size → actL ops a0 val (fun i => listed.getD i false) m = actL ops a0 val (fun _ => true) m := by
        intro m
        induction m with
        | zero => intro _; rfl
        | succ m ih => intro hm; unfold actL; rw [ih (by omega), if_pos (all m (by omega)), if_pos rfl]
      exact this _ (Nat.le_refl _)
    obtain ⟨m, hm, hcm, _, hgt⟩ := inv.far
    rw [e]
    refine hQ w ?_
    rw [cl_flat hpa hst hm (Nat.le_refl _) (fun k o h1 h2 ho hk => by have := hgt k o h1 ho hk; rw [all k h2] at this; cases this)]
    exact hcm
  intro fuel
  induction fuel with
  | zero =>
    intro listed a w inv _
    by_cases h : (List.range ops.size).countP (fun k => !listed.getD k false) = 0
    · left
      have hr : Region.ready .any ops listed = [] := by
        rw [List.eq_nil_iff_forall_not_mem]
        intro k hk
        rw [mem_ready] at hk
        obtain ⟨h1, o, ho, _⟩ := hk
        have hin : k < ops.size := by
          rcases Nat.lt_or_ge k ops.size with h' | h'
          · exact h'
          · rw [Array.getElem?_eq_none h'] at ho; cases ho
        have h2 := List.countP_eq_zero.1 h k (List.mem_range.2 hin)
        apply h2
        have hks : k < listed.size := by rw [inv.size]; exact hin
        simpa [Array.getD_eq_getD_getElem?, Array.getElem?_eq_getElem hks] using h1
      exact ⟨hr, fin listed a w inv hr⟩
    · right; omega
  | succ fuel ih =>
    intro listed a w inv hlp
    by_cases hcount : fuel + 1 < (List.range ops.size).countP (fun k => !listed.getD k false)
    · exact .inr hcount
    left
    refine ⟨fin listed a w inv, fun i hi => ?_⟩
    have hi' := hi
    rw [mem_ready] at hi
    obtain ⟨hi0, o, ho, hpre⟩ := hi
    have hin : i < ops.size := by
      rcases Nat.lt_or_ge i ops.size with h' | h'
      · exact h'
      · rw [Array.getElem?_eq_none h'] at ho; cases ho
    have his : i < listed.size := by rw [inv.size]; exact hin
    have hif : listed.getD i false = false := by simpa [Array.getD_eq_getD_getElem?, Array.getElem?_eq_getElem his] using hi0
    obtain ⟨hsel, hback, hbit⟩ := commB_spec hc ho
    have hlook := looks_same (a0 := a0) (val := val) hc inv.down ho hif hpre
    rw [← inv.act] at hlook
    have hex := exec_same hsel hlook
    have hwant := wanted_same (o := o) hlook
    -- the invariant behind it, wherever the world is right
    have hdown' : Down ops (fun k => (listed.setIfInBounds i true).getD k false) := by
      intro k q hq hk e he hb
      simp only [getD_set_eq his, Bool.or_eq_true, decide_eq_true_eq] at hk ⊢
      rcases hk with hk | hk
      · exact .inl (inv.down k q hq hk e he hb)
      · subst hk
        rw [ho] at hq; injection hq with hq; subst hq
        exact .inl (hpre e he hb)
    have hact' : a.put o.dst (val i) = actL ops a0 val (fun k => (listed.setIfInBounds i true).getD k false) ops.size := by
      have e := actL_put (ops := ops) (a0 := a0) (val := val) (fun k => listed.getD k false) i (fun k => (listed.setIfInBounds i true).getD k false) hif (fun j => getD_set_eq his) ops.size hin (by
        intro j hj hjn hlj d hd hdj
        obtain ⟨p, hp, hpd⟩ : ∃ p, ops[j]? = some p ∧ p.dst = some d := by
          unfold dstOf at hdj
          cases hop : ops[j]? with
          | none => rw [hop] at hdj; cases hdj
          | some p => rw [hop] at hdj; exact ⟨p, rfl, hdj⟩
        have hod : o.dst = some d := by unfold dstOf at hd; rw [ho] at hd; exact hd
        have hcl : clash ops (kd i) (kd j) o p = true := by simp [clash, hod, hpd]
        have := befL_down inv.down ops.toList [] (by simp) (by simp) j hlj i ((commB_spec hc hp).2.2 i o hj ho hcl)
        rw [hif] at this; cases this)
      have e2 : dstOf ops i = o.dst := by unfold dstOf; rw [ho]; rfl
      rw [e, e2, ← inv.act]
    have hless : ∀ n : Nat, (List.range ops.size).countP (fun k => !listed.getD k false) ≤ n + 1 → (List.range ops.size).countP (fun k => !(listed.setIfInBounds i true).getD k false) ≤ n := by
      intro n hn
      have key : ∀ l : List Nat, l.Nodup → i ∈ l → l.countP (fun k => !(listed.setIfInBounds i true).getD k false) + 1 = l.countP (fun k => !listed.getD k false) := by
        intro l
        induction l with
        | nil => intro _ h; cases h
        | cons x l ihl =>
          intro hnd hmem
          rw [List.countP_cons, List.countP_cons]
          have hnd' := List.nodup_cons.1 hnd
          by_cases hx : x = i
          · subst hx
            have same : l.countP (fun k => !(listed.setIfInBounds x true).getD k false) = l.countP (fun k => !listed.getD k false) := by
              refine List.countP_congr fun k hk => ?_
              have hne : k ≠ x := fun h => hnd'.1 (h ▸ hk)
              rw [getD_set_eq his]
              simp [hne]
            have e1 : (listed.setIfInBounds x true).getD x false = true := by rw [getD_set_eq his]; simp
            rw [same, e1, hif]; simp
          · have hm : i ∈ l := by
              rcases List.mem_cons.1 hmem with h | h
              · exact absurd h.symm hx
              · exact h
            have e1 : (listed.setIfInBounds i true).getD x false = listed.getD x false := by rw [getD_set_eq his]; simp [hx]
            have := ihl hnd'.2 hm
            rw [e1]; omega
      have := key _ List.nodup_range (List.mem_range.2 hin)
      omega
    have go : ∀ w', (∃ m, m ≤ ops.size ∧ cl m w' ∧ (∀ k o, k < m → ops[k]? = some o → kd k = 2 → (listed.setIfInBounds i true).getD k false = true) ∧ (∀ k o, m ≤ k → ops[k]? = some o → kd k = 2 → (listed.setIfInBounds i true).getD k false = false)) →
        wpAny P .any ops Q fuel (listed.setIfInBounds i true) (a.put o.dst (val i)) w' := by
      intro w' hfar
      rcases ih (listed.setIfInBounds i true) (a.put o.dst (val i)) w' ⟨by simp [inv.size], hdown', hact', hfar⟩ (fun hl => by rw [getD_set_eq his, hlp hl]; rfl) with h | h
      · exact h
      · have := hless fuel (by omega); omega
    obtain ⟨m, hm, hcm, hlt, hge⟩ := inv.far
    -- not a store: how far the stores have come is as it was
    have far0 : kd i ≠ 2 → ∀ w', cl m w' → wpAny P .any ops Q fuel (listed.setIfInBounds i true) (a.put o.dst (val i)) w' := by
      intro hk w' hcw
      refine go w' ⟨m, hm, hcw, fun k q h1 h2 h3 => ?_, fun k q h1 h2 h3 => ?_⟩
      · rw [getD_set_eq his, hlt k q h1 h2 h3]; rfl
      · rw [getD_set_eq his, hge k q h1 h2 h3]
        have : k ≠ i := fun h => by subst h; rw [ho] at h2; injection h2 with h2; subst h2; exact hk h3
        simp [this]
    -- an operation that looks at memory stands between the stores as the text has it
    have stores : kd i ≠ 0 → (∀ k q, ops[k]? = some q → kd k = 2 → k ≠ i → (listed.getD k false = decide (k < i))) := by
      intro hk k q hq hkq hne
      rcases Nat.lt_or_ge k i with h | h
      · have hcl : clash ops (kd k) (kd i) q o = true := by
          unfold clash
          have h0 : (kd i == 0) = false := by simpa using hk
          simp [hkq, h0]
        have hb := hbit k q h hq hcl
        have hdi : Down ops (fun j => listed.getD j false || decide (j = i)) := by
          intro j p hp hj e he hbi
          simp only [Bool.or_eq_true, decide_eq_true_eq] at hj ⊢
          rcases hj with hj | hj
          · exact .inl (inv.down j p hp hj e he hbi)
          · subst hj
            rw [ho] at hp; injection hp with hp; subst hp
            exact .inl (hpre e he hbi)
        have := befL_down hdi ops.toList [] (by simp) (by simp) i (by simp) k hb
        simp only [Bool.or_eq_true, decide_eq_true_eq] at this
        rcases this with h1 | h1
        · rw [h1]; simp [h]
        · exact absurd h1 hne
      · have hlt' : i < k := by omega
        have hcl : clash ops (kd i) (kd k) o q = true := by
          unfold clash
          have h0 : (kd i == 0) = false := by simpa using hk
          simp [hkq, h0]
        have hb := (commB_spec hc hq).2.2 i o hlt' ho hcl
        by_cases hl : listed.getD k false = true
        · have := befL_down inv.down ops.toList [] (by simp) (by simp) k hl i hb
          rw [hif] at this; cases this
        · have : listed.getD k false = false := by simpa using hl
          rw [this]; simp; omega
    have clm : kd i ≠ 0 → cl m = cl i := by
      intro hk
      have hs := stores hk
      rcases Nat.lt_or_ge m i with h | h
      · -- no store between m and i
        refine (cl_flat hpa hst (by omega) (by omega) fun k q h1 h2 hq hkq => ?_).symm
        have e1 := hge k q h1 hq hkq
        have e2 := hs k q hq hkq (by omega)
        rw [e1] at e2; simp at e2; omega
      · refine cl_flat hpa hst h hm fun k q h1 h2 hq hkq => ?_
        have e1 := hlt k q h2 hq hkq
        by_cases hki : k = i
        · subst hki; rw [hif] at e1; cases e1
        · have e2 := hs k q hq hkq hki
          rw [e1] at e2; simp at e2; omega
    unfold wpOp
    rw [ho]
    simp only
    have hip : i ≠ pa := fun h => by
      subst h
      rw [hlp hin] at hif; cases hif
    rcases hst i o ho hip with ⟨hw, hv, hcc, hk2⟩ | ⟨hw, hcase⟩
    · rw [hwant, hw]
      simp only [Bool.false_eq_true, if_false]
      rw [← hv]
      exact far0 hk2 w hcm
    · rw [hwant, hw]
      simp only [if_true]
      left
      unfold Oper.wp
      rcases hcase with ⟨hk, hrun, hcc⟩ | ⟨hk, hrun, hcc⟩ | ⟨hk, hv, hrun⟩
      · rw [hex, hrun w ⟨m, hm, hcm⟩]
        exact far0 (by omega) w hcm
      · have hci : cl i w := by rw [← clm (by omega)]; exact hcm
        have hq := hrun w hci
        unfold Oper.quietAt at hq
        rw [hex]
        generalize (execOp (actL ops a0 val (fun _ => true) i).eval o).run P w = r at *
        have back : ∀ w', cl i w' → wpAny P .any ops Q fuel (listed.setIfInBounds i true) (a.put o.dst (val i)) w' := fun w' h => far0 (by omega) w' (by rw [clm (by omega)]; exact h)
        cases r with
        | ok n w' =>
          cases n <;> simp only [Oper.quietUpon] at hq <;> simp only [Oper.upon]
          case value u =>
            obtain ⟨e1, e2⟩ := hq
            rw [e1, e2]
            exact back w hci
          case skip =>
            obtain ⟨e1, e2⟩ := hq
            rw [e1, ← e2]
            exact back w hci
          case enter f args =>
            obtain ⟨e1, hcall⟩ := hq
            rw [e1]
            exact hcall.mono fun e w'' ⟨he, hw''⟩ => by subst he; exact back _ hw''
        | halt x w' => simp only [Oper.quietUpon] at hq
      · have hci : cl i w := by rw [← clm (by omega)]; exact hcm
        obtain ⟨w', hr, hcw'⟩ := hrun w hci
        rw [hex, hr]
        simp only [Oper.upon]
        rw [← hv]
        have hs := stores (by omega)
        refine go w' ⟨i + 1, by omega, hcw', fun k q h1 h2 h3 => ?_, fun k q h1 h2 h3 => ?_⟩
        · rw [getD_set_eq his]
          by_cases hki : k = i
          · simp [hki]
          · have := hs k q h2 h3 hki
            rw [this]; simp; omega
        · rw [getD_set_eq his]
          have hki : k ≠ i := by omega
          have := hs k q h2 h3 hki
          rw [this]; simp [hki]; omega

/-- A region that draws its order, by the order of the text. -/
theorem wp_region_comm {id : Nat} {Q : Exit → Act → World → Prop} {w : World} (hm : P.follows .mixedOrders = true) (hc : commB ops kd = true)
    (hst : ∀ i o, ops[i]? = some o → StepD P ops (kd i) (fun w => ∃ m, m ≤ ops.size ∧ cl m w) o (actL ops a0 val (fun _ => true) i) (cl i) (val i) (cl (i + 1)))
    (h0 : cl 0 { w with drawn := w.drawn + 1 }) (hQ : ∀ w, cl ops.size w → Q .normal (actL ops a0 val (fun _ => true) ops.size) w) : (Code.region id ops true).wp P Q a0 w := by
  refine wp_region_any hm ?_
  have e0 : ∀ j, (Array.replicate ops.size false).getD j false = false := fun j => by
    rw [Array.getD_eq_getD_getElem?, Array.getElem?_replicate]
    split <;> rfl
  have inv : Inv ops kd a0 val cl (Array.replicate ops.size false) a0 { w with drawn := w.drawn + 1 } := by
    refine ⟨by simp, ?_, ?_, 0, Nat.zero_le _, h0, fun k o hk => absurd hk (Nat.not_lt_zero k), fun k o _ _ _ => e0 k⟩
    · intro i o _ hi
      simp only [e0] at hi; cases hi
    have : ∀ m, actL ops a0 val (fun i => (Array.replicate ops.size false).getD i false) m = a0 := by
      intro m
      induction m with
      | zero => rfl
      | succ m ih => unfold actL; rw [if_neg (by rw [e0]; simp), ih]
    rw [this]
  rcases wpAny_comm (pa := ops.size) (.inr (Nat.le_refl _)) hc (fun i o h _ => hst i o h) hQ ops.size _ a0 _ inv (fun h => absurd h (Nat.lt_irrefl _)) with h | h
  · exact h
  · have := List.countP_le_length (p := fun k => !(Array.replicate ops.size false).getD k false) (l := List.range ops.size)
    rw [List.length_range] at this; omega
/-- A region that makes one block, wherever in the order; what stands ahead of it in the text only looks, what stands behind it waits for it. -/
theorem wpAny_alloc {Q : Exit → Act → World → Prop} {pa : Nat} {op : Oper} {K : World → Prop} (hop : ops[pa]? = some op) (hkp : kd pa ≠ 2) (hc : commB ops kd = true)
    (hpre : ∀ j, j < pa → kd j ≠ 2) (htail : ∀ j o, pa < j → ops[j]? = some o → ((befL ops.toList []).getD j 0).testBit pa = true)
    (hst : ∀ i o, i < pa → ops[i]? = some o → StepD P ops (kd i) K o (actL ops a0 val (fun _ => true) i) K (val i) K)
    (hal : ∀ w (a : Act), K w → (∀ t ∈ op.looksAt ops, a.tmps[t]? = (actL ops a0 val (fun _ => true) pa).tmps[t]?) → ∃ v w1, Region.wanted op (yielded ops a.tmps) = true ∧ (execOp a.eval op).run P w = .ok (.value v) w1 ∧
      ∃ (val2 : Nat → Value) (cl2 : Nat → World → Prop), (∀ i, i < pa → val2 i = val i) ∧ val2 pa = v ∧ cl2 0 w1 ∧ cl2 (pa + 1) = cl2 pa ∧
        (∀ i o, ops[i]? = some o → i ≠ pa → StepD P ops (kd i) (fun w => ∃ m, m ≤ ops.size ∧ cl2 m w) o (actL ops a0 val2 (fun _ => true) i) (cl2 i) (val2 i) (cl2 (i + 1))) ∧
        ∀ w, cl2 ops.size w → Q .normal (actL ops a0 val2 (fun _ => true) ops.size) w) :
    ∀ (fuel : Nat) (listed : Array Bool) (a : Act) (w : World), listed.size = ops.size → Down ops (fun i => listed.getD i false) → a = actL ops a0 val (fun i => listed.getD i false) ops.size → (∀ j, pa ≤ j → listed.getD j false = false) → K w →
      wpAny P .any ops Q fuel listed a w ∨ fuel < (List.range ops.size).countP (fun k => !listed.getD k false) := by
  have hpin : pa < ops.size := by
    rcases Nat.lt_or_ge pa ops.size with h' | h'
    · exact h'
    · rw [Array.getElem?_eq_none h'] at hop; cases hop
  have some_ready : ∀ (listed : Array Bool), listed.size = ops.size → (∀ j, pa ≤ j → listed.getD j false = false) → Region.ready .any ops listed ≠ [] := by
    intro listed hsz hno hr
    have all : ∀ k, k < ops.size → listed.getD k false = true := by
      intro k
      induction k using Nat.strongRecOn with
      | _ k ih =>
        intro hk
        by_cases h : listed.getD k false = true
        · exact h
        · exfalso
          obtain ⟨o, ho⟩ : ∃ o, ops[k]? = some o := ⟨ops[k], by simp [Array.getElem?_eq_getElem hk]⟩
          have hmem : k ∈ Region.ready .any ops listed := by
            rw [mem_ready]
            refine ⟨?_, o, ho, fun e he hb => ih _ ((commB_spec hc ho).2.1 e he hb) (by have := (commB_spec hc ho).2.1 e he hb; omega)⟩
            have hks : k < listed.size := by rw [hsz]; exact hk
            have h' : listed.getD k false = false := by simpa using h
            simpa [Array.getD_eq_getD_getElem?, Array.getElem?_eq_getElem hks] using h'
          rw [hr] at hmem; cases hmem
    have := all pa hpin
    rw [hno pa (Nat.le_refl _)] at this; cases this
  intro fuel
  induction fuel with
  | zero =>
    intro listed a w hsz _ _ hno _
    right
    have : 0 < (List.range ops.size).countP (fun k => !listed.getD k false) := List.countP_pos_iff.2 ⟨pa, List.mem_range.2 hpin, by simp [hno pa (Nat.le_refl _)]⟩
    exact this
  | succ fuel ih =>
    intro listed a w hsz hdn hact hno hK
    by_cases hcount : fuel + 1 < (List.range ops.size).countP (fun k => !listed.getD k false)
    · exact .inr hcount
    left
    refine ⟨fun hr => absurd hr (some_ready listed hsz hno), fun i hi => ?_⟩
    rw [mem_ready] at hi
    obtain ⟨hi0, o, ho, hpr⟩ := hi
    have hin : i < ops.size := by
      rcases Nat.lt_or_ge i ops.size with h' | h'
      · exact h'
      · rw [Array.getElem?_eq_none h'] at ho; cases ho
    have his : i < listed.size := by rw [hsz]; exact hin
    have hif : listed.getD i false = false := by simpa [Array.getD_eq_getD_getElem?, Array.getElem?_eq_getElem his] using hi0
    obtain ⟨hsel, hback, hbit⟩ := commB_spec hc ho
    have hlook := looks_same (a0 := a0) (val := val) hc hdn ho hif hpr
    rw [← hact] at hlook
    have hex := exec_same hsel hlook
    have hwant := wanted_same (o := o) hlook
    have hdi : Down ops (fun j => listed.getD j false || decide (j = i)) := by
      intro j p hp hj e he hbi
      simp only [Bool.or_eq_true, decide_eq_true_eq] at hj ⊢
      rcases hj with hj | hj
      · exact .inl (hdn j p hp hj e he hbi)
      · subst hj
        rw [ho] at hp; injection hp with hp; subst hp
        exact .inl (hpr e he hbi)
    have hdown' : Down ops (fun k => (listed.setIfInBounds i true).getD k false) := by
      intro k q hq hk e he hb
      simp only [getD_set_eq his] at hk ⊢
      exact hdi k q hq hk e he hb
    have hip : i ≤ pa := by
      rcases Nat.lt_or_ge pa i with h | h
      · have := befL_down hdi ops.toList [] (by simp) (by simp) i (by simp) pa (htail i o h ho)
        simp only [Bool.or_eq_true, decide_eq_true_eq] at this
        rcases this with h1 | h1
        · rw [hno pa (Nat.le_refl _)] at h1; cases h1
        · omega
      · exact h
    have hless : ∀ n : Nat, (List.range ops.size).countP (fun k => !listed.getD k false) ≤ n + 1 → (List.range ops.size).countP (fun k => !(listed.setIfInBounds i true).getD k false) ≤ n := by
      intro n hn
      have key : ∀ l : List Nat, l.Nodup → i ∈ l → l.countP (fun k => !(listed.setIfInBounds i true).getD k false) + 1 = l.countP (fun k => !listed.getD k false) := by
        intro l
        induction l with
        | nil => intro _ h; cases h
        | cons x l ihl =>
          intro hnd hmem
          rw [List.countP_cons, List.countP_cons]
          have hnd' := List.nodup_cons.1 hnd
          by_cases hx : x = i
          · subst hx
            have same : l.countP (fun k => !(listed.setIfInBounds x true).getD k false) = l.countP (fun k => !listed.getD k false) := by
              refine List.countP_congr fun k hk => ?_
              have hne : k ≠ x := fun h => hnd'.1 (h ▸ hk)
              rw [getD_set_eq his]
              simp [hne]
            have e1 : (listed.setIfInBounds x true).getD x false = true := by rw [getD_set_eq his]; simp
            rw [same, e1, hif]; simp
          · have hm : i ∈ l := by
              rcases List.mem_cons.1 hmem with h | h
              · exact absurd h.symm hx
              · exact h
            have e1 : (listed.setIfInBounds i true).getD x false = listed.getD x false := by rw [getD_set_eq his]; simp [hx]
            have := ihl hnd'.2 hm
            rw [e1]; omega
      have := key _ List.nodup_range (List.mem_range.2 hin)
      omega
    have hact2 : ∀ val2 : Nat → Value, (∀ j, j < pa → val2 j = val j) → a = actL ops a0 val2 (fun i => listed.getD i false) ops.size := by
      intro val2 hv2
      rw [hact]
      have : ∀ m, actL ops a0 val (fun i => listed.getD i false) m = actL ops a0 val2 (fun i => listed.getD i false) m := by
        intro m
        induction m with
        | zero => rfl
        | succ m ih2 =>
          unfold actL
          rw [ih2]
          by_cases hm : m < pa
          · rw [hv2 m hm]
          · rw [hno m (by omega)]; rfl
      exact this _
    have hactp : ∀ val2 : Nat → Value, (∀ j, j < pa → val2 j = val j) → a.put o.dst (val2 i) = actL ops a0 val2 (fun k => (listed.setIfInBounds i true).getD k false) ops.size := by
      intro val2 hv2
      have e := actL_put (ops := ops) (a0 := a0) (val := val2) (fun k => listed.getD k false) i (fun k => (listed.setIfInBounds i true).getD k false) hif (fun j => getD_set_eq his) ops.size hin (by
        intro j hj hjn hlj d hd hdj
        obtain ⟨p, hp, hpd⟩ : ∃ p, ops[j]? = some p ∧ p.dst = some d := by
          unfold dstOf at hdj
          cases hop : ops[j]? with
          | none => rw [hop] at hdj; cases hdj
          | some p => rw [hop] at hdj; exact ⟨p, rfl, hdj⟩
        have hod : o.dst = some d := by unfold dstOf at hd; rw [ho] at hd; exact hd
        have hcl : clash ops (kd i) (kd j) o p = true := by simp [clash, hod, hpd]
        have := befL_down hdn ops.toList [] (by simp) (by simp) j hlj i ((commB_spec hc hp).2.2 i o hj ho hcl)
        rw [hif] at this; cases this)
      have e2 : dstOf ops i = o.dst := by unfold dstOf; rw [ho]; rfl
      rw [e, e2, ← hact2 val2 hv2]
    by_cases hpi : i = pa
    · -- the block is made
      subst hpi
      rw [hop] at ho; injection ho with ho; subst ho
      obtain ⟨v, w1, hwn, hrun, val2, cl2, hv, hvp, hc0, hcp, hst2, hQ2⟩ := hal w a hK hlook
      unfold wpOp
      rw [hop]
      simp only
      rw [hwn]
      simp only [if_true]
      left
      unfold Oper.wp
      rw [hrun]
      simp only [Oper.upon]
      have inv : Inv ops kd a0 val2 cl2 (listed.setIfInBounds i true) (a.put op.dst v) w1 := by
        refine ⟨by simp [hsz], hdown', ?_, 0, Nat.zero_le _, hc0, fun k o hk => absurd hk (Nat.not_lt_zero k), fun k q _ hq hk => ?_⟩
        · rw [← hvp]; exact hactp val2 hv
        · rw [getD_set_eq his]
          rcases Nat.lt_or_ge k i with h | h
          · exact absurd hk (hpre k h)
          · rw [hno k h]
            have : k ≠ i := fun h => hkp (by rw [← h]; exact hk)
            simp [this]
      rcases wpAny_comm (.inl ⟨hkp, hcp⟩) hc hst2 hQ2 fuel _ _ _ inv (fun _ => by rw [getD_set_eq his]; simp) with h | h
      · exact h
      · have := hless fuel (by omega); omega
    · have hlt : i < pa := by omega
      have go : ∀ w', K w' → wpAny P .any ops Q fuel (listed.setIfInBounds i true) (a.put o.dst (val i)) w' := by
        intro w' hK'
        rcases ih (listed.setIfInBounds i true) (a.put o.dst (val i)) w' (by simp [hsz]) hdown' (hactp val (fun _ _ => rfl)) (fun j hj => by rw [getD_set_eq his, hno j hj]; simp; omega) hK' with h | h
        · exact h
        · have := hless fuel (by omega); omega
      unfold wpOp
      rw [ho]
      simp only
      rcases hst i o hlt ho with ⟨hw, hv, hcc, hk2⟩ | ⟨hw, hcase⟩
      · rw [hwant, hw]
        simp only [Bool.false_eq_true, if_false]
        rw [← hv]
        exact go w hK
      · rw [hwant, hw]
        simp only [if_true]
        left
        unfold Oper.wp
        rcases hcase with ⟨hk, hrun, hcc⟩ | ⟨hk, hrun, hcc⟩ | ⟨hk, hv, hrun⟩
        · rw [hex, hrun w hK]
          exact go w hK
        · have hq := hrun w hK
          unfold Oper.quietAt at hq
          rw [hex]
          generalize (execOp (actL ops a0 val (fun _ => true) i).eval o).run P w = r at *
          cases r with
          | ok n w' =>
            cases n <;> simp only [Oper.quietUpon] at hq <;> simp only [Oper.upon]
            case value u =>
              obtain ⟨e1, e2⟩ := hq
              rw [e1, e2]
              exact go w hK
            case skip =>
              obtain ⟨e1, e2⟩ := hq
              rw [e1, ← e2]
              exact go w hK
            case enter f args =>
              obtain ⟨e1, hcall⟩ := hq
              rw [e1]
              exact hcall.mono fun e w'' ⟨he, hw''⟩ => by subst he; exact go _ hw''
          | halt x w' => simp only [Oper.quietUpon] at hq
        · exact absurd hk (hpre i hlt)

/-- Such a region, from its begin. -/
theorem wp_region_alloc {id : Nat} {Q : Exit → Act → World → Prop} {w : World} {pa : Nat} {op : Oper} {K : World → Prop} (hm : P.follows .mixedOrders = true) (hop : ops[pa]? = some op) (hkp : kd pa ≠ 2) (hc : commB ops kd = true)
    (hpre : ∀ j, j < pa → kd j ≠ 2) (htail : ∀ j o, pa < j → ops[j]? = some o → ((befL ops.toList []).getD j 0).testBit pa = true)
    (hst : ∀ i o, i < pa → ops[i]? = some o → StepD P ops (kd i) K o (actL ops a0 val (fun _ => true) i) K (val i) K)
    (hal : ∀ w (a : Act), K w → (∀ t ∈ op.looksAt ops, a.tmps[t]? = (actL ops a0 val (fun _ => true) pa).tmps[t]?) → ∃ v w1, Region.wanted op (yielded ops a.tmps) = true ∧ (execOp a.eval op).run P w = .ok (.value v) w1 ∧
      ∃ (val2 : Nat → Value) (cl2 : Nat → World → Prop), (∀ i, i < pa → val2 i = val i) ∧ val2 pa = v ∧ cl2 0 w1 ∧ cl2 (pa + 1) = cl2 pa ∧
        (∀ i o, ops[i]? = some o → i ≠ pa → StepD P ops (kd i) (fun w => ∃ m, m ≤ ops.size ∧ cl2 m w) o (actL ops a0 val2 (fun _ => true) i) (cl2 i) (val2 i) (cl2 (i + 1))) ∧
        ∀ w, cl2 ops.size w → Q .normal (actL ops a0 val2 (fun _ => true) ops.size) w)
    (h0 : K { w with drawn := w.drawn + 1 }) : (Code.region id ops true).wp P Q a0 w := by
  refine wp_region_any hm ?_
  have e0 : ∀ j, (Array.replicate ops.size false).getD j false = false := fun j => by
    rw [Array.getD_eq_getD_getElem?, Array.getElem?_replicate]
    split <;> rfl
  have this0 : ∀ m, actL ops a0 val (fun i => (Array.replicate ops.size false).getD i false) m = a0 := by
    intro m
    induction m with
    | zero => rfl
    | succ m ih => unfold actL; rw [if_neg (by rw [e0]; simp), ih]
  rcases wpAny_alloc hop hkp hc hpre htail hst hal ops.size (Array.replicate ops.size false) a0 _ (by simp) (fun i o _ hi => by simp only [e0] at hi; cases hi) (this0 _).symm (fun j _ => e0 j) h0 with h | h
  · exact h
  · have := List.countP_le_length (p := fun k => !(Array.replicate ops.size false).getD k false) (l := List.range ops.size)
    rw [List.length_range] at this; omega
end
end Go.Proofs.YtjmpoiafcdphbaaSx
