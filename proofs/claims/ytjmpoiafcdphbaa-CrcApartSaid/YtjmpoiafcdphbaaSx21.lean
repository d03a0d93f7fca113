/- Functions that are reckoned once, at a template, and used with whatever arguments; a tree that is tried as it is reckoned. -/
import Derived.Test.YtjmpoiafcdphbaaSx20
namespace Go.Proofs.YtjmpoiafcdphbaaSx
open Go.RowKit
set_option linter.unusedVariables false
set_option linter.unusedSimpArgs false
/-- What is known to be another term. -/
def tmE : List (E × E) → E → E
  | [], e => e
  | x :: l, e => match eqE x.1 e with | true => x.2 | false => tmE l e
mutual
def E.nm (σ : Nat → Option E) (τ : Nat → Option B) (tm : List (E × E)) (l : Asm) : E → E
  | .lit z => .lit z
  | .var n => match σ n with | some e => e | none => .var n
  | .bin op k a b => tmE tm (mkBin op k (E.nm σ τ tm l a) (E.nm σ τ tm l b))
  | .wrap k a => tmE tm (mkWrap k (E.nm σ τ tm l a))
  | .mx a b => mkMx (E.nm σ τ tm l a) (E.nm σ τ tm l b)
  | .mn a b => mkMn (E.nm σ τ tm l a) (E.nm σ τ tm l b)
  | .ite c a b =>
    match nKnow l (B.nm σ τ tm l c) with
    | .lit true => E.nm σ τ tm l a
    | .lit false => E.nm σ τ tm l b
    | c => mkIteE c (E.nm σ τ tm l a) (E.nm σ τ tm l b)
  | .slen n => .slen n
  | .app f a => .app f (E.nm σ τ tm l a)
def B.nm (σ : Nat → Option E) (τ : Nat → Option B) (tm : List (E × E)) (l : Asm) : B → B
  | .lit b => .lit b
  | .var n => match τ n with | some b => b | none => .var n
  | .lt a b => nLt (E.nm σ τ tm l a) (E.nm σ τ tm l b)
  | .le a b => nLe (E.nm σ τ tm l a) (E.nm σ τ tm l b)
  | .eq a b => nEq (E.nm σ τ tm l a) (E.nm σ τ tm l b)
  | .not a => mkNot (B.nm σ τ tm l a)
  | .and a b => (match B.nm σ τ tm l a with | .lit false => .lit false | a => mkAnd a (B.nm σ τ tm l b))
  | .or a b => (match B.nm σ τ tm l a with | .lit true => .lit true | a => mkOr a (B.nm σ τ tm l b))
  | .beq a b => nBeq (B.nm σ τ tm l a) (B.nm σ τ tm l b)
  | .ite c a b => mkIteB (nKnow l (B.nm σ τ tm l c)) (B.nm σ τ tm l a) (B.nm σ τ tm l b)
end
def TmOk (ι : Env) (tm : List (E × E)) : Prop := ∀ x ∈ tm, x.1.den ι = x.2.den ι
section
variable {ι : Env} {σ : Nat → Option E} {τ : Nat → Option B} {tm : List (E × E)} {l : Asm}
theorem TmOk.nil : TmOk ι [] := fun _ h => by cases h
theorem tmE_den : ∀ {tm : List (E × E)} (h : TmOk ι tm) (e : E), (tmE tm e).den ι = e.den ι
  | [], _, _ => rfl
  | x :: tm, h, e => by
    simp only [tmE]
    split
    · rename_i he
      rw [← eqE_eq _ _ he]; exact (h x (List.mem_cons_self ..)).symm
    · exact tmE_den (fun y hy => h y (List.mem_cons_of_mem _ hy)) e
mutual
theorem E.nm_den (ht : TmOk ι tm) (hl : AsmOk ι l) : ∀ e : E, (e.nm σ τ tm l).den ι = e.den (ι.sub σ τ)
  | .lit _ => rfl
  | .var n => by
    simp only [E.nm, E.den, Env.sub]
    cases σ n <;> rfl
  | .bin op k a b => by simp only [E.nm, tmE_den ht, mkBin_den, E.den, E.nm_den ht hl a, E.nm_den ht hl b]
  | .wrap k a => by simp only [E.nm, tmE_den ht, mkWrap_den, E.den, E.nm_den ht hl a]
  | .mx a b => by simp only [E.nm, mkMx_den, E.den, E.nm_den ht hl a, E.nm_den ht hl b]
  | .mn a b => by simp only [E.nm, mkMn_den, E.den, E.nm_den ht hl a, E.nm_den ht hl b]
  | .ite c a b => by
    simp only [E.nm]
    have hc : (nKnow l (B.nm σ τ tm l c)).den ι = c.den (ι.sub σ τ) := by rw [nKnow_den hl, B.nm_den ht hl c]
    split
    · rename_i h; rw [h] at hc; simp only [B.den] at hc; simp only [E.den, ← hc, if_true]; exact E.nm_den ht hl a
    · rename_i h; rw [h] at hc; simp only [B.den] at hc; simp only [E.den, ← hc]; exact E.nm_den ht hl b
    · rw [mkIteE_den, hc]; simp only [E.den, E.nm_den ht hl a, E.nm_den ht hl b]
  | .slen n => rfl
  | .app f a => by simp only [E.nm, E.den, E.nm_den ht hl a, Env.sub]
theorem B.nm_den (ht : TmOk ι tm) (hl : AsmOk ι l) : ∀ b : B, (b.nm σ τ tm l).den ι = b.den (ι.sub σ τ)
  | .lit _ => rfl
  | .var n => by
    simp only [B.nm, B.den, Env.sub]
    cases τ n <;> rfl
  | .lt a b => by simp only [B.nm, nLt_den, B.den, E.nm_den ht hl a, E.nm_den ht hl b]
  | .le a b => by simp only [B.nm, nLe_den, B.den, E.nm_den ht hl a, E.nm_den ht hl b]
  | .eq a b => by simp only [B.nm, nEq_den, B.den, E.nm_den ht hl a, E.nm_den ht hl b]
  | .not a => by simp only [B.nm, mkNot_den, B.den, B.nm_den ht hl a]
  | .and a b => by
    have h1 := B.nm_den ht hl a
    simp only [B.nm]
    split
    · rename_i e; rw [e] at h1; simp only [B.den] at h1; simp only [B.den, ← h1, Bool.false_and]
    · rw [mkAnd_den, h1, B.nm_den ht hl b]; rfl
  | .or a b => by
    have h1 := B.nm_den ht hl a
    simp only [B.nm]
    split
    · rename_i e; rw [e] at h1; simp only [B.den] at h1; simp only [B.den, ← h1, Bool.true_or]
    · rw [mkOr_den, h1, B.nm_den ht hl b]; rfl
  | .beq a b => by simp only [B.nm, nBeq_den, B.den, B.nm_den ht hl a, B.nm_den ht hl b]
  | .ite c a b => by simp only [B.nm, mkIteB_den, nKnow_den hl, B.den, B.nm_den ht hl c, B.nm_den ht hl a, B.nm_den ht hl b]
end
def noneE : Nat → Option E := fun _ => none
def noneB : Nat → Option B := fun _ => none
theorem sub_none : ι.sub noneE noneB = ι := rfl
/-- What is known, or follows from bounds, part by part. -/
def B.kz (bd : Nat → Option Iv) (l : Asm) : B → B
  | .lit b => .lit b
  | .not a => mkNot (B.kz bd l a)
  | .and a b => (match lookB (.and a b) l with | some v => .lit v | none => (match B.kz bd l a with | .lit false => .lit false | a => mkAnd a (B.kz bd l b)))
  | .or a b => (match lookB (.or a b) l with | some v => .lit v | none => (match B.kz bd l a with | .lit true => .lit true | a => mkOr a (B.kz bd l b)))
  | .beq a b => nBeq (B.kz bd l a) (B.kz bd l b)
  | .ite c a b => mkIteB (B.kz bd l c) (B.kz bd l a) (B.kz bd l b)
  | c => nKnow l (ivKnow bd c)
theorem B.kz_den {bd : Nat → Option Iv} (hbd : ∀ n p, bd n = some p → inI p (ι.int n)) (hl : AsmOk ι l) : ∀ b : B, (B.kz bd l b).den ι = b.den ι
  | .lit _ => rfl
  | .var n => by simp only [B.kz]; rw [nKnow_den hl, ivKnow_den hbd]
  | .lt a b => by simp only [B.kz]; rw [nKnow_den hl, ivKnow_den hbd]
  | .le a b => by simp only [B.kz]; rw [nKnow_den hl, ivKnow_den hbd]
  | .eq a b => by simp only [B.kz]; rw [nKnow_den hl, ivKnow_den hbd]
  | .not a => by simp only [B.kz, mkNot_den, B.den, B.kz_den hbd hl a]
  | .and a b => by
    simp only [B.kz]
    split
    · rename_i v h; rw [lookB_ok _ hl h]; simp only [B.den]
    · have h1 := B.kz_den hbd hl a
      split
      · rename_i e; rw [e] at h1; simp only [B.den] at h1; simp only [B.den, ← h1, Bool.false_and]
      · rw [mkAnd_den, h1, B.kz_den hbd hl b]; rfl
  | .or a b => by
    simp only [B.kz]
    split
    · rename_i v h; rw [lookB_ok _ hl h]; simp only [B.den]
    · have h1 := B.kz_den hbd hl a
      split
      · rename_i e; rw [e] at h1; simp only [B.den] at h1; simp only [B.den, ← h1, Bool.true_or]
      · rw [mkOr_den, h1, B.kz_den hbd hl b]; rfl
  | .beq a b => by simp only [B.kz, nBeq_den, B.den, B.kz_den hbd hl a, B.kz_den hbd hl b]
  | .ite c a b => by simp only [B.kz, mkIteB_den, B.den, B.kz_den hbd hl c, B.kz_den hbd hl a, B.kz_den hbd hl b]
def stepM (tm : List (E × E)) (bd : Nat → Option Iv) (l : Asm) (c : B) : B := B.kz bd l (B.nm noneE noneB tm l c)
theorem stepM_den {bd : Nat → Option Iv} (hbd : ∀ n p, bd n = some p → inI p (ι.int n)) (ht : TmOk ι tm) (hl : AsmOk ι l) (c : B) : (stepM tm bd l c).den ι = c.den ι := by
  unfold stepM
  rw [B.kz_den hbd hl, B.nm_den ht hl, sub_none]
def isTrueB : B → Bool | .lit true => true | _ => false
theorem isTrueB_eq {b : B} (h : isTrueB b = true) : b = .lit true := by
  unfold isTrueB at h
  split at h
  · rfl
  · cases h
noncomputable def okTM (tm : List (E × E)) (bd : Nat → Option Iv) (t : T SV) : Asm → Bool :=
  T.rec (motive := fun _ => Asm → Bool) (fun v l => match v with | .bool b => isTrueB (stepM tm bd l b) | _ => false)
    (fun c _ _ it ie l => match stepM tm bd l c with
      | .lit true => it l
      | .lit false => ie l
      | c => match it (moreA (addA c true l)) with | true => ie (moreA (addA c false l)) | false => false)
    (fun c _ it l => match isTrueB (stepM tm bd l c) with | true => it l | false => false) (fun _ _ => false) t
theorem okTM_ok {bd : Nat → Option Iv} (hbd : ∀ n p, bd n = some p → inI p (ι.int n)) (ht : TmOk ι tm) (t : T SV) : ∀ {l : Asm}, AsmOk ι l → okTM tm bd t l = true → okT ι t := by
  induction t with
  | leaf v =>
    intro l hl h
    cases v <;> try (cases h)
    rename_i b
    have h : isTrueB (stepM tm bd l b) = true := h
    simp only [okT]
    rw [← stepM_den hbd ht hl b, isTrueB_eq h]; rfl
  | br c t e it ie =>
    intro l hl h
    have h : (match stepM tm bd l c with
      | .lit true => okTM tm bd t l
      | .lit false => okTM tm bd e l
      | c => match okTM tm bd t (moreA (addA c true l)) with | true => okTM tm bd e (moreA (addA c false l)) | false => false) = true := h
    simp only [okT]
    rw [← stepM_den hbd ht hl c]
    split at h
    · rename_i e1; rw [e1]; exact ⟨fun _ => it hl h, fun x => absurd rfl x⟩
    · rename_i e1; rw [e1]; exact ⟨fun x => (by cases x), fun _ => ie hl h⟩
    · split at h
      · rename_i h1
        exact ⟨fun hc => it (moreA_ok (addA_ok _ _ _ hl hc)) h1, fun hc => ie (moreA_ok (addA_ok _ _ _ hl (by simpa using hc))) h⟩
      · cases h
  | need c t it =>
    intro l hl h
    have h : (match isTrueB (stepM tm bd l c) with | true => okTM tm bd t l | false => false) = true := h
    simp only [okT]
    rw [← stepM_den hbd ht hl c]
    split at h
    · rename_i e1; rw [isTrueB_eq e1]; exact ⟨rfl, it hl h⟩
    · cases h
  | fail _ => intro l hl h; cases h
end

/-! ### Functions told of once for all arguments -/
inductive Sh where
  | one (k : FK)
  | agg (ks : List FK)
def tmplK : List FK → Nat → List SV
  | [], _ => []
  | .int k :: l, i => .int k (.var i) :: tmplK l (i + 1)
  | .bool :: l, i => .bool (.var i) :: tmplK l (i + 1)
  | .opq :: l, i => .opq i :: tmplK l (i + 1)
def tmplS : List Sh → Nat → List SV
  | [], _ => []
  | .one k :: l, i => tmplK [k] i ++ tmplS l (i + 1)
  | .agg ks :: l, i => .agg (tmplK ks i) :: tmplS l (i + ks.length)
def flatK : List FK → List SV → Bool
  | [], [] => true
  | .int k :: fk, .int k' _ :: cs => eqK k k' && flatK fk cs
  | .bool :: fk, .bool _ :: cs => flatK fk cs
  | .opq :: fk, c :: cs => c.isOne && flatK fk cs
  | _, _ => false
def flatS : List Sh → List SV → Option (List SV)
  | [], [] => some []
  | .one k :: l, c :: cs => (match flatK [k] [c], flatS l cs with | true, some r => some (c :: r) | _, _ => none)
  | .agg ks :: l, .agg c :: cs => (match flatK ks c, flatS l cs with | true, some r => some (c ++ r) | _, _ => none)
  | _, _ => none
noncomputable def sigE (cells : List SV) (n : Nat) : Option E := match nthSV cells n with | some (.int _ e) => some e | _ => none
noncomputable def sigB (cells : List SV) (n : Nat) : Option B := match nthSV cells n with | some (.bool b) => some b | _ => none
def sigV (ι : Env) (β : Bt) (cells : List SV) : Bt where
  blk := fun _ => 0
  val := fun n => match cells[n]? with | some v => (match v.isOne with | true => v.den ι β | false => .bool false) | none => .bool false
  one := fun n => by
    split
    · split
      · rename_i h; exact isOne_den h
      · rfl
    · rfl
mutual
noncomputable def SV.nm (σ : Nat → Option E) (τ : Nat → Option B) : SV → Option SV
  | .int k e => some (.int k (E.nm σ τ [] [] e))
  | .bool b => some (.bool (B.nm σ τ [] [] b))
  | .agg cs => (match SV.nmL σ τ cs with | some l => some (.agg l) | none => none)
  | .tup cs => (match SV.nmL σ τ cs with | some l => some (.tup l) | none => none)
  | _ => none
noncomputable def SV.nmL (σ : Nat → Option E) (τ : Nat → Option B) : List SV → Option (List SV)
  | [] => some []
  | v :: vs => (match SV.nm σ τ v, SV.nmL σ τ vs with | some x, some l => some (x :: l) | _, _ => none)
end
section
variable {ι : Env} {β β2 : Bt} {σ : Nat → Option E} {τ : Nat → Option B}
mutual
theorem SV.nm_den : ∀ (v x : SV), SV.nm σ τ v = some x → x.den ι β = v.den (ι.sub σ τ) β2
  | .int k e, x, h => by
    simp only [SV.nm] at h; injection h with h; subst h
    simp only [SV.den, E.nm_den TmOk.nil AsmOk.nil]
  | .bool b, x, h => by
    simp only [SV.nm] at h; injection h with h; subst h
    simp only [SV.den, B.nm_den TmOk.nil AsmOk.nil]
  | .agg cs, x, h => by
    simp only [SV.nm] at h
    split at h
    · rename_i l hl
      injection h with h; subst h
      simp only [SV.den, SV.nmL_den cs l hl]
    · cases h
  | .tup cs, x, h => by
    simp only [SV.nm] at h
    split at h
    · rename_i l hl
      injection h with h; subst h
      simp only [SV.den, SV.nmL_den cs l hl]
    · cases h
  | .ptr _ _, _, h => by cases h
  | .ptx _ _ _, _, h => by cases h
  | .gptr _ _, _, h => by cases h
  | .nilptr, _, h => by cases h
  | .slice _ _ _ _, _, h => by cases h
  | .nilslice, _, h => by cases h
  | .slc _, _, h => by cases h
  | .func _ _ _, _, h => by cases h
  | .nilfunc, _, h => by cases h
  | .nilif, _, h => by cases h
  | .str _, _, h => by cases h
  | .opq _, _, h => by cases h
  | .any _, _, h => by cases h
  | .rptr _ _ _ _, _, h => by cases h
theorem SV.nmL_den : ∀ (vs l : List SV), SV.nmL σ τ vs = some l → SV.denL ι β l = SV.denL (ι.sub σ τ) β2 vs
  | [], l, h => by simp only [SV.nmL] at h; injection h with h; subst h; rfl
  | v :: vs, l, h => by
    simp only [SV.nmL] at h
    split at h
    · rename_i x l' h1 h2
      injection h with h; subst h
      simp only [SV.denL, SV.nm_den v x h1, SV.nmL_den vs l' h2]
    · cases h
end
theorem tmplK_den {all : List SV} : ∀ (fk : List FK) (cs : List SV) (i : Nat), flatK fk cs = true → (∀ j, j < cs.length → all[i + j]? = cs[j]?) →
    SV.denL (ι.sub (sigE all) (sigB all)) (sigV ι β all) (tmplK fk i) = SV.denL ι β cs
  | [], [], _, _, _ => rfl
  | k :: fk, c :: cs, i, h, ha => by
    have h0 := ha 0 (by simp)
    simp only [Nat.add_zero, List.getElem?_cons_zero] at h0
    have hs : ∀ j, j < cs.length → all[i + 1 + j]? = cs[j]? := fun j hj => by have := ha (j + 1) (by simp; omega); simpa [Nat.add_assoc, Nat.add_comm 1 j] using this
    cases k with
    | int k =>
      cases c <;> simp only [flatK] at h <;> try (cases h)
      rename_i k' e
      simp only [Bool.and_eq_true] at h
      have hk : k = k' := of_decide_eq_true h.1
      subst hk
      have e0 : (E.var i).den (ι.sub (sigE all) (sigB all)) = e.den ι := by simp only [E.den, Env.sub, sigE, nthSV_eq, h0]
      have ih := tmplK_den fk cs (i + 1) h.2 hs
      simp only [tmplK, SV.denL, SV.den, ih, e0]
    | bool =>
      cases c <;> simp only [flatK] at h <;> try (cases h)
      rename_i b
      have e0 : (B.var i).den (ι.sub (sigE all) (sigB all)) = b.den ι := by simp only [B.den, Env.sub, sigB, nthSV_eq, h0]
      have ih := tmplK_den fk cs (i + 1) h hs
      simp only [tmplK, SV.denL, SV.den, ih, e0]
    | opq =>
      simp only [flatK, Bool.and_eq_true] at h
      have e0 : (sigV ι β all).val i = c.den ι β := by simp only [sigV, h0, h.1]
      have ih := tmplK_den fk cs (i + 1) h.2 hs
      simp only [tmplK, SV.denL, SV.den, ih, e0]
  | [], _ :: _, _, h, _ => by cases h
  | .int _ :: _, [], _, h, _ => by cases h
  | .bool :: _, [], _, h, _ => by cases h
  | .opq :: _, [], _, h, _ => by cases h
theorem flatK_length : ∀ {fk : List FK} {cs : List SV}, flatK fk cs = true → fk.length = cs.length
  | [], [], _ => rfl
  | .int k :: l, .int k' e :: cs, h => by simp only [flatK, Bool.and_eq_true] at h; simp [flatK_length h.2]
  | .bool :: l, .bool b :: cs, h => by simp only [flatK] at h; simp [flatK_length h]
  | .opq :: l, c :: cs, h => by simp only [flatK, Bool.and_eq_true] at h; simp [flatK_length h.2]
  | [], _ :: _, h => by cases h
  | .int _ :: _, [], h => by cases h
  | .bool :: _, [], h => by cases h
  | .opq :: _, [], h => by cases h
theorem tmplS_den {all : List SV} : ∀ (sh : List Sh) (args cells : List SV) (i : Nat), flatS sh args = some cells → (∀ j, j < cells.length → all[i + j]? = cells[j]?) →
    SV.denL (ι.sub (sigE all) (sigB all)) (sigV ι β all) (tmplS sh i) = SV.denL ι β args
  | [], [], _, _, _, _ => rfl
  | .one k :: sh, c :: args, cells, i, h, ha => by
    simp only [flatS] at h
    split at h
    · rename_i r h1 h2
      injection h with h; subst h
      have e1 := tmplK_den (ι := ι) (β := β) (all := all) [k] [c] i h1 (fun j hj => by have := ha j (by simp at hj; simp; omega); rw [this]; simp at hj; subst hj; rfl)
      have e2 := tmplS_den sh args r (i + 1) h2 (fun j hj => by have := ha (j + 1) (by simp; omega); simpa [Nat.add_assoc, Nat.add_comm 1 j] using this)
      simp only [tmplS]
      rw [denL_append, e1, e2]; rfl
    · cases h
  | .agg ks :: sh, a :: args, cells, i, h, ha => by
    cases a <;> simp only [flatS] at h <;> try (cases h)
    rename_i c
    split at h
    · rename_i r h1 h2
      injection h with h; subst h
      have hl := flatK_length h1
      have e1 := tmplK_den (ι := ι) (β := β) (all := all) ks c i h1 (fun j hj => by have := ha j (by simp; omega); rw [this, List.getElem?_append_left hj])
      have e2 := tmplS_den sh args r (i + ks.length) h2 (fun j hj => by
        have := ha (ks.length + j) (by simp; omega)
        rw [Nat.add_assoc, this, hl, List.getElem?_append_right (by omega)]
        congr 1; omega)
      simp only [tmplS, SV.denL, SV.den, e1, e2]
    · cases h
  | [], _ :: _, _, _, h, _ => by cases h
  | .one _ :: _, [], _, _, h, _ => by cases h
  | .agg _ :: _, [], _, _, h, _ => by cases h
end
/-- The answer at a template, turned to the arguments. -/
noncomputable def conSum (sh : List Sh) (v : SV) : ConFn := fun args n =>
  match flatS sh args with
  | some cells => (match SV.nm (sigE cells) (sigB cells) v with | some x => some (x, n) | none => none)
  | none => none
/-- What 'Hyp' says of one function. -/
def ConOk (c : Ctx) (ι : Env) (g : Nat) (f : ConFn) : Prop := ∀ args nxt v n, f args nxt = some (v, n) → nxt ≤ n → ∀ β w, GlobOk ι β c.glob w → c.base ≤ w.heap.size → (∀ k, k < c.base → w.heap[k]? = c.bw.heap[k]?) → StabL ι nxt β args →
    Calls c.P g (SV.denL ι β args).toArray w (fun e w' => ∃ β1, Agree nxt β β1 ∧ (∀ β', Agree n β1 β' → e = .returned (v.den ι β')) ∧ Below w.heap.size w w')
theorem conOf_mem {g : Nat} {f : ConFn} : ∀ {l : List (Nat × ConFn)}, conOf g l = some f → (g, f) ∈ l
  | [], h => by cases h
  | x :: l, h => by
    have h : (Bool.rec (conOf g l) (some x.2) (Nat.beq x.1 g) : Option ConFn) = some f := h
    cases hb : Nat.beq x.1 g with
    | false => rw [hb] at h; exact List.mem_cons_of_mem _ (conOf_mem h)
    | true =>
      rw [hb] at h
      have h3 : x.2 = f := Option.some.inj h
      have h4 : x.1 = g := Nat.eq_of_beq_eq_true hb
      rw [← h3, ← h4]
      exact List.mem_cons_self ..
theorem Hyp.of {c : Ctx} {ι : Env} (hm : c.P.follows .mixedOrders = true) (h : ∀ x ∈ c.con, ConOk c ι x.1 x.2) (hr : c.rows = [] := by rfl) (hl : c.lps = [] := by rfl) : Hyp c ι := ⟨hm, fun g f hf => h (g, f) (conOf_mem hf), rows_nil hr, lps_nil hl⟩
theorem Hyp.of' {c : Ctx} {ι : Env} (hm : c.P.follows .mixedOrders = true) (h : ∀ x ∈ c.con, ConOk c ι x.1 x.2) (hr : RowsOk c ι) (hl : ∀ f r F, lpOf f r c.lps = some F → ∀ fn code, c.P.funcs[f]? = some fn → fn.body = some code → ∀ x ∈ loopsOf code, firstRid x = r → ∀ w0 X, CodeOk { c with ro := 0 } w0 X ι (.loop x) F) : Hyp c ι := ⟨hm, fun g f hf => h (g, f) (conOf_mem hf), hr, hl⟩
theorem ConOk.of_hyp {c c1 : Ctx} {ι : Env} {g : Nat} {f : ConFn} (h : Hyp c1 ι) (hcon : c1.con = [(g, f)]) (hP : c1.P = c.P) (hg : c1.glob = c.glob) (hb : c1.base = c.base) (hw : c1.bw = c.bw) : ConOk c ι g f := by
  intro args nxt v n
  have := h.con g f (by rw [hcon]; show (Bool.rec none (some f) (Nat.beq g g) : Option ConFn) = some f; rw [Nat.beq_refl]) args nxt v n
  rw [hP, hg, hb, hw] at this
  exact this
theorem conSum_ok {c c0 : Ctx} {ι : Env} {g N D m : Nat} {sh : List Sh} {v : SV} (hP : c0.P = c.P) (hm : c0.P.follows .mixedOrders = true) (hc0 : c0.con = []) (hg0 : c0.glob = []) (hb0 : c0.base = 0)
    (hu : SV.underL m (tmplS sh 0) = true) (hT : mergeT ((execCall N D c0 g (tmplS sh 0) [] m []).bind fun x => .leaf x.1) = some ([], v)) (hr0 : c0.rows = [] := by rfl) (hl0 : c0.lps = [] := by rfl) : ConOk c ι g (conSum sh v) := by
  intro args nxt v' n hf hn β w _ _ _ _
  unfold conSum at hf
  split at hf
  · rename_i cells hcells
    split at hf
    · rename_i x hx
      injection hf with hf; injection hf with e1 e2; subst e1; subst e2
      have eden : SV.denL (ι.sub (sigE cells) (sigB cells)) (sigV ι β cells) (tmplS sh 0) = SV.denL ι β args := tmplS_den sh args cells 0 hcells (fun j _ => by rw [Nat.zero_add])
      obtain ⟨u, hpick, hud⟩ := mergeT_den (ι := ι.sub (sigE cells) (sigB cells)) _ [] v hT (fun q h => by cases h)
      obtain ⟨⟨v0, mm, k, l⟩, h1, h2⟩ := (pick_bind _ _ _).1 hpick
      have h2 : some v0 = some u := h2
      injection h2 with h2; subst h2
      have hM : StM c0 w (fun _ => False) (ι.sub (sigE cells) (sigB cells)) (sigV ι β cells) [] m w := fun β' _ => by
        refine ⟨fun _ _ h => (by cases h), fun _ _ h => (by cases h), List.nodup_nil, fun _ h => (by cases h), fun _ h => (by cases h), fun g cs hg => ?_, Fr.refl _ _, by rw [hb0]; exact Nat.zero_le _, fun _ h => h.elim, fun i hi => ?_⟩
        · rw [hg0] at hg; cases hg
        · rw [hb0] at hi; exact absurd hi (Nat.not_lt_zero i)
      have := execCall_ok (ι := ι.sub (sigE cells) (sigB cells)) N D c0 (Hyp.nil hm hc0 hr0 hl0) w (fun _ => False) (sigV ι β cells) g (tmplS sh 0) [] m [] w v0 mm k l (fun _ _ h => (by cases h)) (fun β' hb => underL_den hb _ hu) hM h1
      rw [eden, hP] at this
      refine Calls.mono this fun e W' ⟨_, _, β1, _, he, hM'⟩ => ⟨β, Agree.refl _ _, fun β' _ => ?_, ?_⟩
      · rw [he β1 (Agree.refl _ _), ← hud β1]
        rw [SV.nm_den (ι := ι) (β := β') (β2 := β1) v x hx]
      · have k := (hM' β1 (Agree.refl _ _)).fr
        exact ⟨k.os, k.tape, k.output, k.size, fun i hi => k.block i hi (fun h => h)⟩
    · cases hf
  · cases hf
end Go.Proofs.YtjmpoiafcdphbaaSx
