/- A tree written out at known numbers, and tried. -/
import Derived.Test.YtjmpoiafcdphbaaSx19
namespace Go.Proofs.YtjmpoiafcdphbaaSx
open Go.RowKit
set_option linter.unusedVariables false
set_option linter.unusedSimpArgs false
def nEq (a b : E) : B := match eqE a b with | true => .lit true | false => mkEq a b
def nLt (a b : E) : B := match eqE a b with | true => .lit false | false => mkLt a b
def nLe (a b : E) : B := match eqE a b with | true => .lit true | false => mkLe a b
def nBeq (a b : B) : B := match eqB a b with | true => .lit true | false => mkBeq a b
/-- As what is known says. -/
def nKnow (l : Asm) (c : B) : B := match evalA l c with | some v => .lit v | none => c
mutual
def E.nf (ev : Nat → Option Int) (l : Asm) : E → E
  | .lit z => .lit z
  | .var n => match ev n with | some z => .lit z | none => .var n
  | .bin op k a b => mkBin op k (E.nf ev l a) (E.nf ev l b)
  | .wrap k a => mkWrap k (E.nf ev l a)
  | .mx a b => mkMx (E.nf ev l a) (E.nf ev l b)
  | .mn a b => mkMn (E.nf ev l a) (E.nf ev l b)
  | .ite c a b =>
    match nKnow l (B.nf ev l c) with
    | .lit true => E.nf ev l a
    | .lit false => E.nf ev l b
    | c => mkIteE c (E.nf ev l a) (E.nf ev l b)
  | .slen n => .slen n
  | .app f a => .app f (E.nf ev l a)
def B.nf (ev : Nat → Option Int) (l : Asm) : B → B
  | .lit b => .lit b
  | .var n => .var n
  | .lt a b => nLt (E.nf ev l a) (E.nf ev l b)
  | .le a b => nLe (E.nf ev l a) (E.nf ev l b)
  | .eq a b => nEq (E.nf ev l a) (E.nf ev l b)
  | .not a => mkNot (B.nf ev l a)
  | .and a b => mkAnd (B.nf ev l a) (B.nf ev l b)
  | .or a b => mkOr (B.nf ev l a) (B.nf ev l b)
  | .beq a b => nBeq (B.nf ev l a) (B.nf ev l b)
  | .ite c a b => mkIteB (nKnow l (B.nf ev l c)) (B.nf ev l a) (B.nf ev l b)
end
section
variable {ι : Env} {ev : Nat → Option Int} {l : Asm}
theorem nEq_den (a b : E) : (nEq a b).den ι = decide (a.den ι = b.den ι) := by
  unfold nEq
  split
  · rename_i h; rw [eqE_eq a b h]; simp [B.den]
  · exact mkEq_den ι a b
theorem nLt_den (a b : E) : (nLt a b).den ι = decide (a.den ι < b.den ι) := by
  unfold nLt
  split
  · rename_i h; rw [eqE_eq a b h]; simp [B.den]
  · exact mkLt_den ι a b
theorem nLe_den (a b : E) : (nLe a b).den ι = decide (a.den ι ≤ b.den ι) := by
  unfold nLe
  split
  · rename_i h; rw [eqE_eq a b h]; simp [B.den]
  · exact mkLe_den ι a b
theorem nBeq_den (a b : B) : (nBeq a b).den ι = (a.den ι == b.den ι) := by
  unfold nBeq
  split
  · rename_i h; rw [eqB_eq a b h]; simp [B.den]
  · exact mkBeq_den ι a b
theorem nKnow_den (hl : AsmOk ι l) (c : B) : (nKnow l c).den ι = c.den ι := by
  unfold nKnow
  split
  · rename_i v h; simp only [B.den]; exact (evalA_ok hl c v h).symm
  · rfl
mutual
theorem E.nf_den (hev : ∀ n z, ev n = some z → ι.int n = z) (hl : AsmOk ι l) : ∀ e : E, (e.nf ev l).den ι = e.den ι
  | .lit _ => rfl
  | .var n => by
    simp only [E.nf]
    split
    · rename_i z h; simp only [E.den]; exact (hev n z h).symm
    · rfl
  | .bin op k a b => by simp only [E.nf, mkBin_den, E.den, E.nf_den hev hl a, E.nf_den hev hl b]
  | .wrap k a => by simp only [E.nf, mkWrap_den, E.den, E.nf_den hev hl a]
  | .mx a b => by simp only [E.nf, mkMx_den, E.den, E.nf_den hev hl a, E.nf_den hev hl b]
  | .mn a b => by simp only [E.nf, mkMn_den, E.den, E.nf_den hev hl a, E.nf_den hev hl b]
  | .ite c a b => by
    simp only [E.nf]
    have hc : (nKnow l (B.nf ev l c)).den ι = c.den ι := by rw [nKnow_den hl, B.nf_den hev hl c]
    split
    · rename_i h; rw [h] at hc; simp only [B.den] at hc; simp only [E.den, ← hc, if_true]; exact E.nf_den hev hl a
    · rename_i h; rw [h] at hc; simp only [B.den] at hc; simp only [E.den, ← hc]; exact E.nf_den hev hl b
    · rename_i x _ _; rw [mkIteE_den, hc]; simp only [E.den, E.nf_den hev hl a, E.nf_den hev hl b]
  | .slen n => rfl
  | .app f a => by simp only [E.nf, E.den, E.nf_den hev hl a]
theorem B.nf_den (hev : ∀ n z, ev n = some z → ι.int n = z) (hl : AsmOk ι l) : ∀ b : B, (b.nf ev l).den ι = b.den ι
  | .lit _ => rfl
  | .var _ => rfl
  | .lt a b => by simp only [B.nf, nLt_den, B.den, E.nf_den hev hl a, E.nf_den hev hl b]
  | .le a b => by simp only [B.nf, nLe_den, B.den, E.nf_den hev hl a, E.nf_den hev hl b]
  | .eq a b => by simp only [B.nf, nEq_den, B.den, E.nf_den hev hl a, E.nf_den hev hl b]
  | .not a => by simp only [B.nf, mkNot_den, B.den, B.nf_den hev hl a]
  | .and a b => by simp only [B.nf, mkAnd_den, B.den, B.nf_den hev hl a, B.nf_den hev hl b]
  | .or a b => by simp only [B.nf, mkOr_den, B.den, B.nf_den hev hl a, B.nf_den hev hl b]
  | .beq a b => by simp only [B.nf, nBeq_den, B.den, B.nf_den hev hl a, B.nf_den hev hl b]
  | .ite c a b => by simp only [B.nf, mkIteB_den, nKnow_den hl, B.den, B.nf_den hev hl c, B.nf_den hev hl a, B.nf_den hev hl b]
end
/-- Where bounds decide it: so. -/
def ivKnow (bd : Nat → Option Iv) (c : B) : B := match B.iv bd c with | some v => .lit v | none => c
theorem ivKnow_den {bd : Nat → Option Iv} (hbd : ∀ n p, bd n = some p → inI p (ι.int n)) (c : B) : (ivKnow bd c).den ι = c.den ι := by
  unfold ivKnow
  split
  · rename_i v h; simp only [B.den]; exact (B.iv_ok hbd c v h).symm
  · rfl
/-- Is it known as a whole? -/
def lookB (c : B) : Asm → Option Bool
  | [] => none
  | (q, v) :: l => match eqB c q with | true => some v | false => lookB c l
theorem lookB_ok (c : B) : ∀ {l : Asm} {v : Bool}, AsmOk ι l → lookB c l = some v → c.den ι = v
  | [], _, _, h => by cases h
  | (q, v) :: l, v', hl, h => by
    simp only [lookB] at h
    split at h
    · rename_i e
      injection h with h; subst h
      rw [eqB_eq c q e]; exact hl.head
    · exact lookB_ok c hl.tail h
/-- What is known, part by part. -/
def B.kn (l : Asm) : B → B
  | .lit b => .lit b
  | .not a => mkNot (B.kn l a)
  | .and a b => (match lookB (.and a b) l with | some v => .lit v | none => mkAnd (B.kn l a) (B.kn l b))
  | .or a b => (match lookB (.or a b) l with | some v => .lit v | none => mkOr (B.kn l a) (B.kn l b))
  | .beq a b => nBeq (B.kn l a) (B.kn l b)
  | .ite c a b => mkIteB (B.kn l c) (B.kn l a) (B.kn l b)
  | c => nKnow l c
theorem B.kn_den (hl : AsmOk ι l) : ∀ b : B, (B.kn l b).den ι = b.den ι
  | .lit _ => rfl
  | .var n => by simp only [B.kn]; exact nKnow_den hl _
  | .lt a b => by simp only [B.kn]; exact nKnow_den hl _
  | .le a b => by simp only [B.kn]; exact nKnow_den hl _
  | .eq a b => by simp only [B.kn]; exact nKnow_den hl _
  | .not a => by simp only [B.kn, mkNot_den, B.den, B.kn_den hl a]
  | .and a b => by
    simp only [B.kn]
    split
    · rename_i v h; rw [lookB_ok _ hl h]; simp only [B.den]
    · simp only [mkAnd_den, B.den, B.kn_den hl a, B.kn_den hl b]
  | .or a b => by
    simp only [B.kn]
    split
    · rename_i v h; rw [lookB_ok _ hl h]; simp only [B.den]
    · simp only [mkOr_den, B.den, B.kn_den hl a, B.kn_den hl b]
  | .beq a b => by simp only [B.kn, nBeq_den, B.den, B.kn_den hl a, B.kn_den hl b]
  | .ite c a b => by simp only [B.kn, mkIteB_den, B.den, B.kn_den hl c, B.kn_den hl a, B.kn_den hl b]
/-- What follows of what is known: of two that are not both so, one of which is. -/
def oneA (l : Asm) : B × Bool → Asm → Asm
  | (.and a b, false), acc => (match B.kn l a with | .lit true => addA (B.kn l b) false acc | a' => match B.kn l b with | .lit true => addA a' false acc | _ => acc)
  | (.or a b, true), acc => (match B.kn l a with | .lit false => addA (B.kn l b) true acc | a' => match B.kn l b with | .lit false => addA a' true acc | _ => acc)
  | _, acc => acc
def moreA (l : Asm) : Asm := l.foldr (oneA l) l
theorem oneA_ok (hl : AsmOk ι l) {x : B × Bool} (hx : x.1.den ι = x.2) {acc : Asm} (ha : AsmOk ι acc) : AsmOk ι (oneA l x acc) := by
  unfold oneA
  split
  · rename_i a b
    have hx : (a.den ι && b.den ι) = false := hx
    have h1 := B.kn_den hl a
    have h2 := B.kn_den hl b
    split
    · rename_i e
      rw [e] at h1
      have h1 : true = a.den ι := h1
      rw [← h1] at hx
      exact addA_ok _ _ _ ha (by rw [h2]; simpa using hx)
    · split
      · rename_i e
        rw [e] at h2
        have h2 : true = b.den ι := h2
        rw [← h2] at hx
        exact addA_ok _ _ _ ha (by rw [h1]; simpa using hx)
      · exact ha
  · rename_i a b
    have hx : (a.den ι || b.den ι) = true := hx
    have h1 := B.kn_den hl a
    have h2 := B.kn_den hl b
    split
    · rename_i e
      rw [e] at h1
      have h1 : false = a.den ι := h1
      rw [← h1] at hx
      exact addA_ok _ _ _ ha (by rw [h2]; simpa using hx)
    · split
      · rename_i e
        rw [e] at h2
        have h2 : false = b.den ι := h2
        rw [← h2] at hx
        exact addA_ok _ _ _ ha (by rw [h1]; simpa using hx)
      · exact ha
  · exact ha
theorem moreA_ok (hl : AsmOk ι l) : AsmOk ι (moreA l) := by
  have : ∀ m : Asm, (∀ x ∈ m, x.1.den ι = x.2) → AsmOk ι (m.foldr (oneA l) l) := by
    intro m
    induction m with
    | nil => intro _; exact hl
    | cons x m ih => intro h; exact oneA_ok hl (h x (List.mem_cons_self ..)) (ih fun y hy => h y (List.mem_cons_of_mem _ hy))
  exact this l fun x hx => hl x.1 x.2 hx
def stepN (ev : Nat → Option Int) (bd : Nat → Option Iv) (l : Asm) (c : B) : B := B.kn l (ivKnow bd (B.nf ev l c))
theorem stepN_den {bd : Nat → Option Iv} (hbd : ∀ n p, bd n = some p → inI p (ι.int n)) (hev : ∀ n z, ev n = some z → ι.int n = z) (hl : AsmOk ι l) (c : B) : (stepN ev bd l c).den ι = c.den ι := by
  unfold stepN
  rw [B.kn_den hl, ivKnow_den hbd, B.nf_den hev hl]
def okTN (ev : Nat → Option Int) (bd : Nat → Option Iv) : Asm → T SV → Bool
  | l, .leaf (.bool b) => (match stepN ev bd l b with | .lit true => true | _ => false)
  | _, .leaf _ => false
  | l, .br c t e =>
    (match stepN ev bd l c with
    | .lit true => okTN ev bd l t
    | .lit false => okTN ev bd l e
    | c => okTN ev bd (moreA (addA c true l)) t && okTN ev bd (moreA (addA c false l)) e)
  | l, .need c t => (match stepN ev bd l c with | .lit true => okTN ev bd l t | _ => false)
  | _, .fail _ => false
theorem okTN_ok {bd : Nat → Option Iv} (hbd : ∀ n p, bd n = some p → inI p (ι.int n)) (hev : ∀ n z, ev n = some z → ι.int n = z) : ∀ {t : T SV} {l : Asm}, AsmOk ι l → okTN ev bd l t = true → okT ι t
  | .leaf v, l, hl, h => by
    cases v <;> simp only [okTN] at h <;> try (cases h)
    rename_i b
    simp only [okT]
    rw [← stepN_den hbd hev hl b]
    split at h
    · rename_i e; rw [e]; rfl
    · cases h
  | .br c t e, l, hl, h => by
    simp only [okTN] at h
    simp only [okT]
    rw [← stepN_den hbd hev hl c]
    split at h
    · rename_i e1; rw [e1]; exact ⟨fun _ => okTN_ok hbd hev hl h, fun x => absurd rfl x⟩
    · rename_i e1; rw [e1]; exact ⟨fun x => (by cases x), fun _ => okTN_ok hbd hev hl h⟩
    · simp only [Bool.and_eq_true] at h
      exact ⟨fun hc => okTN_ok hbd hev (moreA_ok (addA_ok _ _ _ hl hc)) h.1, fun hc => okTN_ok hbd hev (moreA_ok (addA_ok _ _ _ hl (by simpa using hc))) h.2⟩
  | .need c t, l, hl, h => by
    simp only [okTN] at h
    simp only [okT]
    rw [← stepN_den hbd hev hl c]
    split at h
    · rename_i e1; rw [e1]; exact ⟨rfl, okTN_ok hbd hev hl h⟩
    · cases h
  | .fail _, _, _, h => by simp [okTN] at h
theorem okT_sub' {σ : Nat → Option E} {τ : Nat → Option B} : ∀ {t : T SV}, okT ι (t.sub σ τ) → okT (ι.sub σ τ) t
  | .leaf v, h => by
    cases v <;> simp only [T.sub, SV.subB, okT] at h
    simp only [okT, ← B.sub_den, h]
  | .br c t e, h => by
    simp only [T.sub, okT, B.sub_den] at h
    simp only [okT]
    exact ⟨fun hc => okT_sub' (h.1 hc), fun hc => okT_sub' (h.2 hc)⟩
  | .need c t, h => by
    simp only [T.sub, okT, B.sub_den] at h
    simp only [okT]
    exact ⟨h.1, okT_sub' h.2⟩
  | .fail _, h => h.elim
/-- Names that stand for other ones. -/
theorem okT_alias {s : List (Nat × E)} {t : T SV} (h : okT ι (t.sub (nam s) (nam []))) (hs : ∀ n e, (n, e) ∈ s → ι.int n = e.den ι) : okT ι t := by
  have e : ι.sub (nam s) (nam []) = ι := by
    have e1 : (ι.sub (nam s) (nam [])).int = ι.int := by
      funext n
      simp only [Env.sub]
      cases hn : nam s n with
      | none => rfl
      | some e => exact (hs n e (nam_mem hn)).symm
    show Env.mk (ι.sub (nam s) (nam [])).int ι.bool ι.sa ι.sl ι.sc ι.fn = ι
    rw [e1]
  have := okT_sub' h
  rw [e] at this; exact this
theorem AsmOk.nil : AsmOk ι [] := fun _ _ h => by cases h
end
end Go.Proofs.YtjmpoiafcdphbaaSx
