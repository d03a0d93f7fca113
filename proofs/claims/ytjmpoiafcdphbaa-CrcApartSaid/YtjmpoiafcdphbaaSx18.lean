/- A tree with some terms behind names; a tree of few numbers, tried at each. -/
import Derived.Test.YtjmpoiafcdphbaaSx17
namespace Go.Proofs.YtjmpoiafcdphbaaSx
set_option linter.unusedVariables false
set_option linter.unusedSimpArgs false
mutual
def E.sub (σ : Nat → Option E) (τ : Nat → Option B) : E → E
  | .lit z => .lit z
  | .var n => match σ n with | some e => e | none => .var n
  | .bin op k a b => .bin op k (E.sub σ τ a) (E.sub σ τ b)
  | .wrap k a => .wrap k (E.sub σ τ a)
  | .mx a b => .mx (E.sub σ τ a) (E.sub σ τ b)
  | .mn a b => .mn (E.sub σ τ a) (E.sub σ τ b)
  | .ite c a b => .ite (B.sub σ τ c) (E.sub σ τ a) (E.sub σ τ b)
  | .slen n => .slen n
  | .app f a => .app f (E.sub σ τ a)
def B.sub (σ : Nat → Option E) (τ : Nat → Option B) : B → B
  | .lit z => .lit z
  | .var n => match τ n with | some e => e | none => .var n
  | .lt a b => .lt (E.sub σ τ a) (E.sub σ τ b)
  | .le a b => .le (E.sub σ τ a) (E.sub σ τ b)
  | .eq a b => .eq (E.sub σ τ a) (E.sub σ τ b)
  | .not a => .not (B.sub σ τ a)
  | .and a b => .and (B.sub σ τ a) (B.sub σ τ b)
  | .or a b => .or (B.sub σ τ a) (B.sub σ τ b)
  | .beq a b => .beq (B.sub σ τ a) (B.sub σ τ b)
  | .ite c a b => .ite (B.sub σ τ c) (B.sub σ τ a) (B.sub σ τ b)
end
def SV.subB (σ : Nat → Option E) (τ : Nat → Option B) : SV → SV
  | .bool b => .bool (b.sub σ τ)
  | v => v
def T.sub (σ : Nat → Option E) (τ : Nat → Option B) : T SV → T SV
  | .leaf v => .leaf (v.subB σ τ)
  | .br c t e => .br (c.sub σ τ) (T.sub σ τ t) (T.sub σ τ e)
  | .need c t => .need (c.sub σ τ) (T.sub σ τ t)
  | .fail s => .fail s
def Env.sub (σ : Nat → Option E) (τ : Nat → Option B) (ι : Env) : Env :=
  { ι with int := fun n => match σ n with | some e => e.den ι | none => ι.int n, bool := fun n => match τ n with | some e => e.den ι | none => ι.bool n }
section
variable {σ : Nat → Option E} {τ : Nat → Option B} {ι : Env}
mutual
theorem E.sub_den : ∀ e : E, (e.sub σ τ).den ι = e.den (ι.sub σ τ)
  | .lit _ => rfl
  | .var n => by
    simp only [E.sub, E.den, Env.sub]
    split <;> simp only [E.den]
  | .bin op k a b => by simp only [E.sub, E.den, E.sub_den a, E.sub_den b]
  | .wrap k a => by simp only [E.sub, E.den, E.sub_den a]
  | .mx a b => by simp only [E.sub, E.den, E.sub_den a, E.sub_den b]
  | .mn a b => by simp only [E.sub, E.den, E.sub_den a, E.sub_den b]
  | .ite c a b => by simp only [E.sub, E.den, B.sub_den c, E.sub_den a, E.sub_den b]
  | .slen n => rfl
  | .app f a => by simp only [E.sub, E.den, E.sub_den a, Env.sub]
theorem B.sub_den : ∀ b : B, (b.sub σ τ).den ι = b.den (ι.sub σ τ)
  | .lit _ => rfl
  | .var n => by
    simp only [B.sub, B.den, Env.sub]
    split <;> simp only [B.den]
  | .lt a b => by simp only [B.sub, B.den, E.sub_den a, E.sub_den b]
  | .le a b => by simp only [B.sub, B.den, E.sub_den a, E.sub_den b]
  | .eq a b => by simp only [B.sub, B.den, E.sub_den a, E.sub_den b]
  | .not a => by simp only [B.sub, B.den, B.sub_den a]
  | .and a b => by simp only [B.sub, B.den, B.sub_den a, B.sub_den b]
  | .or a b => by simp only [B.sub, B.den, B.sub_den a, B.sub_den b]
  | .beq a b => by simp only [B.sub, B.den, B.sub_den a, B.sub_den b]
  | .ite c a b => by simp only [B.sub, B.den, B.sub_den c, B.sub_den a, B.sub_den b]
end
theorem okT_sub : ∀ {t : T SV}, okT (ι.sub σ τ) t → okT ι (t.sub σ τ)
  | .leaf v, h => by
    cases v <;> simp only [okT] at h
    simp only [T.sub, SV.subB, okT, B.sub_den, h]
  | .br c t e, h => by
    simp only [okT] at h
    simp only [T.sub, okT, B.sub_den]
    exact ⟨fun hc => okT_sub (h.1 hc), fun hc => okT_sub (h.2 hc)⟩
  | .need c t, h => by
    simp only [okT] at h
    simp only [T.sub, okT, B.sub_den]
    exact ⟨h.1, okT_sub h.2⟩
  | .fail _, h => h.elim
end
/-- A row of names. -/
def nam {α : Type} : List (Nat × α) → Nat → Option α
  | [], _ => none
  | x :: l, n => match Nat.beq x.1 n with | true => some x.2 | false => nam l n

def okTB (ι : Env) : T SV → Bool
  | .leaf (.bool b) => b.den ι
  | .leaf _ => false
  | .br c t e => (match c.den ι with | true => okTB ι t | false => okTB ι e)
  | .need c t => (match c.den ι with | true => okTB ι t | false => false)
  | .fail _ => false
theorem okTB_ok {ι : Env} : ∀ {t : T SV}, okTB ι t = true → okT ι t
  | .leaf v, h => by
    cases v <;> simp only [okTB] at h <;> first | exact h | cases h
  | .br c t e, h => by
    simp only [okTB] at h
    simp only [okT]
    cases hc : c.den ι <;> rw [hc] at h
    · exact ⟨fun x => (by cases x), fun _ => okTB_ok h⟩
    · exact ⟨fun _ => okTB_ok h, fun x => absurd rfl x⟩
  | .need c t, h => by
    simp only [okTB] at h
    simp only [okT]
    cases hc : c.den ι <;> rw [hc] at h
    · cases h
    · exact ⟨rfl, okTB_ok h⟩
  | .fail _, h => by simp [okTB] at h
def Env.wi (l : List (Nat × Int)) (ι : Env) : Env := { ι with int := fun n => match nam l n with | some z => z | none => ι.int n }
theorem nam_mem {α : Type} : ∀ {l : List (Nat × α)} {n : Nat} {x : α}, nam l n = some x → (n, x) ∈ l
  | [], _, _, h => by cases h
  | y :: l, n, x, h => by
    simp only [nam] at h
    cases hb : Nat.beq y.1 n <;> rw [hb] at h
    · exact List.mem_cons_of_mem _ (nam_mem h)
    · injection h with h
      have := Nat.eq_of_beq_eq_true hb
      subst h; subst this
      exact List.mem_cons_self ..
theorem wi_same {l : List (Nat × Int)} {ι : Env} (h : ∀ n z, (n, z) ∈ l → ι.int n = z) : ι.wi l = ι := by
  have e : (fun n => match nam l n with | some z => z | none => ι.int n) = ι.int := by
    funext n
    cases hn : nam l n with
    | none => rfl
    | some z => exact (h n z (nam_mem hn)).symm
  unfold Env.wi
  rw [e]
theorem fin_ok {l : List (Nat × Int)} {ι : Env} {t : T SV} (h : okTB (ι.wi l) t = true) (hl : ∀ n z, (n, z) ∈ l → ι.int n = z) : okT ι t := by
  rw [wi_same hl] at h
  exact okTB_ok h
noncomputable def allI (n : Nat) (f : Int → Bool) : Bool := Nat.rec true (fun k ih => match f (Int.ofNat k) with | true => ih | false => false) n
theorem allI_ok {f : Int → Bool} : ∀ {n : Nat}, allI n f = true → ∀ z : Int, 0 ≤ z → z < n → f z = true
  | 0, _, z, h0, h1 => by omega
  | n + 1, h, z, h0, h1 => by
    have h : (match f (Int.ofNat n) with | true => allI n f | false => false) = true := h
    cases hf : f (Int.ofNat n) <;> rw [hf] at h
    · cases h
    · by_cases e : z = (n : Int)
      · subst e; exact hf
      · exact allI_ok h z h0 (by omega)
end Go.Proofs.YtjmpoiafcdphbaaSx
