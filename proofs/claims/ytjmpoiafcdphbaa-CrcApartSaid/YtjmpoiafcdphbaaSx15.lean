/- What a tree asks, as plain arithmetic. -/
import Derived.Test.YtjmpoiafcdphbaaSx14
namespace Go.Proofs.YtjmpoiafcdphbaaSx
set_option linter.unusedVariables false
set_option linter.unusedSimpArgs false

def okT (ι : Env) : T SV → Prop
  | .leaf (.bool b) => b.den ι = true
  | .leaf _ => False
  | .br c t e => (c.den ι = true → okT ι t) ∧ (¬ c.den ι = true → okT ι e)
  | .need c t => c.den ι = true ∧ okT ι t
  | .fail _ => False
theorem okT_pick {ι : Env} : ∀ {t : T SV}, okT ι t → ∃ v, t.pick ι = some v ∧ ∀ β, v.den ι β = .bool true
  | .leaf v, h => by
    cases v <;> simp only [okT] at h
    rename_i b
    exact ⟨_, rfl, fun β => by simp only [SV.den, h]⟩
  | .br c t e, h => by
    simp only [okT] at h
    simp only [T.pick]
    split
    · rename_i hc; exact okT_pick (h.1 hc)
    · rename_i hc; exact okT_pick (h.2 hc)
  | .need c t, h => by
    simp only [okT] at h
    simp only [T.pick]
    rw [if_pos h.1]
    exact okT_pick h.2
  | .fail _, h => h.elim

section
variable {ι : Env} {a b : E} {p q c : B} {n : Nat} {k : IntKind}
theorem b_lit {t : Bool} : ((B.lit t).den ι = true) ↔ t = true := Iff.rfl
theorem b_true : ((B.lit true).den ι = true) ↔ True := by simp [B.den]
theorem b_false : ((B.lit false).den ι = true) ↔ False := by simp [B.den]
theorem b_var : ((B.var n).den ι = true) ↔ ι.bool n = true := Iff.rfl
theorem b_lt : ((B.lt a b).den ι = true) ↔ a.den ι < b.den ι := by simp [B.den]
theorem b_le : ((B.le a b).den ι = true) ↔ a.den ι ≤ b.den ι := by simp [B.den]
theorem b_eq : ((B.eq a b).den ι = true) ↔ a.den ι = b.den ι := by simp [B.den]
theorem b_not : ((B.not p).den ι = true) ↔ ¬ p.den ι = true := by simp [B.den]
theorem b_and : ((B.and p q).den ι = true) ↔ p.den ι = true ∧ q.den ι = true := by simp [B.den]
theorem b_or : ((B.or p q).den ι = true) ↔ p.den ι = true ∨ q.den ι = true := by simp [B.den]
theorem b_beq : ((B.beq p q).den ι = true) ↔ (p.den ι = true ↔ q.den ι = true) := by
  simp only [B.den]
  cases p.den ι <;> cases q.den ι <;> simp
theorem b_ite : ((B.ite c p q).den ι = true) ↔ (if c.den ι = true then p.den ι = true else q.den ι = true) := by
  simp only [B.den]
  split <;> simp [*]
theorem e_lit {z : Int} : (E.lit z).den ι = z := rfl
theorem e_var : (E.var n).den ι = ι.int n := rfl
theorem e_wrap : (E.wrap k a).den ι = k.wrap (a.den ι) := rfl
theorem e_add : (E.bin .add k a b).den ι = k.wrap (a.den ι + b.den ι) := rfl
theorem e_sub : (E.bin .sub k a b).den ι = k.wrap (a.den ι - b.den ι) := rfl
theorem e_mul : (E.bin .mul k a b).den ι = k.wrap (a.den ι * b.den ι) := rfl
theorem e_quo : (E.bin .quo k a b).den ι = k.wrap ((a.den ι).tdiv (b.den ι)) := rfl
theorem e_rem : (E.bin .rem k a b).den ι = (a.den ι).tmod (b.den ι) := rfl
theorem e_and : (E.bin .and k a b).den ι = bits .and k (a.den ι) (b.den ι) := rfl
theorem e_or : (E.bin .or k a b).den ι = bits .or k (a.den ι) (b.den ι) := rfl
theorem e_xor : (E.bin .xor k a b).den ι = bits .xor k (a.den ι) (b.den ι) := rfl
theorem e_shl : (E.bin .shl k a b).den ι = k.wrap (a.den ι * 2 ^ min (b.den ι).toNat k.bits) := rfl
theorem e_shr : (E.bin .shr k a b).den ι = (a.den ι).fdiv (2 ^ min (b.den ι).toNat k.bits) := rfl
theorem e_mx : (E.mx a b).den ι = (if a.den ι < b.den ι then b.den ι else a.den ι) := rfl
theorem e_mn : (E.mn a b).den ι = (if b.den ι < a.den ι then b.den ι else a.den ι) := rfl
theorem e_ite : (E.ite c a b).den ι = (if c.den ι = true then a.den ι else b.den ι) := rfl
theorem e_slen : (E.slen n).den ι = (ι.sl n : Int) := rfl
end

/-- The numbers that cells hold are such as their kinds hold. -/
theorem AllIs.wf {w : World} {ks : List CK} {cells : List Value} (h : AllIs w ks cells) (ext : Env) {i : Nat} {k : IntKind} (hk : ks[i]? = some (.int k)) : (Lit.int k ((envOf cells ext).int i)).wf = true := by
  obtain ⟨v, h1, h2⟩ := h.get hk
  obtain ⟨n, rfl, hw⟩ := h2
  have : (envOf cells ext).int i = n := by simp only [envOf, h1]
  rw [this]; exact hw
def ext0 : Env := ⟨fun _ => 0, fun _ => false, fun _ => none, fun _ => 0, fun _ => 0, fun _ _ => 0⟩
end Go.Proofs.YtjmpoiafcdphbaaSx
