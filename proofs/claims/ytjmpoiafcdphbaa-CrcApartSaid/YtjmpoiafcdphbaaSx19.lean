/- A tree tried with bounds alone. -/
import Derived.Test.YtjmpoiafcdphbaaSx18
namespace Go.Proofs.YtjmpoiafcdphbaaSx
open Go.RowKit
set_option linter.unusedVariables false
set_option linter.unusedSimpArgs false
abbrev Iv := Int × Int
def inI (p : Iv) (z : Int) : Prop := p.1 ≤ z ∧ z ≤ p.2
def fit64 (p : Iv) : Option Iv := match decide (-9223372036854775808 ≤ p.1) && decide (p.2 ≤ 9223372036854775807) with | true => some p | false => none
def is64 (k : IntKind) : Bool := decide (k = .i64)
def ivAdd (a b : Iv) : Iv := (a.1 + b.1, a.2 + b.2)
def ivSub (a b : Iv) : Iv := (a.1 - b.2, a.2 - b.1)
def ivHull (a b : Iv) : Iv := (min a.1 b.1, max a.2 b.2)
def ivLt (a b : Iv) : Option Bool := match decide (a.2 < b.1) with | true => some true | false => match decide (b.2 ≤ a.1) with | true => some false | false => none
def ivLe (a b : Iv) : Option Bool := match decide (a.2 ≤ b.1) with | true => some true | false => match decide (b.2 < a.1) with | true => some false | false => none
def ivEq (a b : Iv) : Option Bool := match decide (a.2 < b.1) || decide (b.2 < a.1) with | true => some false | false => match decide (a.1 = a.2) && (decide (b.1 = b.2) && decide (a.1 = b.1)) with | true => some true | false => none
def ivRem (a : Iv) (m : Int) : Option Iv := match decide (0 < m) with | true => (match decide (0 ≤ a.1) with | true => some (0, min a.2 (m - 1)) | false => some (1 - m, m - 1)) | false => none
def litOf : E → Option Int | .lit z => some z | _ => none
mutual
def E.iv (ev : Nat → Option Iv) : E → Option Iv
  | .lit z => some (z, z)
  | .var n => ev n
  | .bin op k a b =>
    match op with
    | .add => (match is64 k, E.iv ev a, E.iv ev b with | true, some p, some q => fit64 (ivAdd p q) | _, _, _ => none)
    | .sub => (match is64 k, E.iv ev a, E.iv ev b with | true, some p, some q => fit64 (ivSub p q) | _, _, _ => none)
    | .rem => (match E.iv ev a, litOf b with | some p, some m => ivRem p m | none, some m => (match decide (0 < m) with | true => some (1 - m, m - 1) | false => none) | _, _ => none)
    | .and => (match litOf b with | some m => (match is64 k && (decide (0 ≤ m) && decide (m ≤ 9223372036854775807)) with | true => some (0, m) | false => none) | none => none)
    | _ => none
  | .wrap k a => (match is64 k, E.iv ev a with | true, some p => fit64 p | _, _ => none)
  | .mx a b => (match E.iv ev a, E.iv ev b with | some p, some q => some (max p.1 q.1, max p.2 q.2) | _, _ => none)
  | .mn a b => (match E.iv ev a, E.iv ev b with | some p, some q => some (min p.1 q.1, min p.2 q.2) | _, _ => none)
  | .ite c a b =>
    match B.iv ev c with
    | some true => E.iv ev a
    | some false => E.iv ev b
    | none => (match E.iv ev a, E.iv ev b with | some p, some q => some (ivHull p q) | _, _ => none)
  | .slen _ => none
  | .app _ _ => none
def B.iv (ev : Nat → Option Iv) : B → Option Bool
  | .lit b => some b
  | .var _ => none
  | .lt a b => (match E.iv ev a, E.iv ev b with | some p, some q => ivLt p q | _, _ => none)
  | .le a b => (match E.iv ev a, E.iv ev b with | some p, some q => ivLe p q | _, _ => none)
  | .eq a b => (match E.iv ev a, E.iv ev b with | some p, some q => ivEq p q | _, _ => none)
  | .not a => (match B.iv ev a with | some v => some (!v) | none => none)
  | .and a b => (match B.iv ev a with | some false => some false | some true => B.iv ev b | none => match B.iv ev b with | some false => some false | _ => none)
  | .or a b => (match B.iv ev a with | some true => some true | some false => B.iv ev b | none => match B.iv ev b with | some true => some true | _ => none)
  | .beq a b => (match B.iv ev a, B.iv ev b with | some x, some y => some (x == y) | _, _ => none)
  | .ite c a b => (match B.iv ev c with | some true => B.iv ev a | some false => B.iv ev b | none => none)
end
section
variable {ι : Env} {ev : Nat → Option Iv}
theorem is64_eq {k : IntKind} (h : is64 k = true) : k = .i64 := of_decide_eq_true h
theorem fit64_ok {p q : Iv} {z : Int} (h : fit64 p = some q) (hz : inI p z) : inI q (IntKind.i64.wrap z) := by
  unfold fit64 at h
  split at h
  · rename_i hc
    injection h with h; subst h
    simp only [Bool.and_eq_true, decide_eq_true_eq] at hc
    have : IntKind.i64.wrap z = z := by have := hz.1; have := hz.2; rw [IntKind.wrap_i64]; omega
    rw [this]; exact hz
  · cases h
theorem and_le (x m : Int) (h0 : 0 ≤ m) (h1 : m ≤ 9223372036854775807) : 0 ≤ bits .and .i64 x m ∧ bits .and .i64 x m ≤ m := by
  unfold bits
  show 0 ≤ IntKind.i64.wrap (((BitVec.ofInt 64 x &&& BitVec.ofInt 64 m).toNat : Nat) : Int) ∧ IntKind.i64.wrap (((BitVec.ofInt 64 x &&& BitVec.ofInt 64 m).toNat : Nat) : Int) ≤ m
  obtain ⟨n, rfl⟩ := Int.eq_ofNat_of_zero_le h0
  have em : (BitVec.ofInt 64 (n : Int)).toNat = n := by
    rw [BitVec.toNat_ofInt]
    have : ((n : Nat) : Int) % ((2 ^ 64 : Nat) : Int) = (n : Int) := Int.emod_eq_of_lt (by omega) (by omega)
    rw [this]; simp
  rw [BitVec.toNat_and, em]
  have hle : (BitVec.ofInt 64 x).toNat &&& n ≤ n := Nat.and_le_right
  generalize (BitVec.ofInt 64 x).toNat &&& n = r at hle
  rw [IntKind.wrap_i64]
  omega
theorem ivLt_ok {p q : Iv} {x y : Int} {v : Bool} (hp : inI p x) (hq : inI q y) (h : ivLt p q = some v) : decide (x < y) = v := by
  obtain ⟨a, b⟩ := p; obtain ⟨c, d⟩ := q
  simp only [inI] at hp hq
  unfold ivLt at h
  split at h
  · rename_i hc; injection h with h; subst h; have := of_decide_eq_true hc; simp only at this; simp; omega
  · split at h
    · rename_i hc; injection h with h; subst h; have := of_decide_eq_true hc; simp only at this; simp; omega
    · cases h
theorem ivLe_ok {p q : Iv} {x y : Int} {v : Bool} (hp : inI p x) (hq : inI q y) (h : ivLe p q = some v) : decide (x ≤ y) = v := by
  obtain ⟨a, b⟩ := p; obtain ⟨c, d⟩ := q
  simp only [inI] at hp hq
  unfold ivLe at h
  split at h
  · rename_i hc; injection h with h; subst h; have := of_decide_eq_true hc; simp only at this; simp; omega
  · split at h
    · rename_i hc; injection h with h; subst h; have := of_decide_eq_true hc; simp only at this; simp; omega
    · cases h
theorem ivEq_ok {p q : Iv} {x y : Int} {v : Bool} (hp : inI p x) (hq : inI q y) (h : ivEq p q = some v) : decide (x = y) = v := by
  obtain ⟨a, b⟩ := p; obtain ⟨c, d⟩ := q
  simp only [inI] at hp hq
  unfold ivEq at h
  split at h
  · rename_i hc; injection h with h; subst h
    simp only [Bool.or_eq_true, decide_eq_true_eq] at hc
    simp; omega
  · split at h
    · rename_i hc; injection h with h; subst h
      simp only [Bool.and_eq_true, decide_eq_true_eq] at hc
      simp; omega
    · cases h
theorem ivRem_ok {p q : Iv} {x m : Int} (hp : inI p x) (h : ivRem p m = some q) : inI q (x.tmod m) := by
  obtain ⟨a, b⟩ := p
  simp only [inI] at hp
  unfold ivRem at h
  split at h
  · rename_i hm
    have hm := of_decide_eq_true hm
    split at h
    · rename_i ha
      have ha := of_decide_eq_true ha
      simp only at ha
      injection h with h; subst h
      have e := tmod_nonneg x m (by omega)
      have h1 := Int.emod_nonneg x (b := m) (by omega)
      have h2 := Int.emod_lt_of_pos x hm
      have h3 : x % m ≤ x := by
        rcases Int.lt_or_le x m with h | h
        · rw [Int.emod_eq_of_lt (by omega) h]; exact Int.le_refl _
        · omega
      simp only [inI]
      rw [e]; omega
    · injection h with h; subst h
      have := tmod_bounds x m hm
      simp only [inI]; omega
  · cases h
theorem litOf_ok {e : E} {z : Int} (h : litOf e = some z) : e = .lit z := by
  cases e <;> simp only [litOf] at h <;> first | (injection h with h; rw [h]) | cases h
mutual
theorem E.iv_ok (hev : ∀ n p, ev n = some p → inI p (ι.int n)) : ∀ (e : E) (p : Iv), E.iv ev e = some p → inI p (e.den ι)
  | .lit z, p, h => by simp only [E.iv] at h; injection h with h; subst h; simp only [E.den]; exact ⟨Int.le_refl _, Int.le_refl _⟩
  | .var n, p, h => by simp only [E.iv] at h; exact hev n p h
  | .bin op k a b, p, h => by
    cases op <;> simp only [E.iv] at h <;> try (cases h)
    · split at h
      · rename_i hk ha hb
        have hk := is64_eq hk; subst hk
        have h1 := E.iv_ok hev a _ ha; have h2 := E.iv_ok hev b _ hb
        exact fit64_ok h (by simp only [inI, ivAdd] at *; omega)
      · cases h
    · split at h
      · rename_i hk ha hb
        have hk := is64_eq hk; subst hk
        have h1 := E.iv_ok hev a _ ha; have h2 := E.iv_ok hev b _ hb
        exact fit64_ok h (by simp only [inI, ivSub] at *; omega)
      · cases h
    · split at h
      · rename_i ha hb
        have hb := litOf_ok hb; subst hb
        exact ivRem_ok (E.iv_ok hev a _ ha) h
      · rename_i m ha hb
        have hb := litOf_ok hb; subst hb
        split at h
        · rename_i hm
          have hm := of_decide_eq_true hm
          injection h with h; subst h
          have := tmod_bounds (a.den ι) m hm
          simp only [inI, E.den, den2]; omega
        · cases h
      · cases h
    · split at h
      · rename_i m hb
        have hb := litOf_ok hb; subst hb
        split at h
        · rename_i hc
          simp only [Bool.and_eq_true, decide_eq_true_eq] at hc
          have hk := is64_eq hc.1; subst hk
          injection h with h; subst h
          exact and_le _ _ hc.2.1 hc.2.2
        · cases h
      · cases h
  | .wrap k a, p, h => by
    simp only [E.iv] at h
    split at h
    · rename_i hk ha
      have hk := is64_eq hk; subst hk
      exact fit64_ok h (E.iv_ok hev a _ ha)
    · cases h
  | .mx a b, p, h => by
    simp only [E.iv] at h
    split at h
    · rename_i ha hb
      injection h with h; subst h
      have h1 := E.iv_ok hev a _ ha; have h2 := E.iv_ok hev b _ hb
      simp only [inI, E.den] at *
      split <;> omega
    · cases h
  | .mn a b, p, h => by
    simp only [E.iv] at h
    split at h
    · rename_i ha hb
      injection h with h; subst h
      have h1 := E.iv_ok hev a _ ha; have h2 := E.iv_ok hev b _ hb
      simp only [inI, E.den] at *
      split <;> omega
    · cases h
  | .ite c a b, p, h => by
    simp only [E.iv] at h
    split at h
    · rename_i hc
      have hc := B.iv_ok hev c _ hc
      simp only [E.den, hc, if_true]
      exact E.iv_ok hev a _ h
    · rename_i hc
      have hc := B.iv_ok hev c _ hc
      simp only [E.den, hc]
      exact E.iv_ok hev b _ h
    · split at h
      · rename_i ha hb
        injection h with h; subst h
        have h1 := E.iv_ok hev a _ ha; have h2 := E.iv_ok hev b _ hb
        simp only [inI, ivHull, E.den] at *
        split <;> omega
      · cases h
  | .slen _, _, h => by cases h
  | .app _ _, _, h => by cases h
theorem B.iv_ok (hev : ∀ n p, ev n = some p → inI p (ι.int n)) : ∀ (b : B) (v : Bool), B.iv ev b = some v → b.den ι = v
  | .lit b, v, h => by simp only [B.iv] at h; injection h with h
  | .var _, _, h => by cases h
  | .lt a b, v, h => by
    simp only [B.iv] at h
    split at h
    · rename_i ha hb
      exact ivLt_ok (E.iv_ok hev a _ ha) (E.iv_ok hev b _ hb) h
    · cases h
  | .le a b, v, h => by
    simp only [B.iv] at h
    split at h
    · rename_i ha hb
      exact ivLe_ok (E.iv_ok hev a _ ha) (E.iv_ok hev b _ hb) h
    · cases h
  | .eq a b, v, h => by
    simp only [B.iv] at h
    split at h
    · rename_i ha hb
      exact ivEq_ok (E.iv_ok hev a _ ha) (E.iv_ok hev b _ hb) h
    · cases h
  | .not a, v, h => by
    simp only [B.iv] at h
    split at h
    · rename_i ha
      injection h with h; subst h
      simp only [B.den, B.iv_ok hev a _ ha]
    · cases h
  | .and a b, v, h => by
    simp only [B.iv] at h
    split at h
    · rename_i ha
      injection h with h; subst h
      simp only [B.den, B.iv_ok hev a _ ha, Bool.false_and]
    · rename_i ha
      simp only [B.den, B.iv_ok hev a _ ha, Bool.true_and]
      exact B.iv_ok hev b _ h
    · split at h
      · rename_i hb
        injection h with h; subst h
        simp only [B.den, B.iv_ok hev b _ hb, Bool.and_false]
      · cases h
  | .or a b, v, h => by
    simp only [B.iv] at h
    split at h
    · rename_i ha
      injection h with h; subst h
      simp only [B.den, B.iv_ok hev a _ ha, Bool.true_or]
    · rename_i ha
      simp only [B.den, B.iv_ok hev a _ ha, Bool.false_or]
      exact B.iv_ok hev b _ h
    · split at h
      · rename_i hb
        injection h with h; subst h
        simp only [B.den, B.iv_ok hev b _ hb, Bool.or_true]
      · cases h
  | .beq a b, v, h => by
    simp only [B.iv] at h
    split at h
    · rename_i ha hb
      injection h with h; subst h
      simp only [B.den, B.iv_ok hev a _ ha, B.iv_ok hev b _ hb]
    · cases h
  | .ite c a b, v, h => by
    simp only [B.iv] at h
    split at h
    · rename_i hc
      simp only [B.den, B.iv_ok hev c _ hc, if_true]
      exact B.iv_ok hev a _ h
    · rename_i hc
      simp only [B.den, B.iv_ok hev c _ hc]
      exact B.iv_ok hev b _ h
    · cases h
end
def okTI (ev : Nat → Option Iv) : T SV → Bool
  | .leaf (.bool b) => (match B.iv ev b with | some true => true | _ => false)
  | .leaf _ => false
  | .br c t e => (match B.iv ev c with | some true => okTI ev t | some false => okTI ev e | none => okTI ev t && okTI ev e)
  | .need c t => (match B.iv ev c with | some true => okTI ev t | _ => false)
  | .fail _ => false
theorem okTI_ok (hev : ∀ n p, ev n = some p → inI p (ι.int n)) : ∀ {t : T SV}, okTI ev t = true → okT ι t
  | .leaf v, h => by
    cases v <;> simp only [okTI] at h <;> try (cases h)
    simp only [okT]
    split at h
    · rename_i hb; exact B.iv_ok hev _ _ hb
    · cases h
  | .br c t e, h => by
    simp only [okTI] at h
    simp only [okT]
    split at h
    · rename_i hc
      have := B.iv_ok hev _ _ hc
      exact ⟨fun _ => okTI_ok hev h, fun x => absurd this x⟩
    · rename_i hc
      have := B.iv_ok hev _ _ hc
      exact ⟨fun x => (by rw [this] at x; cases x), fun _ => okTI_ok hev h⟩
    · simp only [Bool.and_eq_true] at h
      exact ⟨fun _ => okTI_ok hev h.1, fun _ => okTI_ok hev h.2⟩
  | .need c t, h => by
    simp only [okTI] at h
    simp only [okT]
    split at h
    · rename_i hc
      exact ⟨B.iv_ok hev _ _ hc, okTI_ok hev h⟩
    · cases h
  | .fail _, h => by simp [okTI] at h
end
end Go.Proofs.YtjmpoiafcdphbaaSx
