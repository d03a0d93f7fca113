/- A slice that came in, its elements' cells read off. -/
import Derived.Test.YtkglnkfoeedmoaaSy23
namespace Go.Proofs.YtkglnkfoeedmoaaSy
open Go.RowKit
set_option linter.unusedVariables false
set_option linter.unusedSimpArgs false
def RK.ck : RK → CK
  | .int k => .int k
  | .bool => .bool
/-- Cell j of element i. -/
def rdCell (w : World) (sa : Option Addr) (m j : Nat) (i : Int) : Int :=
  match sa with
  | some a => (match w.cell? ⟨a.block, a.off + i.toNat * m + j, none⟩ with | some (.int _ z) => z | some (.bool b) => if b = true then 1 else 0 | _ => 0)
  | none => 0
def extRow (w : World) (n : Nat) (sa : Option Addr) (m : Nat) : Env := { ext0 with fn := fun f z => rdCell w sa m (f - 64 * n) z }
def cellOf (z : Int) : RK → Value
  | .int k => .int k z
  | .bool => .bool (decide (z = 1))
section
variable {H : Type} {enc : TypeId × Value → H} {P : Program} {w : World} {base : Nat} {sp : Nat → Bool} {held : Bool}
theorem allIs_get {w : World} : ∀ {rk : List RK} {cs : List Value}, AllIs w (rk.map RK.ck) cs → ∀ {j : Nat} {k : RK}, rk[j]? = some k → ∃ v, cs[j]? = some v ∧ CellIs w k.ck v := by
  intro rk cs h j k hk
  exact h.get (by rw [List.getElem?_map, hk]; rfl)
theorem rows_of {t e : TypeId} {fuel : Nat} {sa : Option Addr} {sl sc : Nat} {x : DataW H × List MemPlace} {rk : List RK} (ht : P.underlying t = some (.slice e)) (hflat : flat P 20 e = some (rk.map RK.ck)) (hm : P.cellsOf e = rk.length) (hpos : 0 < rk.length)
    (h : DataW.trod enc P w base (fun _ => true) held fuel t [.slice sa sl sc] = some x) :
    sl = 0 ∨ ∃ b o, sa = some ⟨b, o, none⟩ ∧ b < w.heap.size ∧ ∀ i : Nat, i < sl → ∀ j k, rk[j]? = some k → w.cell? ⟨b, o + i * rk.length + j, none⟩ = some (cellOf (rdCell w sa rk.length j i) k) ∧ ∀ q, k = .int q → (Lit.int q (rdCell w sa rk.length j i)).wf = true := by
  rcases DataW.trod_slice ht h with ⟨h0, _⟩ | ⟨a, len, cap, elems, rest, n, _, h0, _, _, _, _, hel, hget, _, _⟩
  · injection h0 with h0 _; injection h0 with _ h1 _
    exact .inl h1
  · injection h0 with h0 _; injection h0 with h1 h2 h3
    subst h1; subst h2; subst h3
    by_cases hl : sl = 0
    · exact .inl hl
    right
    have one : ∀ i, i < sl → ∃ cs, AllIs w (rk.map RK.ck) cs ∧ ∀ j, j < rk.length → w.cell? ((a.add (i * rk.length)).add j) = cs[j]? := by
      intro i hi
      have hg := hget i hi
      have hlt : i < elems.length := by omega
      rw [List.getElem?_eq_getElem hlt, Option.bind_eq_some_iff] at hg
      obtain ⟨cs, hc, ht'⟩ := hg
      rw [hm] at hc
      obtain ⟨_, _, hc⟩ := World.cells?_some hc
      exact ⟨cs, flat_ok 20 e _ hflat _ _ _ ht', hc⟩
    obtain ⟨k0, hk0⟩ : ∃ k, rk[0]? = some k := ⟨rk[0], by simp [hpos]⟩
    obtain ⟨b, o, s⟩ := a
    obtain ⟨cs, hall, hcs⟩ := one 0 (by omega)
    obtain ⟨v0, hv0, _⟩ := allIs_get hall hk0
    have hz := hcs 0 hpos
    rw [hv0] at hz
    have e0 : ((⟨b, o, s⟩ : Addr).add (0 * rk.length)).add 0 = ⟨b, o, s⟩ := by simp [Addr.add]
    rw [e0] at hz
    have hs : s = none := by
      unfold World.cell? at hz
      split at hz
      · simp only at hz
        split at hz
        · cases hz
        · rename_i h; simpa using h
      · cases hz
    subst hs
    have hb : b < w.heap.size := by
      rcases Nat.lt_or_ge b w.heap.size with h | h
      · exact h
      · simp [World.cell?, Array.getElem?_eq_none h] at hz
    refine ⟨b, o, rfl, hb, fun i hi j k hk => ?_⟩
    obtain ⟨cs, hall, hcs⟩ := one i hi
    obtain ⟨v, hv, hkind⟩ := allIs_get hall hk
    have hj : j < rk.length := by
      rcases Nat.lt_or_ge j rk.length with h | h
      · exact h
      · rw [List.getElem?_eq_none h] at hk; cases hk
    have hc := hcs j hj
    rw [hv, Addr.add_lit b o (i * rk.length), Addr.add_lit b (o + i * rk.length) j] at hc
    cases k with
    | int q =>
      obtain ⟨z, rfl, hw⟩ := hkind
      have e : rdCell w (some ⟨b, o, none⟩) rk.length j (i : Int) = z := by
        simp only [rdCell, Int.toNat_natCast, hc]
      rw [e]
      exact ⟨hc, fun q' hq => by injection hq with hq; subst hq; exact hw⟩
    | bool =>
      obtain ⟨z, rfl⟩ := hkind
      have e : rdCell w (some ⟨b, o, none⟩) rk.length j (i : Int) = if z = true then 1 else 0 := by
        simp only [rdCell, Int.toNat_natCast, hc]
      rw [e]
      refine ⟨?_, fun q' hq => by cases hq⟩
      rw [hc]
      cases z <;> rfl
end
/-- Trees whose leaves are looked at. -/
def okP {α : Type} (ι : Env) (Q : α → Prop) : T α → Prop
  | .leaf a => Q a
  | .br c t e => (c.den ι = true → okP ι Q t) ∧ (¬ c.den ι = true → okP ι Q e)
  | .need c t => c.den ι = true ∧ okP ι Q t
  | .fail _ => False
theorem okP_pick {α : Type} {ι : Env} {Q : α → Prop} : ∀ {t : T α}, okP ι Q t → ∃ a, t.pick ι = some a ∧ Q a
  | .leaf a, h => ⟨a, rfl, h⟩
  | .br c t e, h => by
    simp only [okP] at h
    simp only [T.pick]
    split
    · rename_i hc; exact okP_pick (h.1 hc)
    · rename_i hc; exact okP_pick (h.2 hc)
  | .need c t, h => by
    simp only [okP] at h
    simp only [T.pick]
    rw [if_pos h.1]
    exact okP_pick h.2
  | .fail _, h => h.elim
end Go.Proofs.YtkglnkfoeedmoaaSy
