/- A slice of slices of bytes that came in, as a list of lists. -/
import Derived.Test.YtjmpoiafcdphbabWMore
import Derived.Deep.Matrix
namespace Go.Proofs.Ytjmpoiafcdphbab.RowsIn
open Go Go.RowKit Go.Proofs.YtjmpoiafcdphbabW.PrintWords
def IsRows (W : World) (a0 : Option Addr) (len0 cap0 : Nat) : Prop := (a0 = none ∧ len0 = 0 ∧ cap0 = 0) ∨
  ∃ (a : Addr) (A : Nat → Option Addr) (L C : Nat → Nat) (Z : Nat → List Int), a0 = some a ∧ len0 ≤ cap0 ∧ cap0 ≤ maxLen ∧
    ∀ r, r < cap0 → W.cell? (a.add r) = some (.slice (A r) (L r) (C r)) ∧ L r ≤ C r ∧ C r ≤ maxLen ∧ (Z r).length = C r ∧ (∀ n ∈ Z r, (Lit.int .u8 n).wf = true) ∧ (A r = none → C r = 0) ∧
      ∀ a', A r = some a' → ∀ c, c < C r → W.cell? (a'.add c) = some (.int .u8 ((Z r).getD c 0))
theorem row_in {W : World} {A : Option Addr} {L C : Nat} {Z : List Int} (h1 : L ≤ C) (h2 : C ≤ maxLen) (h3 : Z.length = C) (h4 : A = none → C = 0) (h5 : ∀ a', A = some a' → ∀ c, c < C → W.cell? (a'.add c) = some (.int .u8 (Z.getD c 0))) :
    (Z.take L).length = L ∧ Kd.C (Kd.int .u8) W A (Z.take L).length (Z.take L) := by
  have hl : (Z.take L).length = L := by rw [List.length_take]; omega
  refine ⟨hl, Kd.C_of_reads (d := (0 : Int)) (h1 := fun _ => rfl) ⟨rfl, by unfold maxLen at h2; omega, fun hp => ?_⟩⟩
  cases A with
  | none => exact absurd (h4 rfl) (by omega)
  | some a =>
    refine ⟨a, rfl, fun j hj => ?_⟩
    have := h5 a rfl j (by omega)
    rw [this, List.getD_eq_getElem?_getD, List.getD_eq_getElem?_getD, List.getElem?_take, if_pos (by omega)]
theorem rows_in {W : World} {a0 : Option Addr} {len0 cap0 : Nat} (h : IsRows W a0 len0 cap0) :
    ∃ l0 : List (List Int), l0.length = len0 ∧ Kd.C (Kd.slice 5 (Kd.int .u8)) W a0 l0.length l0 ∧ len0 ≤ cap0 ∧ ∀ x ∈ l0, ∀ n ∈ x, (Lit.int .u8 n).wf = true := by
  rcases h with ⟨rfl, rfl, rfl⟩ | ⟨a, A, L, C, Z, rfl, hl, hm, hr⟩
  · exact ⟨[], rfl, ⟨rfl, by simp, fun h => absurd h (by simp)⟩, Nat.le_refl _, fun x hx => by cases hx⟩
  · refine ⟨(List.range len0).map fun r => (Z r).take (L r), by simp, ⟨rfl, by unfold maxLen at hm; simp; omega, fun _ => ⟨a, rfl, fun j p hj => ?_⟩⟩, hl, fun x hx => ?_⟩
    · rw [List.getElem?_map] at hj
      obtain ⟨r, hr1, rfl⟩ := Option.map_eq_some_iff.1 hj
      obtain ⟨hlt, rfl⟩ := List.getElem?_eq_some_iff.1 hr1
      rw [List.length_range] at hlt
      rw [List.getElem_range]
      obtain ⟨q1, q2, q3, q4, q5, q6, q7⟩ := hr j (by omega)
      obtain ⟨e1, e2⟩ := row_in q2 q3 q4 q6 q7
      refine ⟨[.slice (A j) (L j) (C j)], rfl, ⟨A j, C j, by rw [e1], by rw [e1]; exact q2, e2⟩, fun i u hu => ?_⟩
      cases i with
      | succ i => simp at hu
      | zero =>
        have : Value.slice (A j) (L j) (C j) = u := by simpa using hu
        rw [← this, show (Kd.slice 5 (Kd.int .u8)).sz = 1 from rfl, Nat.mul_one, Nat.add_zero]
        exact q1
    · obtain ⟨r, hr1, rfl⟩ := List.mem_map.1 hx
      intro n hn
      exact (hr r (by have := List.mem_range.1 hr1; omega)).2.2.2.2.1 n (List.mem_of_mem_take hn)
end Go.Proofs.Ytjmpoiafcdphbab.RowsIn
