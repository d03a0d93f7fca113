/- What stands at the beginning of bytes, as a function of lists. -/
import Derived.Test.YtjmpoiafcdphbabCrcMathC
import Derived.Lib.Bytealg
import Derived.Lib.Bytes
namespace Go.Proofs.Ytjmpoiafcdphbab.Frame
open Go Go.RowKit Go.Proofs.Ytjmpoiafcdphbab.Crc
/-- Kind, size, code, body. -/
abbrev Fd := Int × Int × Int × List Int
def isB (l : List Int) : Prop := ∀ x ∈ l, 0 ≤ x ∧ x ≤ 255
/-- How many bytes stand before the first mark. -/
def skipN : List Int → Nat
  | [] => 0
  | a :: l => if a = 165 then 0 else skipN l + 1
/-- Behind mark and version: how long, what follows. -/
def tailL (n : Int) (r : List Int) : Fd :=
  if n > 32 then (3, 1, 11, []) else if (r.length : Int) < n + 2 then (0, 0, 0, []) else
  if sumI (1 :: n :: r.take n.toNat) = 256 * r.getD n.toNat 0 + r.getD (n.toNat + 1) 0 then (2, n + 5, 0, r.take n.toNat) else (3, 1, 12, [])
def nextL : List Int → Fd
  | [] => (0, 0, 0, [])
  | a :: r => if a ≠ 165 then (1, ((skipN (a :: r) : Nat) : Int), 0, []) else
    match r with
    | [] => (0, 0, 0, [])
    | v :: r => if v ≠ 1 then (3, 1, 10, []) else
      match r with
      | [] => (0, 0, 0, [])
      | n :: r => tailL n r
theorem isB_tail {a : Int} {l : List Int} (h : isB (a :: l)) : isB l := fun x hx => h x (List.mem_cons_of_mem _ hx)
theorem isB_head {a : Int} {l : List Int} (h : isB (a :: l)) : 0 ≤ a ∧ a ≤ 255 := h a List.mem_cons_self
theorem u8_eq {a : Int} (h : 0 ≤ a ∧ a ≤ 255) : (UInt8.ofNat a.toNat == ((165 : Int).toNat.toUInt8)) = decide (a = 165) := by
  obtain ⟨n, rfl⟩ := Int.eq_ofNat_of_zero_le h.1
  have hn : n ≤ 255 := by omega
  rw [Int.toNat_natCast]
  by_cases e : n = 165
  · subst e; rfl
  · rw [decide_eq_false (by omega)]
    refine beq_eq_false_iff_ne.2 (fun h => e ?_)
    have h2 := congrArg UInt8.toNat h
    rw [UInt8.toNat_ofNat'] at h2
    have h3 : ((165 : Int).toNat.toUInt8).toNat = 165 := rfl
    rw [h3] at h2
    omega
theorem skip_le : ∀ l : List Int, skipN l ≤ l.length
  | [] => Nat.le_refl _
  | a :: l => by
    unfold skipN
    have := skip_le l
    split
    · omega
    · simp; exact this
theorem index_is : ∀ {l : List Int}, isB l → Lib.indexByte (Lib.bytesOf l) (165 : Int).toNat.toUInt8 = if skipN l < l.length then ((skipN l : Nat) : Int) else -1
  | [], _ => rfl
  | a :: l, h => by
    have ih := index_is (isB_tail h)
    have e : Lib.bytesOf (a :: l) = UInt8.ofNat a.toNat :: Lib.bytesOf l := rfl
    rw [e, Lib.indexByte, u8_eq (isB_head h), ih, skipN]
    by_cases ha : a = 165
    · rw [decide_eq_true ha, if_pos rfl, if_pos ha, if_pos (by simp)]
      try rfl
    · rw [decide_eq_false ha, if_neg (by decide), if_neg ha]
      by_cases hs : skipN l < l.length
      · rw [if_pos hs, if_neg (by simp <;> omega), if_pos (by simp <;> omega)]
        try omega
      · rw [if_neg hs, if_pos (by decide), if_neg (by simp <;> omega)]
/-- The loop's way round: first mark, or all. -/
theorem skip_index {l : List Int} (h : isB l) : (if Lib.indexByte (Lib.bytesOf l) (165 : Int).toNat.toUInt8 < 0 then ((l.length : Nat) : Int) else Lib.indexByte (Lib.bytesOf l) (165 : Int).toNat.toUInt8) = ((skipN l : Nat) : Int) := by
  rw [index_is h]
  have := skip_le l
  by_cases hs : skipN l < l.length
  · rw [if_pos hs, if_neg (by omega)]
  · rw [if_neg hs, if_pos (by decide)]; omega
end Go.Proofs.Ytjmpoiafcdphbab.Frame
