/- A stream in memory, and what Take makes of it, told by the plain function. -/
import Derived.Test.YtjmpoiafcdphbabStreamTellStreamFrames
import Derived.Test.YtjmpoiafcdphbabFrameMathD
namespace Go.Proofs.Ytjmpoiafcdphbab.PStreamFrames
open Go.RowKit Go.Proofs.Ytjmpoiafcdphbab.Frame Go.Proofs.Ytjmpoiafcdphbab.Stream Go.Proofs.Ytjmpoiafcdphbab.TellStreamFrames Go.Proofs.YtjmpoiafcdphbabW.PrintWords Go.Proofs.YtjmpoiafcdphbabW.PrintLast Go.Proofs.YtjmpoiafcdphbabW.PrintMore
set_option linter.unusedVariables false
/-- A stream at block g, with these bytes left; what lay there at w2 lies there still. -/
structure StOk (m0 : Nat) (w2 wr : World) (g : Nat) (left : List Int) : Prop where
  blk : ∃ v, wr.heap[g]? = some (.cells #[v] 49 (0, 0)) ∧ Kd.R (Kd.int .u8) 5 wr m0 (fun k_ => k_ ≠ g) v left
  ge : m0 ≤ g
  below : Below m0 w2 wr
theorem StOk.size {m0 : Nat} {w2 wr : World} {g : Nat} {left : List Int} (h : StOk m0 w2 wr g left) : m0 ≤ wr.heap.size := by
  obtain ⟨v, hg, _⟩ := h.blk
  have := blk_lt hg
  have := h.ge
  omega
theorem StOk.step {m0 : Nat} {w2 wr w' : World} {g : Nat} {left : List Int} (h : StOk m0 w2 wr g left) (hb : Below wr.heap.size wr w') : StOk m0 w2 w' g left := by
  obtain ⟨v, hg, hR⟩ := h.blk
  exact ⟨⟨v, blk_below hg hb, Kd.R_below hR hb⟩, h.ge, below_then h.below h.size hb⟩
theorem StOk.drewN {m0 : Nat} {w2 wr : World} {g : Nat} {left : List Int} (h : StOk m0 w2 wr g left) (n : Nat) : StOk m0 w2 (wr.drewN n) g left := h.step (pw_below_drewN (Below.refl _ _) n)
theorem StOk.new {w2 w' : World} {g : Nat} (hge : w2.heap.size ≤ g) (hg : w'.heap[g]? = some (.cells #[.slice none 0 0] 49 (0, 0))) (hb : Below w2.heap.size w2 w') : StOk w2.heap.size w2 w' g [] :=
  ⟨⟨_, hg, Kd.R_nil _ _ _ _ _⟩, hge, hb⟩
theorem StOk.take {m0 : Nat} {w2 w : World} {g : Nat} {left l1 : List Int} {A1 : Option Addr} {c1 : Nat} (h : StOk m0 w2 w g left) (hr1 : Kd.C (Kd.int .u8) w A1 l1.length l1) (hc1 : l1.length ≤ c1) (hl : left.length + l1.length ≤ 100000) (hb : isB (left ++ l1)) :
    Calls Try.prog 13 #[.pointer (some ⟨g, 0, none⟩), .slice A1 l1.length c1] w fun e w' => ∃ (v0 : Value) (m : Nat), e = .returned v0 ∧ w.heap.size ≤ m ∧ StOk m0 w2 w' g (allL (left ++ l1)).2 ∧
      Kd.S k31 31 w' w.heap.size (fun k_ => w.heap.size ≤ k_ ∧ k_ < m) v0 ((allL (left ++ l1)).1.map toS) := by
  obtain ⟨v, hg, hR⟩ := h.blk
  have hglt := blk_lt hg
  have hle := rest_le hb
  have hrest := rest_is hb
  refine (stream_Take.told ((left ++ l1).length + 301) g v left l1 A1 c1 ((allL (left ++ l1)).1.map toS) ((allL (left ++ l1)).2.length : Int) w hg (Kd.R_lower hR (Nat.zero_le _)) hr1 hc1 (by omega)
    (all_is hb (by rw [List.length_append]; omega) (Nat.le_refl _)) (by omega) (by omega)).mono ?_
  rintro e w' ⟨v0, v', m, rfl, hm, hS, hg', hR', hK⟩
  rw [Int.toNat_natCast, ← hrest] at hR'
  have hm0 := h.size
  exact ⟨v0, m, rfl, hm, ⟨⟨v', hg', Kd.R_lower (Kd.R_mono hR' (fun k hk => show k ≠ g by omega)) (by omega)⟩, h.ge, below_take h.below hm0 hK h.ge (Kd.R_base hR)⟩, hS⟩
theorem StOk.rest {m0 : Nat} {w2 w : World} {g : Nat} {left : List Int} (h : StOk m0 w2 w g left) :
    Calls Try.prog 14 #[.pointer (some ⟨g, 0, none⟩)] w fun e w' => e = .returned (.int .i64 left.length) ∧ w' = w := by
  obtain ⟨v, hg, hR⟩ := h.blk
  obtain ⟨A, c, rfl, _⟩ := v_reads hR
  exact stream_Rest.told g A _ c 49 w hg
end Go.Proofs.Ytjmpoiafcdphbab.PStreamFrames
