/- CrcParts: the sum goes on. -/
import Derived.Test.YtjmpoiafcdphbaaCrcTellCrcParts
namespace Go.Proofs.Ytjmpoiafcdphbaa.Pure
open Go.RowKit Go.Proofs.Ytjmpoiafcdphbaa.Crc Go.Proofs.Ytjmpoiafcdphbaa.PCrcParts Go.Proofs.Ytjmpoiafcdphbaa.TellCrcParts Go.Proofs.YtjmpoiafcdphbaaW.PrintWords Go.Proofs.YtjmpoiafcdphbaaW.PrintLast
theorem parts_l0 {a b : List Int} (ha : isBytes a) (hb : isBytes b) (hna : a.length ≤ 300) (hnb : b.length ≤ 300) : ∀ (d k i : Nat) (s : BitVec 16), i + d = b.length → d + 700 ≤ k → sumFrom s (b.drop i) = sumB (a ++ b) →
    sidesticklaw03_CrcParts.l0 k true a b ((s.toNat : Nat) : Int) (i : Int) = some true
  | 0, k + 1, i, s, h, hk, hs => by
    have hab : isBytes (a ++ b) := fun x hx => (List.mem_append.1 hx).elim (ha x) (hb x)
    rw [List.drop_eq_nil_of_le (by omega)] at hs
    have hs : s = sumB (a ++ b) := hs
    rw [sidesticklaw03_CrcParts.l0, if_neg (by omega), if_pos rfl, Option.bind_some, List.nil_append, if_pos (by simp; omega), Option.bind_some, if_pos (by omega), sum_is hab (by rw [List.length_append]; omega) (by rw [List.length_append]; omega), Option.bind_some, hs]
    simp [sumI]
  | d + 1, k + 1, i, s, h, hk, hs => by
    have e : wrap64 ((i : Int) + 1) = ((i + 1 : Nat) : Int) := by rw [wrap64_small (by omega) (by omega)]; omega
    have hi : i < b.length := by omega
    rw [rd_drop hi] at hs
    rw [sidesticklaw03_CrcParts.l0, if_pos (by omega), if_pos (by omega), stepB_is s (hb _ (rd_mem hi)) (by omega), Option.bind_some, e]
    exact parts_l0 ha hb hna hnb d k (i + 1) _ (by omega) (by omega) hs
theorem CrcParts : sidesticklaw03_CrcParts.Pure := by
  intro l0 l1 _ _ hl _ _ hl1
  have ha := few_bytes (bytes_of hl)
  have hb := few_bytes (bytes_of hl1)
  have hna := few_length l0
  have hnb := few_length l1
  refine ⟨2000, ?_⟩
  unfold sidesticklaw03_CrcParts.f
  rw [shown_is (by omega), Option.bind_some, few_is, Option.bind_some, few_is, Option.bind_some, sum_is ha (by omega) (by omega), Option.bind_some]
  exact parts_l0 ha hb hna hnb (TellCrcParts.fewL l1).length 2000 0 _ (by omega) (by omega) (by rw [List.drop_zero]; exact (sumFrom_append _ _ _).symm)
end Go.Proofs.Ytjmpoiafcdphbaa.Pure
