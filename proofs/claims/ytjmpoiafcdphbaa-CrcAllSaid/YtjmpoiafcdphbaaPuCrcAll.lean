/- CrcAll: both sums are the one told. -/
import Derived.Test.YtjmpoiafcdphbaaCrcTellCrcAll
namespace Go.Proofs.Ytjmpoiafcdphbaa.Pure
open Go.RowKit Go.Proofs.Ytjmpoiafcdphbaa.PCrcAll Go.Proofs.Ytjmpoiafcdphbaa.TellCrcAll Go.Proofs.YtjmpoiafcdphbaaW.PrintWords Go.Proofs.YtjmpoiafcdphbaaW.PrintLast
theorem CrcAll : sidesticklaw03_CrcAll.Pure := by
  intro l0 a1 a2 _ _ hl h1 h2
  have hb := few_bytes (bytes_of hl)
  have hn := few_length l0
  refine ⟨400, ?_⟩
  unfold sidesticklaw03_CrcAll.f
  rw [shown_is (by omega), Option.bind_some, few_is, Option.bind_some, if_pos rfl, sum_is hb (by omega) (by omega), Option.bind_some, refsum_is hb (by omega) (by omega), Option.bind_some, if_pos rfl, step_is (u16_of h1) (u8_of h2) (by omega), Option.bind_some, refstep_is (u16_of h1) (u8_of h2) (by omega), Option.bind_some]
  simp
end Go.Proofs.Ytjmpoiafcdphbaa.Pure
