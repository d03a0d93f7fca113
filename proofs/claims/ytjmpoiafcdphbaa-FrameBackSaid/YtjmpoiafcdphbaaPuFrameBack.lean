/- FrameBack: a frame is found whole, its beginnings wait, what is too long is none. -/
import Derived.Test.YtjmpoiafcdphbaaFrameTellFrameBack
import Derived.Test.YtjmpoiafcdphbaaFrameMathB
import Derived.Test.YtjmpoiafcdphbaaFrameMathD
import Derived.Test.YtjmpoiafcdphbaaQFrameBackx4
namespace Go.Proofs.Ytjmpoiafcdphbaa.Pure
open Go.RowKit Go.Proofs.Ytjmpoiafcdphbaa.Frame Go.Proofs.Ytjmpoiafcdphbaa.Crc Go.Proofs.Ytjmpoiafcdphbaa.PFrameBack Go.Proofs.Ytjmpoiafcdphbaa.TellFrameBack Go.Proofs.YtjmpoiafcdphbaaW.PrintWords Go.Proofs.YtjmpoiafcdphbaaW.PrintLast
theorem isB_take {l : List Int} (h : isB l) (n : Nat) : isB (l.take n) := fun x hx => h x (List.mem_of_mem_take hx)
theorem back_end {a : List Int} (ha : isB a) {p : List Int} (i : Int) {k : Nat} (hk : 500 ≤ k) (hi : ¬ i < (p.length : Int)) : sidesticklaw06_FrameBack.l0 (k + 1) a p i = some true := by
  have hf := few_bytes ha
  have nf := few_length a
  rw [sidesticklaw06_FrameBack.l0, if_neg hi, few_is, Option.bind_some]
  by_cases h : ((fewL a).length : Int) ≤ 32
  · rw [if_pos h]
  · rw [if_neg h, Option.bind_some, put_is hf nf (by omega), Option.bind_some]
    have e : putL (fewL a) = ([], 1) := by unfold putL; rw [if_pos (by omega)]
    rw [e]
    rfl
theorem back_loop {a x : List Int} (ha : isB a) (hx : isB x) (nx : x.length ≤ 32) : ∀ (d i k : Nat), i + d = (frL x).length → d + 600 ≤ k → sidesticklaw06_FrameBack.l0 k a (frL x) (i : Int) = some true
  | 0, i, k, hi, hk => by
    obtain ⟨k, rfl⟩ : ∃ m, k = m + 1 := ⟨k - 1, by omega⟩
    exact back_end ha _ (by omega) (by omega)
  | d + 1, i, k, hi, hk => by
    obtain ⟨k, rfl⟩ : ∃ m, k = m + 1 := ⟨k - 1, by omega⟩
    have hl := frL_length x
    have e : wrap64 ((i : Int) + 1) = ((i + 1 : Nat) : Int) := by rw [wrap64_small (by omega) (by omega)]; omega
    rw [sidesticklaw06_FrameBack.l0, if_pos (by omega), if_pos (by omega), if_pos (by omega), Int.toNat_natCast, next_is (isB_take (frL_isB hx nx) i) (by rw [List.length_take]; omega) (by omega), Option.bind_some, next_begin nx (by omega), if_pos rfl, if_pos rfl, if_pos (by rfl), e]
    exact back_loop ha hx nx d (i + 1) k (by omega) (by omega)
theorem FrameBack : sidesticklaw06_FrameBack.Pure := by
  intro l0 l1 _ _ hl _ _ hl1
  have ha := bytes_of hl
  have hx := body_bytes ha
  have hm := few_bytes (bytes_of hl1)
  have nx := body_length l0
  have nm := few_length l1
  refine ⟨2000, ?_⟩
  unfold sidesticklaw06_FrameBack.f
  rw [shown_is (by omega), Option.bind_some, body_is, Option.bind_some, put_is hx (by omega) (by omega), Option.bind_some, if_pos rfl]
  generalize bodyL l0 = x at *
  have hl := frL_length x
  have e5 : wrap64 ((x.length : Int) + 5) = ((x.length + 5 : Nat) : Int) := by rw [wrap64_small (by omega) (by omega)]; omega
  have hfm : isB (frL x ++ fewL l1) := fun z hz => (List.mem_append.1 hz).elim (frL_isB hx nx z) (hm z)
  rw [putL_is nx]
  dsimp only
  rw [if_pos rfl, hl, e5, bne_self_eq_false, sidesticklaw06_FrameBack.j0, if_neg (by decide), Option.bind_some, if_pos (by rw [List.length_nil]; omega), Option.bind_some, List.nil_append, few_is, Option.bind_some, if_pos (by omega), next_is hfm (by rw [List.length_append]; omega) (by omega), Option.bind_some, next_frame nx]
  dsimp only
  rw [if_pos rfl, if_pos (by omega), if_pos rfl, sidesticklaw06_FrameBack.j1, if_neg (by decide)]
  exact back_loop ha hx nx (frL x).length 0 _ (by omega) (by omega)
end Go.Proofs.Ytjmpoiafcdphbaa.Pure
