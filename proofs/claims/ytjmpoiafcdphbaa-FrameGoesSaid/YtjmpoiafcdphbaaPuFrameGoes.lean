/- FrameGoes: what stands at the beginning, and more behind. -/
import Derived.Test.YtjmpoiafcdphbaaFrameTellFrameGoes
import Derived.Test.YtjmpoiafcdphbaaFrameMathB
import Derived.Test.YtjmpoiafcdphbaaQFrameGoesx3
namespace Go.Proofs.Ytjmpoiafcdphbaa.Pure
open Go.RowKit Go.Proofs.Ytjmpoiafcdphbaa.Frame Go.Proofs.Ytjmpoiafcdphbaa.PFrameGoes Go.Proofs.Ytjmpoiafcdphbaa.TellFrameGoes Go.Proofs.YtjmpoiafcdphbaaW.PrintWords Go.Proofs.YtjmpoiafcdphbaaW.PrintLast
theorem shown_is {k : Nat} (hk : 300 ≤ k) : sidesticklaw06_shown.f k = some true := by
  unfold sidesticklaw06_shown.f
  rw [next_is (l := [1, 2, 165]) (by intro x hx; simp at hx; omega) (by simp) hk, Option.bind_some, next_is (l := [165, 2]) (by intro x hx; simp at hx; omega) (by simp) hk, Option.bind_some]
  rfl
def fewL (l : List Int) : List Int := l.take (min l.length 100)
theorem few_is (l : List Int) : sidesticklaw06_few.f l = some (fewL l) := by
  have e : mn (l.length : Int) 100 = ((min l.length 100 : Nat) : Int) := by unfold mn; split <;> omega
  unfold sidesticklaw06_few.f
  rw [e, if_pos (by omega), if_pos (by omega)]
  rfl
theorem few_bytes {l : List Int} (h : isB l) : isB (fewL l) := fun x hx => h x (List.mem_of_mem_take hx)
theorem few_length (l : List Int) : (fewL l).length ≤ 100 := by unfold fewL; rw [List.length_take]; omega
theorem same_refl (f : Int × Int × Int × List Int) : sidestickref06_Same.f f.1 f.2.1 f.2.2.1 f.2.2.2 f.1 f.2.1 f.2.2.1 f.2.2.2 = some true := by
  unfold sidestickref06_Same.f
  rw [if_pos rfl, if_pos rfl, if_pos rfl]
  simp
theorem FrameGoes : sidesticklaw06_FrameGoes.Pure := by
  intro l0 l1 _ _ hl _ _ hl1
  have hx := few_bytes (bytes_of hl)
  have hm := few_bytes (bytes_of hl1)
  have nx := few_length l0
  have nm := few_length l1
  have hy : isB (fewL l0 ++ fewL l1) := fun z hz => (List.mem_append.1 hz).elim (hx z) (hm z)
  refine ⟨1000, ?_⟩
  unfold sidesticklaw06_FrameGoes.f
  rw [shown_is (by omega), Option.bind_some, few_is, Option.bind_some, next_is hx (by omega) (by omega), Option.bind_some, Option.bind_some, if_pos (by simp; omega), Option.bind_some, few_is, Option.bind_some, List.nil_append, if_pos (by omega), next_is hy (by rw [List.length_append]; omega) (by omega), Option.bind_some]
  generalize fewL l0 = x at *
  generalize fewL l1 = m at *
  by_cases h0 : (nextL x).1 = 0
  · obtain ⟨h1, h2⟩ := next_wait h0
    rw [if_pos h0, if_pos rfl, if_pos h1, decide_eq_true (by omega)]
  · obtain ⟨h1, h2⟩ := next_size hx h0
    rw [if_neg h0, if_neg (by omega), sidesticklaw06_FrameGoes.j0, if_neg (by simp; omega)]
    by_cases h3 : (nextL x).1 = 1
    · obtain ⟨g1, g2, g3⟩ := next_more_skip m h3
      rw [if_pos h3, if_pos rfl, if_pos g1, if_pos g2]
      by_cases h4 : (nextL (x ++ m)).2.1 = (nextL x).2.1
      · rw [if_pos h4]
      · rw [if_neg h4]
        have := g3.resolve_left h4
        simp [this]
    · rw [if_neg h3, if_pos rfl, next_more hx m h0 h3, same_refl]
      rfl
end Go.Proofs.Ytjmpoiafcdphbaa.Pure
