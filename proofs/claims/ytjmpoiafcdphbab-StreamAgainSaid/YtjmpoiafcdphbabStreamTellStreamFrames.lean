/- What All and Same tell, as StreamFrames has them. -/
import Derived.Test.YtjmpoiafcdphbabFrameTellStreamFrames
import Derived.Test.YtjmpoiafcdphbabQStreamFramesx4
import Derived.Test.YtjmpoiafcdphbabStreamMath
namespace Go.Proofs.Ytjmpoiafcdphbab.TellStreamFrames
open Go Go.RowKit Go.Proofs.Ytjmpoiafcdphbab.PStreamFrames Go.Proofs.Ytjmpoiafcdphbab.Crc Go.Proofs.Ytjmpoiafcdphbab.Frame Go.Proofs.Ytjmpoiafcdphbab.Stream Go.Proofs.YtjmpoiafcdphbabW.PrintWords
set_option linter.unusedSimpArgs false
def toS (p : It) : S31 := ⟨p.1, p.2⟩
theorem all_loop {l : List Int} (hb : isB l) : ∀ (k : Nat) (x : List S31), l.length + 301 ≤ k → l.length ≤ 100000 → x.length + l.length ≤ 1000000 →
    stream_All.l0 k l x = some (x ++ (allL l).1.map toS, ((allL l).2.length : Int)) :=
  along (P := fun l => ∀ (k : Nat) (x : List S31), l.length + 301 ≤ k → l.length ≤ 100000 → x.length + l.length ≤ 1000000 → stream_All.l0 k l x = some (x ++ (allL l).1.map toS, ((allL l).2.length : Int)))
    (fun l hl h k x hk hn hx => by
      obtain ⟨k, rfl⟩ : ∃ m, k = m + 1 := ⟨k - 1, by omega⟩
      rw [stream_All.l0, next_is hl (by omega) (by omega), Option.bind_some, if_pos h, all_wait h, List.map_nil, List.append_nil])
    (fun l hl h ih k x hk hn hx => by
      have hs := next_size hl h
      have hd := drop_lt hl h
      obtain ⟨k, rfl⟩ : ∃ m, k = m + 1 := ⟨k - 1, by omega⟩
      have e0 : dropL l = l.drop (nextL l).2.1.toNat := rfl
      rw [stream_All.l0, next_is hl (by omega) (by omega), Option.bind_some, if_neg h, all_step hl h, itL]
      by_cases h2 : (nextL l).1 = 2
      · rw [if_pos h2, if_pos h2, if_pos (by omega), if_pos (by omega), if_pos hs.2, ← e0, ih _ _ (by omega) (by omega) (by rw [List.length_append]; simp only [List.length_cons, List.length_nil]; omega)]
        simp only [List.map_append, List.map_cons, List.map_nil, List.append_assoc, toS]
      · rw [if_neg h2, if_neg h2]
        by_cases h3 : (nextL l).1 = 3
        · rw [if_pos h3, if_pos h3, if_pos (by omega), if_pos (by omega), if_pos hs.2, ← e0, ih _ _ (by omega) (by omega) (by rw [List.length_append]; simp only [List.length_cons, List.length_nil]; omega)]
          simp only [List.map_append, List.map_cons, List.map_nil, List.append_assoc, toS]
        · rw [if_neg h3, if_neg h3, if_pos (by omega), if_pos hs.2, ← e0, ih _ _ (by omega) (by omega) (by omega)]
          rfl) hb
theorem all_is {l : List Int} (hb : isB l) (hn : l.length ≤ 100000) {k : Nat} (hk : l.length + 301 ≤ k) : stream_All.f k l = some ((allL l).1.map toS, ((allL l).2.length : Int)) := by
  unfold stream_All.f
  rw [all_loop hb k [] hk hn (by rw [List.length_nil]; omega), List.nil_append]
theorem same_loop (x : List S31) (hn : x.length ≤ 1000000) : ∀ (d k i : Nat), i + d = x.length → d < k → sidestickref07_Same.l0 k x x (i : Int) = some true
  | 0, k + 1, i, h, _ => by rw [sidestickref07_Same.l0, if_neg (by omega)]
  | d + 1, k + 1, i, h, hk => by
    have e : wrap64 ((i : Int) + 1) = ((i + 1 : Nat) : Int) := by rw [wrap64_small (by omega) (by omega)]; omega
    rw [sidestickref07_Same.l0, if_pos (by omega), if_pos (by omega), if_pos (by omega), if_pos rfl, if_pos rfl, e]
    exact same_loop x hn d k (i + 1) (by omega) (by omega)
theorem same_is (x : List S31) (hn : x.length ≤ 1000000) {k : Nat} (hk : x.length < k) : sidestickref07_Same.f k x x = some true := by
  unfold sidestickref07_Same.f
  rw [if_pos rfl]
  exact same_loop x hn x.length k 0 (by omega) hk
end Go.Proofs.Ytjmpoiafcdphbab.TellStreamFrames
