/- StreamFrames: frames come as they were put, in order, with whatever between them that has no mark. -/
import Derived.Test.YtjmpoiafcdphbabStreamTellStreamFrames
import Derived.Test.YtjmpoiafcdphbabFrameMathD
import Derived.Test.YtjmpoiafcdphbabQStreamFramesx4
namespace Go.Proofs.Ytjmpoiafcdphbab.Pure
open Go Go.RowKit Go.Proofs.Ytjmpoiafcdphbab.Frame Go.Proofs.Ytjmpoiafcdphbab.Crc Go.Proofs.Ytjmpoiafcdphbab.Stream Go.Proofs.Ytjmpoiafcdphbab.PStreamFrames Go.Proofs.Ytjmpoiafcdphbab.TellStreamFrames Go.Proofs.YtjmpoiafcdphbabW.PrintWords
/-- What each piece must be. -/
def Pieces (l : List (List Int)) : Prop := ∀ x ∈ l, isB x
theorem mn_small (x : List Int) (n : Nat) : 0 ≤ mn (x.length : Int) (n : Int) ∧ mn (x.length : Int) (n : Int) ≤ (x.length : Int) ∧ x.take ((mn (x.length : Int) (n : Int)) : Int).toNat = x.take n := by
  have e : mn (x.length : Int) (n : Int) = ((min x.length n : Nat) : Int) := by unfold mn; split <;> omega
  rw [e, Int.toNat_natCast]
  refine ⟨by omega, by omega, ?_⟩
  by_cases h : x.length ≤ n
  · rw [Nat.min_eq_left h, List.take_of_length_le (Nat.le_refl _), List.take_of_length_le h]
  · rw [Nat.min_eq_right (by omega)]
theorem rd_mem {l : List (List Int)} {i : Nat} (h : i < l.length) : rd_L2 l (i : Int) ∈ l := by
  unfold rd_L2
  rw [Int.toNat_natCast, List.getD_eq_getElem?_getD, List.getElem?_eq_getElem h]
  exact List.getElem_mem h
def Few (l : List (List Int)) : Prop := l.length ≤ 20 ∧ ∀ x ∈ l, isB x ∧ x.length ≤ 100
theorem few_loop {l : List (List Int)} (hl : Pieces l) : ∀ (d i k : Nat) (x : List (List Int)), i + d = 20 → d < k → x.length ≤ i → Few x → ∃ r, sidesticklaw07_few.l0 k l x (i : Int) = some r ∧ Few r
  | 0, i, k + 1, x, hi, _, hx, hf => ⟨x, by
      rw [sidesticklaw07_few.l0]
      by_cases h : (i : Int) < (l.length : Int)
      · rw [if_pos h, if_neg (by omega)]
      · rw [if_neg h], hf⟩
  | d + 1, i, k + 1, x, hi, hk, hx, hf => by
    rw [sidesticklaw07_few.l0]
    by_cases h : (i : Int) < (l.length : Int)
    · have hm := rd_mem (l := l) (i := i) (by omega)
      obtain ⟨m1, m2, m3⟩ := mn_small (rd_L2 l (i : Int)) 100
      have e : wrap64 ((i : Int) + 1) = ((i + 1 : Nat) : Int) := by rw [wrap64_small (by omega) (by omega)]; omega
      have m1' : 0 ≤ mn ((rd_L2 l (i : Int)).length : Int) 100 := m1
      have m2' : mn ((rd_L2 l (i : Int)).length : Int) 100 ≤ ((rd_L2 l (i : Int)).length : Int) := m2
      have m3' : (rd_L2 l (i : Int)).take ((mn ((rd_L2 l (i : Int)).length : Int) 100) : Int).toNat = (rd_L2 l (i : Int)).take 100 := m3
      rw [if_pos h, if_pos (by omega), if_pos (by omega), if_pos m1', if_pos m2', if_pos (by omega), m3', e]
      refine few_loop hl d (i + 1) k _ (by omega) (by omega) (by rw [List.length_append]; simp only [List.length_cons, List.length_nil]; omega) ⟨by rw [List.length_append]; simp only [List.length_cons, List.length_nil]; omega, fun z hz => ?_⟩
      rcases List.mem_append.1 hz with hz | hz
      · exact hf.2 z hz
      · rw [List.mem_singleton.1 hz]
        exact ⟨fun y hy => hl _ hm y (List.mem_of_mem_take hy), by rw [List.length_take]; omega⟩
    · rw [if_neg h]
      exact ⟨x, rfl, hf⟩
theorem few_is {l : List (List Int)} (hl : Pieces l) {k : Nat} (hk : 30 ≤ k) : ∃ r, sidesticklaw07_few.f k l = some r ∧ Few r := by
  unfold sidesticklaw07_few.f
  exact few_loop hl 20 0 k [] (by omega) (by omega) (Nat.le_refl _) ⟨by simp, fun x hx => by cases hx⟩
theorem all_frame {b m : List Int} (hb : isB b) (hn : b.length ≤ 32) (hm : isB m) : allL (frL b ++ m) = ((0, b) :: (allL m).1, (allL m).2) := by
  have hfm : isB (frL b ++ m) := isB_append (frL_isB hb hn) hm
  have e := next_frame hn m
  have h0 : (nextL (frL b ++ m)).1 ≠ 0 := by rw [e]; simp
  have e1 : itL (frL b ++ m) = [(0, b)] := by unfold itL; rw [e]; rfl
  have e2 : dropL (frL b ++ m) = m := by
    unfold dropL
    rw [e]
    show (frL b ++ m).drop ((b.length : Int) + 5).toNat = m
    rw [show ((b.length : Int) + 5).toNat = (frL b).length by rw [frL_length]; omega, List.drop_left]
  rw [all_step hfm h0, e1, e2]
  rfl
/-- Bytes whose items are known, and of which nothing is left. -/
def Tells (p : List Int) (w : List It) : Prop := isB p ∧ ∀ m, isB m → allL (p ++ m) = (w ++ (allL m).1, (allL m).2)
theorem tells_nil : Tells [] [] := ⟨(fun x hx => by cases hx), fun m _ => rfl⟩
theorem tells_calm {p c : List Int} {w : List It} (h : Tells p w) (hc : isB c) (hn : ∀ x ∈ c, x ≠ 165) : Tells (p ++ c) w :=
  ⟨isB_append h.1 hc, fun m hm => by rw [List.append_assoc, h.2 _ (isB_append hc hm), all_calm (isB_append hc hm) hn]⟩
theorem tells_frame {p b : List Int} {w : List It} (h : Tells p w) (hb : isB b) (hn : b.length ≤ 32) : Tells (p ++ frL b) (w ++ [(0, b)]) :=
  ⟨isB_append h.1 (frL_isB hb hn), fun m hm => by rw [List.append_assoc, h.2 _ (isB_append (frL_isB hb hn) hm), all_frame hb hn hm, List.append_assoc]; rfl⟩
theorem all_nil : allL [] = ([], []) := rfl
theorem frames_end {c : List Int} (hc : isB c) (hn : ∀ x ∈ c, x ≠ 165) (nc : c.length ≤ 50) {p : List Int} {w : List It} (h : Tells p w) (np : p.length ≤ 10000) (nw : w.length ≤ 100) {l6 : List (List Int)} {k : Nat} (hk : 12000 ≤ k) {i : Int} (hi : ¬ i < (l6.length : Int)) :
    sidesticklaw07_StreamFrames.l1 (k + 1) true l6 c p (w.map toS) i = some true := by
  have ha : isB (c ++ p) := isB_append hc h.1
  have e : allL (c ++ p) = (w, []) := by
    rw [all_calm ha hn]
    have := h.2 [] (fun x hx => by cases hx)
    rw [List.append_nil, all_nil, List.append_nil] at this
    exact this
  rw [sidesticklaw07_StreamFrames.l1, if_neg hi, Option.bind_some, if_pos (by rw [List.length_nil]; omega), Option.bind_some, List.nil_append, if_pos (by omega), all_is ha (by rw [List.length_append]; omega) (by rw [List.length_append]; omega), Option.bind_some, e, if_pos rfl]
  dsimp only
  rw [same_is (w.map toS) (by rw [List.length_map]; omega) (by rw [List.length_map]; omega), Option.bind_some, if_pos rfl]
  rfl
theorem frames_loop {c : List Int} (hc : isB c) (hn : ∀ x ∈ c, x ≠ 165) (nc : c.length ≤ 50) {l6 : List (List Int)} (h6 : Few l6) : ∀ (d i k : Nat) (p : List Int) (w : List It), i + d = l6.length → d + 12100 ≤ k → Tells p w → p.length ≤ 100 * i → w.length ≤ i →
    sidesticklaw07_StreamFrames.l1 k true l6 c p (w.map toS) (i : Int) = some true
  | 0, i, k, p, w, hi, hk, h, np, nw => by
    obtain ⟨k, rfl⟩ : ∃ m, k = m + 1 := ⟨k - 1, by omega⟩
    have := h6.1
    exact frames_end hc hn nc h (by omega) (by omega) (by omega) (by omega)
  | d + 1, i, k, p, w, hi, hk, h, np, nw => by
    obtain ⟨k, rfl⟩ : ∃ m, k = m + 1 := ⟨k - 1, by omega⟩
    have h20 := h6.1
    have hm := h6.2 _ (rd_mem (l := l6) (i := i) (by omega))
    obtain ⟨m1, m2, m3⟩ := mn_small (rd_L2 l6 (i : Int)) 32
    have e : wrap64 ((i : Int) + 1) = ((i + 1 : Nat) : Int) := by rw [wrap64_small (by omega) (by omega)]; omega
    have m1' : 0 ≤ mn ((rd_L2 l6 (i : Int)).length : Int) 32 := m1
    have m2' : mn ((rd_L2 l6 (i : Int)).length : Int) 32 ≤ ((rd_L2 l6 (i : Int)).length : Int) := m2
    have m3' : (rd_L2 l6 (i : Int)).take ((mn ((rd_L2 l6 (i : Int)).length : Int) 32) : Int).toNat = (rd_L2 l6 (i : Int)).take 32 := m3
    have hb : isB ((rd_L2 l6 (i : Int)).take 32) := fun y hy => hm.1 y (List.mem_of_mem_take hy)
    have nb : ((rd_L2 l6 (i : Int)).take 32).length ≤ 32 := by rw [List.length_take]; omega
    rw [sidesticklaw07_StreamFrames.l1, if_pos (by omega), if_pos (by omega), if_pos m1', if_pos m2', m3', Option.bind_some, refput_is hb (by omega) (by omega), Option.bind_some, putL_is nb]
    dsimp only
    generalize (rd_L2 l6 (i : Int)).take 32 = b at *
    have lf := frL_length b
    rw [if_pos (by omega), Option.bind_some, if_pos (by rw [List.length_append]; omega), if_pos (by rw [List.length_map]; omega), e]
    have ew : w.map toS ++ [(⟨0, b⟩ : S31)] = (w ++ [((0 : Int), b)]).map toS := by rw [List.map_append]; rfl
    rw [ew]
    exact frames_loop hc hn nc h6 d (i + 1) k _ _ (by omega) (by omega) (tells_calm (tells_frame h hb nb) hc hn) (by rw [List.length_append, List.length_append]; omega) (by rw [List.length_append]; simp only [List.length_cons, List.length_nil]; omega)
theorem calm_loop {l1 : List Int} (h1 : isB l1) (n1 : l1.length ≤ 140737488351232) {l6 : List (List Int)} (h6 : Few l6) : ∀ (d i k : Nat) (c : List Int), i + d = min l1.length 50 → 2 * d + 13000 ≤ k → isB c → (∀ x ∈ c, x ≠ 165) → c.length ≤ i →
    sidesticklaw07_StreamFrames.l0 k l1 true l6 c (i : Int) = some true
  | 0, i, k, c, hi, hk, hb, hc, hcl => by
    obtain ⟨k, rfl⟩ : ∃ m, k = m + 2 := ⟨k - 2, by omega⟩
    have last : sidesticklaw07_StreamFrames.j1 (k + 1) l1 true l6 c (i : Int) false = some true := by
      rw [sidesticklaw07_StreamFrames.j1, if_neg (by decide)]
      exact frames_loop hb hc (by omega) h6 l6.length 0 k [] [] (by omega) (by have := h6.1; omega) tells_nil (by simp) (by simp)
    rw [sidesticklaw07_StreamFrames.l0]
    by_cases h : (i : Int) < (l1.length : Int)
    · rw [if_pos h, decide_eq_false (by omega)]
      exact last
    · rw [if_neg h]
      exact last
  | d + 1, i, k, c, hi, hk, hb, hc, hcl => by
    obtain ⟨k, rfl⟩ : ∃ m, k = m + 2 := ⟨k - 2, by omega⟩
    have e : wrap64 ((i : Int) + 1) = ((i + 1 : Nat) : Int) := by rw [wrap64_small (by omega) (by omega)]; omega
    have hm : rd l1 (i : Int) ∈ l1 := by
      unfold rd
      rw [Int.toNat_natCast, List.getD_eq_getElem?_getD, List.getElem?_eq_getElem (by omega)]
      exact List.getElem_mem _
    rw [sidesticklaw07_StreamFrames.l0, if_pos (by omega), decide_eq_true (by omega), sidesticklaw07_StreamFrames.j1, if_pos rfl, if_pos (by omega), if_pos (by omega), e]
    by_cases h : rd l1 (i : Int) = 165
    · rw [if_pos h]
      exact calm_loop h1 n1 h6 d (i + 1) k c (by omega) (by omega) hb hc (by omega)
    · rw [if_neg h, if_pos (by omega)]
      refine calm_loop h1 n1 h6 d (i + 1) k _ (by omega) (by omega) (isB_append hb (fun z hz => ?_)) (fun z hz => ?_) (by rw [List.length_append]; simp only [List.length_cons, List.length_nil]; omega)
      · rw [List.mem_singleton.1 hz]; exact h1 _ hm
      · rcases List.mem_append.1 hz with hz | hz
        · exact hc z hz
        · rw [List.mem_singleton.1 hz]; exact h
theorem StreamFrames {l0 : List (List Int)} {l1 : List Int} (h0 : Pieces l0) (h1 : isB l1) (n1 : l1.length ≤ 140737488351232) : ∃ k, sidesticklaw07_StreamFrames.f k l0 l1 = some true := by
  obtain ⟨r, hr, hf⟩ := few_is h0 (k := 20000) (by omega)
  refine ⟨20000, ?_⟩
  unfold sidesticklaw07_StreamFrames.f
  rw [show sidesticklaw07_shown.f = some true from rfl, Option.bind_some, hr, Option.bind_some]
  exact calm_loop h1 n1 hf (min l1.length 50) 0 20000 [] (by omega) (by omega) (fun x hx => by cases hx) (fun x hx => by cases hx) (by simp)
end Go.Proofs.Ytjmpoiafcdphbab.Pure
