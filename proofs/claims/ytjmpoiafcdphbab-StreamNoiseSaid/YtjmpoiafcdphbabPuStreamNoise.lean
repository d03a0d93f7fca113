/- StreamNoise: bytes without a mark are nothing, and none of them is left; nothing is left ahead of a mark. -/
import Derived.Test.YtjmpoiafcdphbabStreamTellStreamNoise
import Derived.Test.YtjmpoiafcdphbabQStreamNoisex4
namespace Go.Proofs.Ytjmpoiafcdphbab.Pure
open Go Go.RowKit Go.Proofs.Ytjmpoiafcdphbab.Frame Go.Proofs.Ytjmpoiafcdphbab.Crc Go.Proofs.Ytjmpoiafcdphbab.Stream Go.Proofs.Ytjmpoiafcdphbab.PStreamNoise Go.Proofs.Ytjmpoiafcdphbab.TellStreamNoise Go.Proofs.YtjmpoiafcdphbabW.PrintWords
def cut2 (l : List Int) : List Int := l.take (min l.length 200)
theorem cut2_is (l : List Int) : l.take ((mn (l.length : Int) 200) : Int).toNat = cut2 l := by
  have e : mn (l.length : Int) 200 = ((min l.length 200 : Nat) : Int) := by unfold mn; split <;> omega
  rw [e, Int.toNat_natCast, cut2]
theorem calm_all {c : List Int} (hb : isB c) (hc : ∀ x ∈ c, x ≠ 165) : allL c = ([], []) := by
  have h := all_calm (c := c) (l := []) (by rw [List.append_nil]; exact hb) hc
  rw [List.append_nil] at h
  rw [h]; rfl
theorem rd_rest {x : List Int} (hb : isB x) (h : (allL x).2.length ≠ 0) : rd x (((x.length - (allL x).2.length : Nat)) : Int) = 165 ∧ (allL x).2.length ≤ x.length := by
  have hle := rest_le hb
  have hr := rest_is hb
  rcases wait_mark (rest_waits hb) with e | ⟨r, e⟩
  · rw [e] at h; exact absurd rfl h
  · refine ⟨?_, hle⟩
    unfold rd
    rw [Int.toNat_natCast, List.getD_eq_getElem?_getD]
    have : (x.drop (x.length - (allL x).2.length))[0]? = some 165 := by rw [← hr, e]; rfl
    rw [List.getElem?_drop, Nat.add_zero] at this
    rw [this]; rfl
theorem noise_end {l1 : List Int} (hl : isB l1) {l0 c : List Int} (hb : isB c) (hc : ∀ x ∈ c, x ≠ 165) (hn : c.length ≤ 200) (i : Int) {k : Nat} (hk : 2000 ≤ k) :
    sidesticklaw07_StreamNoise.j1 (k + 1) l0 l1 true c i false = some true := by
  have hx : isB (cut2 l1) := fun z hz => hl z (List.mem_of_mem_take hz)
  have nx : (cut2 l1).length ≤ 200 := by unfold cut2; rw [List.length_take]; omega
  have e : 0 ≤ mn (l1.length : Int) 200 ∧ mn (l1.length : Int) 200 ≤ (l1.length : Int) := by unfold mn; split <;> omega
  rw [sidesticklaw07_StreamNoise.j1, if_neg (by simp), all_is hb (by omega) (by omega), Option.bind_some, if_pos e.1, if_pos e.2, cut2_is]
  generalize cut2 l1 = x at *
  have hcx := isB_append hb hx
  rw [all_is hx (by omega) (by omega), Option.bind_some, Option.bind_some, if_pos (by rw [List.length_nil]; omega), Option.bind_some, List.nil_append, if_pos (by omega), all_is hcx (by rw [List.length_append]; omega) (by rw [List.length_append]; omega), Option.bind_some, all_calm hcx hc, calm_all hb hc]
  have hle := rest_le hx
  have hit : ((allL x).1.map toS).length ≤ 1000 := by
    rw [List.length_map]
    have key : ∀ l : List Int, isB l → (allL l).1.length ≤ l.length := fun l hl =>
      along (P := fun l => (allL l).1.length ≤ l.length) (fun l _ h => by rw [all_wait h]; exact Nat.zero_le _) (fun l hb h ih => by
        have := drop_lt hb h
        rw [all_step hb h]
        show (itL l ++ (allL (dropL l)).1).length ≤ l.length
        rw [List.length_append]
        have : (itL l).length ≤ 1 := by unfold itL; split; · simp
                                        · split <;> simp
        omega) hl
    have := key x hx
    omega
  dsimp only
  rw [if_neg (by omega), if_neg (by omega), if_pos rfl, if_pos (by rfl), if_pos (by rfl), same_is ((allL x).1.map toS) (by omega) (by omega), Option.bind_some, if_pos rfl, if_pos rfl]
  by_cases h0 : (allL x).2.length = 0
  · rw [if_pos (by omega)]
  · obtain ⟨h1, h2⟩ := rd_rest hx h0
    have ew : wrap64 ((x.length : Int) - ((allL x).2.length : Int)) = ((x.length - (allL x).2.length : Nat) : Int) := by rw [wrap64_small (by omega) (by omega)]; omega
    rw [if_neg (by omega), ew, if_pos (by omega), if_pos (by omega), h1]
    rfl
theorem noise_loop {l0 l1 : List Int} (h0 : isB l0) (hn : l0.length ≤ 140737488351232) (hl : isB l1) : ∀ (d i k : Nat) (c : List Int), i + d = min l0.length 200 → 2 * d + 2002 ≤ k → isB c → (∀ x ∈ c, x ≠ 165) → c.length ≤ i →
    sidesticklaw07_StreamNoise.l0 k l0 l1 true c (i : Int) = some true
  | 0, i, k, c, hi, hk, hb, hc, hcl => by
    obtain ⟨k, rfl⟩ : ∃ m, k = m + 2 := ⟨k - 2, by omega⟩
    rw [sidesticklaw07_StreamNoise.l0]
    by_cases h : (i : Int) < (l0.length : Int)
    · rw [if_pos h, decide_eq_false (by omega)]
      exact noise_end hl hb hc (by omega) _ (by omega)
    · rw [if_neg h]
      exact noise_end hl hb hc (by omega) _ (by omega)
  | d + 1, i, k, c, hi, hk, hb, hc, hcl => by
    obtain ⟨k, rfl⟩ : ∃ m, k = m + 2 := ⟨k - 2, by omega⟩
    have e : wrap64 ((i : Int) + 1) = ((i + 1 : Nat) : Int) := by rw [wrap64_small (by omega) (by omega)]; omega
    have hr : rd l0 (i : Int) = l0[i]'(by omega) := by unfold rd; rw [Int.toNat_natCast, List.getD_eq_getElem?_getD, List.getElem?_eq_getElem (by omega)]; rfl
    have hm : rd l0 (i : Int) ∈ l0 := by rw [hr]; exact List.getElem_mem _
    rw [sidesticklaw07_StreamNoise.l0, if_pos (by omega), decide_eq_true (by omega), sidesticklaw07_StreamNoise.j1, if_pos rfl, if_pos (by omega), if_pos (by omega), e]
    by_cases h : rd l0 (i : Int) = 165
    · rw [if_pos h]
      exact noise_loop h0 hn hl d (i + 1) k c (by omega) (by omega) hb hc (by omega)
    · rw [if_neg h, if_pos (by omega)]
      refine noise_loop h0 hn hl d (i + 1) k _ (by omega) (by omega) (isB_append hb (fun z hz => ?_)) (fun z hz => ?_) (by rw [List.length_append]; simp only [List.length_cons, List.length_nil]; omega)
      · rw [List.mem_singleton.1 hz]; exact h0 _ hm
      · rcases List.mem_append.1 hz with hz | hz
        · exact hc z hz
        · rw [List.mem_singleton.1 hz]; exact h
theorem StreamNoise : sidesticklaw07_StreamNoise.Pure := by
  intro l0 l1 _ hn hl _ _ hl1
  refine ⟨5000, ?_⟩
  unfold sidesticklaw07_StreamNoise.f
  rw [show sidesticklaw07_shown.f = some true from rfl, Option.bind_some]
  exact noise_loop (bytes_of hl) (by omega) (bytes_of hl1) (min l0.length 200) 0 5000 [] (by omega) (by omega) (fun x hx => by cases hx) (fun x hx => by cases hx) (by simp)
end Go.Proofs.Ytjmpoiafcdphbab.Pure
