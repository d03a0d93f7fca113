/- FrameBursts: a frame with some bits turned within 16 in a row is none by its sum; one of another version, or too long, is none as soon as that has come. -/
import Derived.Test.YtjmpoiafcdphbaaFrameTellFrameBursts
import Derived.Test.YtjmpoiafcdphbaaFrameMathB
import Derived.Test.YtjmpoiafcdphbaaFrameMathD
import Derived.Test.YtjmpoiafcdphbaaCrcMathC
import Derived.Test.YtjmpoiafcdphbaaQFrameBurstsx4
namespace Go.Proofs.Ytjmpoiafcdphbaa.Pure
open Go Go.RowKit Go.Proofs.Ytjmpoiafcdphbaa.Frame Go.Proofs.Ytjmpoiafcdphbaa.Crc Go.Proofs.Ytjmpoiafcdphbaa.PFrameBursts Go.Proofs.Ytjmpoiafcdphbaa.TellFrameBursts Go.Proofs.YtjmpoiafcdphbaaW.PrintWords Go.Proofs.YtjmpoiafcdphbaaW.PrintLast Go.Proofs.YtjmpoiafcdphbaaW.PrintMore
set_option linter.unnecessarySimpa false
set_option linter.unusedVariables false
theorem split1 : ∀ {l : List Int} {k : Nat}, k < l.length → ∃ p x q, l = p ++ x :: q ∧ p.length = k
  | x :: q, 0, _ => ⟨[], x, q, rfl, rfl⟩
  | a :: l, k + 1, h => by
    obtain ⟨p, x, q, e, hp⟩ := split1 (l := l) (k := k) (by simp at h; omega)
    exact ⟨a :: p, x, q, by rw [e]; rfl, by simp [hp]⟩
  | [], _, h => by simp at h
theorem set_at3 (a b c : Int) (p : List Int) (x v : Int) (q : List Int) : (a :: b :: c :: (p ++ x :: q)).set (3 + p.length) v = a :: b :: c :: (p ++ v :: q) := by
  rw [show 3 + p.length = p.length + 1 + 1 + 1 by omega, List.set_cons_succ, List.set_cons_succ, List.set_cons_succ, List.set_append_right _ _ (Nat.le_refl _), Nat.sub_self]; rfl
theorem rd_at3 (a b c : Int) (p : List Int) (x : Int) (q : List Int) : rd (a :: b :: c :: (p ++ x :: q)) ((3 + p.length : Nat) : Int) = x := by
  unfold rd
  rw [Int.toNat_natCast, show 3 + p.length = p.length + 1 + 1 + 1 by omega]
  simp [List.getD_eq_getElem?_getD]
theorem two_split {r : List Int} {n : Nat} (h : r.length = n + 2) : r = r.take n ++ [r.getD n 0, r.getD (n + 1) 0] := by
  have := take_two (r := r) (m := n) (by omega)
  rw [List.take_of_length_le (by omega)] at this
  exact this
theorem zero_of_sum {n : Nat} {r : List Int} (hr : r.length = n + 2) (h : sumI (1 :: (n : Int) :: r.take n) = 256 * r.getD n 0 + r.getD (n + 1) 0) (h1 : 0 ≤ r.getD n 0 ∧ r.getD n 0 ≤ 255) (h2 : 0 ≤ r.getD (n + 1) 0 ∧ r.getD (n + 1) 0 ≤ 255) : sumB (1 :: (n : Int) :: r) = 0#16 := by
  have e : (1 :: (n : Int) :: r) = (1 :: (n : Int) :: r.take n) ++ [r.getD n 0, r.getD (n + 1) 0] := by
    conv => lhs; rw [two_split hr]
    rfl
  rw [e]
  unfold sumB
  rw [sumFrom_append]
  unfold sumI sumB at h
  generalize sumFrom 65535#16 (1 :: (n : Int) :: r.take n) = s at *
  exact whole_zero s (by omega) (by omega)
theorem getD_isB {r : List Int} (h : isB r) {i : Nat} (hi : i < r.length) : 0 ≤ r.getD i 0 ∧ r.getD i 0 ≤ 255 := by
  rw [List.getD_eq_getElem?_getD, List.getElem?_eq_getElem hi]
  exact h _ (List.getElem_mem hi)
/-- What the turned frame is told to be. -/
theorem turned_next {n : Nat} {r : List Int} (hn : n ≤ 32) (hr : r.length = n + 2) (hb : isB r) (h : sumB (1 :: (n : Int) :: r) ≠ 0#16) : nextL (165 :: 1 :: (n : Int) :: r) = (3, 1, 12, []) := by
  rw [next_tail]
  rcases tail_cases (n : Int) r with ⟨h1, _⟩ | ⟨_, h2, _⟩ | ⟨_, _, h3, _⟩ | ⟨_, _, _, e⟩
  · omega
  · omega
  · rw [Int.toNat_natCast] at h3
    exact absurd (zero_of_sum hr h3 (getD_isB hb (by omega)) (getD_isB hb (by omega))) h
  · exact e
theorem and127 {a : Int} (h : 0 ≤ a ∧ a ≤ 65535) : Go.bits .and .u16 a 127 = a % 128 := bits_mask .u16 16 (by decide) (fun n h0 h1 => by rw [wrap_u16]; omega) 7 (by decide) a h.1 (by omega)
/-- Behind the loop. -/
theorem burst_end {b : List Int} (hb : isB b) (nb : b.length ≤ 32) {r : List Int} (hr : r.length = b.length + 2) (gr : isB r) (hs : sumB (1 :: (b.length : Int) :: r) ≠ 0#16) {x2 : Int} (h2 : 0 ≤ x2 ∧ x2 ≤ 65535) {k : Nat} (hk : 400 ≤ k) (x11 x12 x13 x14 : Int) :
    sidesticklaw06_FrameBursts.j2 (k + 1) x2 (165 :: 1 :: (b.length : Int) :: r) (frL b) x11 x12 x13 x14 false = some true := by
  have e127 := and127 h2
  have lf := frL_length b
  have bf := frL_isB hb nb
  have bp : isB (165 :: 1 :: (b.length : Int) :: r) := by
    intro z hz
    simp only [List.mem_cons] at hz
    rcases hz with h | h | h | h
    · omega
    · omega
    · omega
    · exact gr z h
  obtain ⟨s, hs1⟩ : ∃ s, frL b = 165 :: 1 :: (b.length : Int) :: s := ⟨_, rfl⟩
  rw [hs1] at lf bf ⊢
  have bs : isB s := isB_tail (isB_tail (isB_tail bf))
  have e1 : rd (165 :: 1 :: (b.length : Int) :: s) 1 = 1 := rfl
  have m0 := Int.emod_nonneg x2 (show (128 : Int) ≠ 0 by decide)
  have m1 := Int.emod_lt_of_pos x2 (show (0 : Int) < 128 by decide)
  have g1 : ((1 + 1) % 256 + (x2 % 128) % 256) % 256 = 2 + x2 % 128 := by omega
  have g2 : (33 + (x2 % 128) % 256) % 256 = 33 + x2 % 128 := by omega
  have st1 : (165 :: 1 :: (b.length : Int) :: s).set (1 : Int).toNat (2 + x2 % 128) = 165 :: (2 + x2 % 128) :: (b.length : Int) :: s := rfl
  have tk : (165 :: 1 :: (b.length : Int) :: s).take 3 = [165, 1, (b.length : Int)] := rfl
  have st2 : ([165, 1, (b.length : Int)] : List Int).set (2 : Int).toNat (33 + x2 % 128) = [165, 1, 33 + x2 % 128] := rfl
  have n1 : nextL (165 :: (2 + x2 % 128) :: (b.length : Int) :: s) = (3, 1, 10, []) := next_version _ (by omega)
  have n2 : nextL [165, 1, 33 + x2 % 128] = (3, 1, 11, []) := by
    rw [next_tail]; unfold tailL; rw [if_pos (by omega)]
  have q1 : isB (165 :: (2 + x2 % 128) :: (b.length : Int) :: s) := by
    intro z hz
    simp only [List.mem_cons] at hz
    rcases hz with h | h | h | h
    · omega
    · omega
    · omega
    · exact bs z h
  have q2 : isB [165, 1, 33 + x2 % 128] := by
    intro z hz
    simp only [List.mem_cons, List.not_mem_nil, or_false] at hz
    rcases hz with h | h | h <;> omega
  have z1 : (165 :: 1 :: (b.length : Int) :: r).length ≤ 100 := by simp only [List.length_cons]; omega
  have z2 : (165 :: 1 :: (b.length : Int) :: s).length ≤ 100 := by omega
  have z3 : (165 :: (2 + x2 % 128) :: (b.length : Int) :: s).length ≤ 100 := by simp only [List.length_cons] at z2 ⊢; omega
  rw [sidesticklaw06_FrameBursts.j2, if_neg (by decide), next_is bp (by omega) (by omega), Option.bind_some, turned_next nb hr gr hs, Option.bind_some, if_pos (by rw [List.length_nil]; omega), Option.bind_some, List.nil_append, if_pos (by omega), e1, e127, g1, st1, next_is q1 (by omega) (by omega), n1, Option.bind_some, Option.bind_some, if_pos (by omega), tk, Option.bind_some,
    if_pos (by simp only [List.length_cons, List.length_nil]; omega), Option.bind_some, List.nil_append, if_pos (by simp only [List.length_cons, List.length_nil]; omega), g2, st2, next_is q2 (by simp only [List.length_cons, List.length_nil]; omega) (by omega), n2, Option.bind_some]
  rfl
theorem shr_is {j : Nat} (h : j < 8) : shr .u8 128 ((j : Nat) : Int) = 128 / 2 ^ j := by
  unfold shr
  rw [Int.toNat_natCast]
  have : min j (IntKind.u8.bits) = j := by
    have : IntKind.u8.bits = 8 := rfl
    omega
  rw [this]
theorem bit_in {j : Nat} (h : j < 8) : (0 : Int) ≤ 128 / 2 ^ j ∧ (128 : Int) / 2 ^ j ≤ 255 := by
  have : ∀ j : Fin 8, (0 : Int) ≤ 128 / 2 ^ j.val ∧ (128 : Int) / 2 ^ j.val ≤ 255 := by decide
  exact this ⟨j, h⟩
/-- The loop: what was turned so far stands in acc. -/
theorem burst_l0 {b : List Int} (hb : isB b) (nb : b.length ≤ 32) {x2 : Int} (h2 : 0 ≤ x2 ∧ x2 ≤ 65535) {q m : Nat} {bs : Int} (hn8 : 8 * (b.length + 2) = q + m) (hm : 1 ≤ m) (hbs : Aside0 (Go.bits .and .u16 (shr .u16 bs 15) 1 = 1)) :
    ∀ (d k i : Nat) (r : List Int) (acc : BitVec 16), i + d = min 16 m → 2 * d + 500 ≤ k → r.length = b.length + 2 → isB r → sumB (1 :: (b.length : Int) :: r) = rN m acc → (0 < i → acc.msb = true) → (i = 0 → acc = 0#16) →
    sidesticklaw06_FrameBursts.l0 k x2 (165 :: 1 :: (b.length : Int) :: r) (frL b) ((8 * (b.length + 2) : Nat) : Int) (q : Int) bs (i : Int) = some true
  | d, k + 2, i, r, acc, hd, hk, hr, gr, hs, h1, h0 => by
    have ei : wrap64 ((i : Int) + 1) = ((i + 1 : Nat) : Int) := by rw [wrap64_small (by omega) (by omega)]; omega
    have eq : wrap64 ((q : Int) + (i : Int)) = ((q + i : Nat) : Int) := by rw [wrap64_small (by omega) (by omega)]; omega
    rw [sidesticklaw06_FrameBursts.l0, eq]
    cases d with
    | zero =>
      have hne : sumB (1 :: (b.length : Int) :: r) ≠ 0#16 := by
        intro h0'
        rw [hs] at h0'
        have := rN_eq_zero h0'
        have h3 := h1 (by omega)
        rw [this] at h3
        exact absurd h3 (by decide)
      by_cases h16 : (i : Int) < 16
      · rw [if_pos h16, decide_eq_false (by omega)]
        exact burst_end hb nb hr gr hne h2 (by omega) _ _ _ _
      · rw [if_neg h16]
        exact burst_end hb nb hr gr hne h2 (by omega) _ _ _ _
    | succ d =>
      have e15 : wrap64 (15 - (i : Int)) = 15 - (i : Int) := wrap64_small (by omega) (by omega)
      rw [if_pos (by omega), decide_eq_true (by omega), sidesticklaw06_FrameBursts.j2, if_pos rfl, e15, if_pos (by omega)]
      by_cases hbit : Go.bits .and .u16 (shr .u16 bs (15 - (i : Int))) 1 = 1
      · have ed : wrap64 (Int.tdiv ((q + i : Nat) : Int) 8) = (((q + i) / 8 : Nat) : Int) := by
          rw [Int.tdiv_eq_ediv_of_nonneg (by omega), wrap64_small (by omega) (by omega)]; omega
        have ed3 : wrap64 (3 + (((q + i) / 8 : Nat) : Int)) = ((3 + (q + i) / 8 : Nat) : Int) := by rw [wrap64_small (by omega) (by omega)]; omega
        have em : Int.tmod ((q + i : Nat) : Int) 8 = (((q + i) % 8 : Nat) : Int) := by
          rw [Int.tmod_eq_emod_of_nonneg (by omega)]; omega
        rw [if_pos hbit]
        clear hbit
        rw [eq, ed, ed3, em, ei]
        clear eq ed ed3 em ei e15
        rw [if_pos (by omega), if_pos (by simp only [List.length_cons]; omega), if_pos (by omega), shr_is (j := (q + i) % 8) (Nat.mod_lt _ (by decide)), Int.toNat_natCast]
        have hv := bit_in (j := (q + i) % 8) (Nat.mod_lt _ (by decide))
        obtain ⟨p, c, t, rfl, hp⟩ := split1 (l := r) (k := (q + i) / 8) (by omega)
        rw [← hp, rd_at3, set_at3]
        have hc : 0 ≤ c ∧ c ≤ 255 := gr c (by simp)
        have hl : p.length + (t.length + 1) = b.length + 2 := by rw [← hr]; simp
        have ht := top_bits hc hv
        refine burst_l0 hb nb h2 hn8 hm hbs d k (i + 1) _ (acc ^^^ bitAt i) (by omega) (by omega) (by simp; omega) ?_ ?_ ?_ (by omega)
        · intro z hz
          simp only [List.mem_append, List.mem_cons] at hz
          rcases hz with h | h | h
          · exact gr z (by simp [h])
          · rw [h]; exact ht.2
          · exact gr z (by simp [h])
        · have est := sum_turn (1 :: (b.length : Int) :: p) t c _ hc hv
          have ea : (1 :: (b.length : Int) :: p) ++ c :: t = 1 :: (b.length : Int) :: (p ++ c :: t) := rfl
          have eb : (1 :: (b.length : Int) :: p) ++ Go.bits .xor .u8 c (128 / 2 ^ ((q + i) % 8)) :: t = 1 :: (b.length : Int) :: (p ++ Go.bits .xor .u8 c (128 / 2 ^ ((q + i) % 8)) :: t) := rfl
          rw [ea, eb] at est
          rw [est, hs, rN_xor]
          congr 1
          have e1 : 8 * (t.length + 1) = (q + i) % 8 + (m - i) := by omega
          have e2 : m = i + (m - i) := by omega
          rw [e1, turn_is (Nat.mod_lt _ (by decide))]
          conv => rhs; rw [e2]
          rw [turn_at (by omega)]
        · intro _
          rw [BitVec.msb_xor]
          have hbm := bit_msb ⟨i, by omega⟩
          simp only at hbm
          rw [hbm]
          by_cases hi0 : i = 0
          · rw [h0 hi0, decide_eq_true hi0]; decide
          · rw [h1 (by omega), decide_eq_false hi0]; rfl
      · have hi0 : i ≠ 0 := by
          rintro rfl
          exact hbit (by simpa using hbs.out)
        rw [if_neg hbit, ei]
        clear eq ei e15 hbit
        exact burst_l0 hb nb h2 hn8 hm hbs d k (i + 1) r acc (by omega) (by omega) hr gr hs (fun _ => h1 (by omega)) (by omega)
  | d, 0, i, x, acc, hd, hk, hx, hb, hs, h1, h2 => by omega
  | d, 1, i, x, acc, hd, hk, hx, hb, hs, h1, h2 => by omega
theorem bits15 {a : Int} (h : 0 ≤ a ∧ a ≤ 65535) : Go.bits .and .u16 (shr .u16 (Go.bits .or .u16 a 32768) 15) 1 = 1 := by
  obtain ⟨x, rfl⟩ := Int.eq_ofNat_of_zero_le h.1
  have e1 := (bits_nat .u16 16 (by decide) (fun n h0 h1 => by rw [wrap_u16]; omega) x 32768 (by omega) (by decide)).2
  have e1' : Go.bits .or .u16 ((x : Nat) : Int) 32768 = ((x ||| 32768 : Nat) : Int) := e1
  have hlt : x ||| 32768 < 65536 := Nat.or_lt_two_pow (n := 16) (by omega) (by decide)
  have hge : 32768 ≤ x ||| 32768 := Nat.right_le_or
  rw [e1']
  have e2 : shr .u16 ((x ||| 32768 : Nat) : Int) 15 = 1 := by
    unfold shr
    show ((x ||| 32768 : Nat) : Int) / 2 ^ (min 15 16) = 1
    have : (2 : Int) ^ (min 15 16) = 32768 := rfl
    rw [this]
    omega
  rw [e2]
  rfl
theorem tmod_in {a N : Int} (hpos : 0 < N) : -N < Int.tmod a N ∧ Int.tmod a N < N := by
  rcases Int.le_total 0 a with h | h
  · rw [Int.tmod_eq_emod_of_nonneg h]
    have := Int.emod_nonneg a (show N ≠ 0 by omega)
    have := Int.emod_lt_of_pos a hpos
    omega
  · have e : Int.tmod a N = -((-a) % N) := by
      rw [← Int.tmod_eq_emod_of_nonneg (show 0 ≤ -a by omega), Int.neg_tmod, Int.neg_neg]
    rw [e]
    have := Int.emod_nonneg (-a) (show N ≠ 0 by omega)
    have := Int.emod_lt_of_pos (-a) hpos
    omega
theorem FrameBursts : sidesticklaw06_FrameBursts.Pure := by
  intro l0 a1 a2 _ _ hl h1 h2
  have hx := body_bytes (bytes_of hl)
  have nx := body_length l0
  have h2 := u16_of h2
  refine ⟨2000, ?_⟩
  unfold sidesticklaw06_FrameBursts.f
  rw [shown_is (by omega), Option.bind_some, body_is, Option.bind_some, put_is hx (by omega) (by omega), Option.bind_some, if_pos rfl]
  generalize bodyL l0 = b at *
  have lf := frL_length b
  have gf := frL_isB hx nx
  rw [putL_is nx]
  dsimp only
  rw [if_pos rfl, decide_eq_false (by omega), sidesticklaw06_FrameBursts.j0, if_neg (by decide), Option.bind_some, if_pos (by rw [List.length_nil]; omega), List.nil_append, lf]
  have e1 : wrap64 (((b.length + 5 : Nat) : Int) - 3) = ((b.length + 2 : Nat) : Int) := by rw [wrap64_small (by omega) (by omega)]; omega
  have e2 : wrap64 (8 * ((b.length + 2 : Nat) : Int)) = ((8 * (b.length + 2) : Nat) : Int) := by rw [wrap64_small (by omega) (by omega)]; omega
  rw [e1, e2, if_neg (by omega)]
  have hpos : (0 : Int) < ((8 * (b.length + 2) : Nat) : Int) := by omega
  have t1 := tmod_in (a := a1) hpos
  have m0 := Int.emod_nonneg (Int.tmod a1 ((8 * (b.length + 2) : Nat) : Int) + ((8 * (b.length + 2) : Nat) : Int)) (show ((8 * (b.length + 2) : Nat) : Int) ≠ 0 by omega)
  have m1 := Int.emod_lt_of_pos (Int.tmod a1 ((8 * (b.length + 2) : Nat) : Int) + ((8 * (b.length + 2) : Nat) : Int)) hpos
  rw [wrap64_small (x := Int.tmod a1 ((8 * (b.length + 2) : Nat) : Int) + ((8 * (b.length + 2) : Nat) : Int)) (by omega) (by omega), Int.tmod_eq_emod_of_nonneg (by omega)]
  obtain ⟨q, hq⟩ := Int.eq_ofNat_of_zero_le m0
  rw [hq] at m1 ⊢
  have hz : sumB (1 :: (b.length : Int) :: (b ++ [sumI (1 :: (b.length : Int) :: b) / 256, sumI (1 :: (b.length : Int) :: b) % 256])) = 0#16 := by
    have e : (1 :: (b.length : Int) :: (b ++ [sumI (1 :: (b.length : Int) :: b) / 256, sumI (1 :: (b.length : Int) :: b) % 256])) = (1 :: (b.length : Int) :: b) ++ [sumI (1 :: (b.length : Int) :: b) / 256, sumI (1 :: (b.length : Int) :: b) % 256] := rfl
    rw [e]
    unfold sumI sumB
    rw [sumFrom_append]
    exact whole_zero (sumFrom 65535#16 (1 :: (b.length : Int) :: b)) rfl rfl
  have hf : frL b = 165 :: 1 :: (b.length : Int) :: (b ++ [sumI (1 :: (b.length : Int) :: b) / 256, sumI (1 :: (b.length : Int) :: b) % 256]) := rfl
  have key := burst_l0 hx nx h2 (q := q) (m := 8 * (b.length + 2) - q) (by omega) (by omega) ⟨bits15 h2⟩ (min 16 (8 * (b.length + 2) - q)) 1999 0 (b ++ [sumI (1 :: (b.length : Int) :: b) / 256, sumI (1 :: (b.length : Int) :: b) % 256]) 0#16 (by omega) (by omega)
    (by simp only [List.length_append, List.length_cons, List.length_nil]) (isB_tail (isB_tail (isB_tail gf))) (by rw [hz, rN_zero]) (by omega) (fun _ => rfl)
  rw [← hf] at key
  exact key
end Go.Proofs.Ytjmpoiafcdphbaa.Pure
