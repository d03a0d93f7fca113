/- CrcBursts: turned bits within 16 in a row. -/
import Derived.Test.YtjmpoiafcdphbaaCrcTellCrcBursts
import Derived.Test.YtjmpoiafcdphbaaCrcMathC
namespace Go.Proofs.Ytjmpoiafcdphbaa.Pure
set_option linter.unnecessarySimpa false
open Go.RowKit Go.Proofs.Ytjmpoiafcdphbaa.Crc Go.Proofs.Ytjmpoiafcdphbaa.PCrcBursts Go.Proofs.Ytjmpoiafcdphbaa.TellCrcBursts Go.Proofs.YtjmpoiafcdphbaaW.PrintWords Go.Proofs.YtjmpoiafcdphbaaW.PrintLast Go.Proofs.YtjmpoiafcdphbaaW.PrintMore
theorem split1 : ∀ {l : List Int} {k : Nat}, k < l.length → ∃ p x q, l = p ++ x :: q ∧ p.length = k
  | x :: q, 0, _ => ⟨[], x, q, rfl, rfl⟩
  | a :: l, k + 1, h => by
    obtain ⟨p, x, q, e, hp⟩ := split1 (l := l) (k := k) (by simp at h; omega)
    exact ⟨a :: p, x, q, by rw [e]; rfl, by simp [hp]⟩
  | [], _, h => by simp at h
theorem set_at (p : List Int) (x v : Int) (q : List Int) : (p ++ x :: q).set p.length v = p ++ v :: q := by
  rw [List.set_append_right _ _ (Nat.le_refl _), Nat.sub_self]; rfl
theorem rd_at (p : List Int) (x : Int) (q : List Int) : rd (p ++ x :: q) ((p.length : Nat) : Int) = x := by
  unfold rd
  simp [List.getD_eq_getElem?_getD]
theorem whole_is {b : List Int} (hb : isBytes b) (hn : b.length ≤ 300) {k : Nat} (hk : 400 ≤ k) : ∃ l, sidesticklaw03_whole.f k b = some l ∧ isBytes l ∧ l.length = b.length + 2 ∧ sumB l = 0#16 := by
  have hr := sumI_range b
  have e1 : Go.bits .and .u16 (sumI b) 255 = sumI b % 256 := bits_mask .u16 16 (by decide) (fun n h0 h1 => by rw [wrap_u16]; omega) 8 (by decide) (sumI b) hr.1 (by omega)
  refine ⟨b ++ [(sumI b / 256) % 256, (sumI b % 256) % 256], ?_, ?_, by simp, ?_⟩
  · unfold sidesticklaw03_whole.f
    rw [sum_is hb (by omega) (by omega), Option.bind_some, Option.bind_some, if_pos (by simp; omega), Option.bind_some, Option.bind_some, e1, if_pos (by simp; omega), List.nil_append]
  · intro x hx
    simp only [List.mem_append, List.mem_cons, List.not_mem_nil, or_false] at hx
    rcases hx with h | h | h
    · exact hb x h
    · omega
    · omega
  · unfold sumB
    rw [sumFrom_append]
    exact whole_zero (sumFrom 65535#16 b) (by show sumI b / 256 % 256 = sumI b / 256; omega) (by show sumI b % 256 % 256 = sumI b % 256; omega)
/-- The loop: what was turned so far stands in acc. -/
theorem burst_l0 {n q m : Nat} {bs : Int} (hn : n ≤ 400) (hn8 : 8 * n = q + m) (hm : 1 ≤ m) (hbs : Go.bits .and .u16 (shr .u16 bs 15) 1 = 1) :
    ∀ (d k i : Nat) (x : List Int) (acc : BitVec 16), i + d = min 16 m → 2 * d + 500 ≤ k → x.length = n → isBytes x → sumB x = rN m acc → (0 < i → acc.msb = true) → (i = 0 → acc = 0#16) →
    sidesticklaw03_CrcBursts.l0 k x ((8 * n : Nat) : Int) (q : Int) bs (i : Int) = some true
  | d, k + 2, i, x, acc, hd, hk, hx, hb, hs, h1, h2 => by
    have ei : wrap64 ((i : Int) + 1) = ((i + 1 : Nat) : Int) := by rw [wrap64_small (by omega) (by omega)]; omega
    have eq : wrap64 ((q : Int) + (i : Int)) = ((q + i : Nat) : Int) := by rw [wrap64_small (by omega) (by omega)]; omega
    rw [sidesticklaw03_CrcBursts.l0, eq]
    cases d with
    | zero =>
      have stop : ∀ b : Bool, b = false → sidesticklaw03_CrcBursts.j2 (k + 1) x ((8 * n : Nat) : Int) (q : Int) bs (i : Int) b = some true := by
        intro b hb'
        rw [sidesticklaw03_CrcBursts.j2, if_neg (by rw [hb']; decide), sum_is hb (by omega) (by omega), Option.bind_some]
        have hne : sumI x ≠ 0 := by
          intro h0
          have h0' : sumB x = 0#16 := BitVec.eq_of_toNat_eq (by unfold sumI at h0; simp; omega)
          rw [hs] at h0'
          have := rN_eq_zero h0'
          have h3 := h1 (by omega)
          rw [this] at h3
          exact absurd h3 (by decide)
        simp [hne]
      by_cases h16 : (i : Int) < 16
      · rw [if_pos h16]
        exact stop _ (decide_eq_false (by omega))
      · rw [if_neg h16]
        exact stop _ rfl
    | succ d =>
      have e15 : wrap64 (15 - (i : Int)) = 15 - (i : Int) := wrap64_small (by omega) (by omega)
      rw [if_pos (by omega), sidesticklaw03_CrcBursts.j2, if_pos (by rw [decide_eq_true]; omega), e15, if_pos (by omega)]
      by_cases hbit : Go.bits .and .u16 (shr .u16 bs (15 - (i : Int))) 1 = 1
      · have ed : wrap64 (Int.tdiv ((q + i : Nat) : Int) 8) = (((q + i) / 8 : Nat) : Int) := by
          rw [Int.tdiv_eq_ediv_of_nonneg (by omega), wrap64_small (by omega) (by omega)]; omega
        have em : Int.tmod ((q + i : Nat) : Int) 8 = (((q + i) % 8 : Nat) : Int) := by
          rw [Int.tmod_eq_emod_of_nonneg (by omega)]; omega
        have es : shr .u8 128 (((q + i) % 8 : Nat) : Int) = 128 / 2 ^ ((q + i) % 8) := by
          unfold shr
          rw [Int.toNat_natCast]
          have : min ((q + i) % 8) (IntKind.u8.bits) = (q + i) % 8 := by
            have : IntKind.u8.bits = 8 := rfl
            omega
          rw [this]
        have hv : (0 : Int) ≤ 128 / 2 ^ ((q + i) % 8) ∧ (128 : Int) / 2 ^ ((q + i) % 8) ≤ 255 := by
          have : ∀ j : Fin 8, (0 : Int) ≤ 128 / 2 ^ j.val ∧ (128 : Int) / 2 ^ j.val ≤ 255 := by decide
          exact this ⟨(q + i) % 8, Nat.mod_lt _ (by decide)⟩
        rw [if_pos hbit, eq, ed, em, if_pos (by omega), if_pos (by omega), if_pos (by omega), es, ei, Int.toNat_natCast]
        obtain ⟨p, c, r, rfl, hp⟩ := split1 (l := x) (k := (q + i) / 8) (by omega)
        rw [← hp, rd_at, set_at]
        have hc : 0 ≤ c ∧ c ≤ 255 := hb c (by simp)
        have hl : p.length + (r.length + 1) = n := by rw [← hx]; simp
        have ht := top_bits hc hv
        refine burst_l0 hn hn8 hm hbs d k (i + 1) _ (acc ^^^ bitAt i) (by omega) (by omega) (by simp; omega) ?_ ?_ ?_ (by omega)
        · intro z hz
          simp only [List.mem_append, List.mem_cons] at hz
          rcases hz with h | h | h
          · exact hb z (by simp [h])
          · rw [h]; exact ht.2
          · exact hb z (by simp [h])
        · rw [sum_turn p r c _ hc hv, hs, rN_xor]
          congr 1
          have e1 : 8 * (r.length + 1) = (q + i) % 8 + (m - i) := by omega
          have e2 : m = i + (m - i) := by omega
          rw [e1, turn_is (Nat.mod_lt _ (by decide))]
          conv => rhs; rw [e2]
          rw [turn_at (by omega)]
        · intro _
          rw [BitVec.msb_xor]
          have hbm := bit_msb ⟨i, by omega⟩
          simp only at hbm
          rw [hbm]
          by_cases h0 : i = 0
          · rw [h2 h0, decide_eq_true h0]; decide
          · rw [h1 (by omega), decide_eq_false h0]; rfl
      · have hi0 : i ≠ 0 := by
          rintro rfl
          exact hbit (by simpa using hbs)
        rw [if_neg hbit, ei]
        exact burst_l0 hn hn8 hm hbs d k (i + 1) x acc (by omega) (by omega) hx hb hs (fun _ => h1 (by omega)) (by omega)
  | d, 0, i, x, acc, hd, hk, hx, hb, hs, h1, h2 => by omega
  | d, 1, i, x, acc, hd, hk, hx, hb, hs, h1, h2 => by omega
theorem bits15 {a : Int} (h : 0 ≤ a ∧ a ≤ 65535) : Go.bits .and .u16 (shr .u16 (Go.bits .or .u16 a 32768) 15) 1 = 1 := by
  obtain ⟨x, rfl⟩ := Int.eq_ofNat_of_zero_le h.1
  have e1 := (bits_nat .u16 16 (by decide) (fun n h0 h1 => by rw [wrap_u16]; omega) x 32768 (by omega) (by decide)).2
  have e1' : Go.bits .or .u16 ((x : Nat) : Int) 32768 = ((x ||| 32768 : Nat) : Int) := e1
  have hlt : x ||| 32768 < 65536 := Nat.or_lt_two_pow (n := 16) (by omega) (by decide)
  have hge : 32768 ≤ x ||| 32768 := Nat.right_le_or
  rw [e1']
  have e2 : shr .u16 ((x ||| 32768 : Nat) : Int) 15 = 1 := by
    unfold shr
    show ((x ||| 32768 : Nat) : Int) / 2 ^ (min 15 16) = 1
    have : (2 : Int) ^ (min 15 16) = 32768 := rfl
    rw [this]
    omega
  rw [e2]
  rfl
theorem CrcBursts : sidesticklaw03_CrcBursts.Pure := by
  intro l0 a1 a2 _ _ hl h1 h2
  have hb := few_bytes (bytes_of hl)
  have hn := few_length l0
  have h2 := u16_of h2
  have h1 := i64_of h1
  refine ⟨1000, ?_⟩
  unfold sidesticklaw03_CrcBursts.f
  obtain ⟨l, e, gb, gl, gs⟩ := whole_is hb hn (k := 1000) (by omega)
  have hz : sumI l = 0 := by unfold sumI; rw [gs]; rfl
  rw [shown_is (by omega), Option.bind_some, few_is, Option.bind_some, e, Option.bind_some, if_pos rfl, sum_is gb (by omega) (by omega), Option.bind_some, hz]
  have en : wrap64 (8 * (l.length : Int)) = ((8 * l.length : Nat) : Int) := by rw [wrap64_small (by omega) (by omega)]; omega
  rw [sidesticklaw03_CrcBursts.j0, if_neg (by decide), en, if_neg (by omega)]
  have hpos : (0 : Int) < ((8 * l.length : Nat) : Int) := by omega
  have hlen : ((8 * l.length : Nat) : Int) ≤ 2416 := by omega
  generalize hN : ((8 * l.length : Nat) : Int) = N at *
  have t1 : -N < Int.tmod a1 N ∧ Int.tmod a1 N < N := by
    rcases Int.le_total 0 a1 with h | h
    · rw [Int.tmod_eq_emod_of_nonneg h]
      have := Int.emod_nonneg a1 (show N ≠ 0 by omega)
      have := Int.emod_lt_of_pos a1 hpos
      omega
    · have e : Int.tmod a1 N = -((-a1) % N) := by
        rw [← Int.tmod_eq_emod_of_nonneg (show 0 ≤ -a1 by omega), Int.neg_tmod, Int.neg_neg]
      rw [e]
      have := Int.emod_nonneg (-a1) (show N ≠ 0 by omega)
      have := Int.emod_lt_of_pos (-a1) hpos
      omega
  rw [wrap64_small (x := Int.tmod a1 N + N) (by omega) (by omega), Int.tmod_eq_emod_of_nonneg (by omega)]
  have m0 := Int.emod_nonneg (Int.tmod a1 N + N) (show N ≠ 0 by omega)
  have m1 := Int.emod_lt_of_pos (Int.tmod a1 N + N) hpos
  obtain ⟨q, hq⟩ := Int.eq_ofNat_of_zero_le m0
  rw [hq] at m1 ⊢
  subst hN
  refine burst_l0 (n := l.length) (q := q) (m := 8 * l.length - q) (by omega) (by omega) (by omega) (bits15 h2) (min 16 (8 * l.length - q)) 999 0 l 0#16 (by omega) (by omega) rfl gb (by rw [gs, rN_zero]) (by omega) (fun _ => rfl)
end Go.Proofs.Ytjmpoiafcdphbaa.Pure
