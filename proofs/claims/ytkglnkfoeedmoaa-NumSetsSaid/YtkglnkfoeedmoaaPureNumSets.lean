/- NumSets: a set's members add up to it, and with one more member it has just that one more; for every two integers. -/
import Derived.Test.YtkglnkfoeedmoaaPNumSetsx1
import Derived.Test.YtkglnkfoeedmoaaMath
namespace Go.Proofs.Ytkglnkfoeedmoaa.Pure
open Go.RowKit Go.Proofs.Ytkglnkfoeedmoaa.PNumSets Go.Proofs.YtkglnkfoeedmoaaW.PrintWords Go.Proofs.YtkglnkfoeedmoaaW.PrintLast Go.Proofs.YtkglnkfoeedmoaaW.PrintMore Go.Proofs.Ytkglnkfoeedmoaa.Math

theorem has_nat (n i : Nat) (hi : i ≤ 62) : num_Has.f n i = some (n.testBit i) := by
  unfold num_Has.f
  rw [if_pos (by omega), if_pos (by omega), if_pos (by omega), if_pos (by omega), and_one_i64, testBit_div]
  unfold shr
  have e : ((n : Int) / 2 ^ min (i : Int).toNat IntKind.i64.bits) = ((n / 2 ^ i : Nat) : Int) := by
    rw [Int.toNat_natCast, Nat.min_eq_left (by show i ≤ 64; omega)]
    simp
  rw [e]
  congr 1
  generalize n / 2 ^ i = q
  by_cases h : q % 2 = 1
  · rw [decide_eq_true h, beq_iff_eq]; omega
  · rw [decide_eq_false h, beq_eq_false_iff_ne]; omega
theorem has_neg (s i : Int) (h : s < 0) : num_Has.f s i = some false := by
  unfold num_Has.f; rw [if_neg (by omega)]
theorem has_idx (s i : Int) (h : i < 0 ∨ 62 < i) : num_Has.f s i = some false := by
  unfold num_Has.f
  by_cases h0 : s ≥ 0
  · rw [if_pos h0]
    by_cases h1 : i ≥ 0
    · rw [if_pos h1, if_neg (by omega)]
    · rw [if_neg h1]
  · rw [if_neg h0]

theorem shown_eq2 : sidesticklaw01_shown.f 5 = some true := by decide +kernel

theorem mod_succ (n i : Nat) : n % 2 ^ (i + 1) = n % 2 ^ i + (if n.testBit i then 2 ^ i else 0) := by
  rw [Nat.mod_pow_succ, testBit_div]
  have h2 : n / 2 ^ i % 2 < 2 := Nat.mod_lt _ (by decide)
  generalize n / 2 ^ i % 2 = q at *
  by_cases h : q = 1
  · subst h; simp
  · have : q = 0 := by omega
    subst this; simp

theorem l1_ends (d : Nat) : ∀ (k : Nat) (n m : Nat) (i : Int), n < 2 ^ 20 → m < 32 → -1 ≤ i → i ≤ 64 → 64 - i = d → d < k →
    sidesticklaw01_NumSets.l1 k true n m n ((n ||| 2 ^ m : Nat) : Int) i = some true := by
  induction d with
  | zero =>
    intro k n m i hn hm h0 h1 hd hk
    obtain ⟨k, rfl⟩ : ∃ q, k = q + 1 := ⟨k - 1, by omega⟩
    simp only [sidesticklaw01_NumSets.l1]
    rw [if_neg (by omega), has_neg _ _ (by unfold wrap64; omega)]
    simp only [Option.bind_some, Bool.false_eq_true, if_false, if_true]
    rw [has_idx _ _ (by unfold wrap64; omega)]
    simp only [Option.bind_some, Bool.false_eq_true, if_false]
    rw [has_idx _ _ (by omega)]
    rfl
  | succ d ih =>
    intro k n m i hn hm h0 h1 hd hk
    obtain ⟨k, rfl⟩ : ∃ q, k = q + 1 := ⟨k - 1, by omega⟩
    have hw : wrap64 (i + 1) = i + 1 := by unfold wrap64; omega
    have hr := ih k n m (i + 1) hn hm (by omega) (by omega) (by omega) (by omega)
    simp only [sidesticklaw01_NumSets.l1]
    rw [if_pos (by omega), hw]
    by_cases hi : 0 ≤ i ∧ i ≤ 62
    · obtain ⟨j, rfl⟩ : ∃ j : Nat, i = j := ⟨i.toNat, by omega⟩
      rw [has_nat _ j (by omega), has_nat _ j (by omega)]
      simp only [Option.bind_some]
      have hb : (n ||| 2 ^ m).testBit j = (n.testBit j || decide (m = j)) := by
        rw [Nat.testBit_or, Nat.testBit_two_pow]
      rw [hb]
      by_cases hx : n.testBit j = true
      · rw [hx]; simpa using hr
      · have hx' : n.testBit j = false := by simpa using hx
        rw [hx']
        have e : ((j : Int) == (m : Int)) = decide (m = j) := by
          by_cases hmj : m = j
          · subst hmj; simp
          · simp [hmj]; omega
        simp only [Bool.false_or, Bool.false_eq_true, if_false, e]
        simpa using hr
    · rw [has_idx _ _ (by omega), has_idx _ _ (by omega)]
      simp only [Option.bind_some, Bool.false_eq_true, if_false]
      have e : (i == (m : Int)) = false := by simp; omega
      rw [e]; simpa using hr

theorem l0_ends (d : Nat) : ∀ (k : Nat) (n m i : Nat), n < 2 ^ 20 → m < 32 → i ≤ 64 → 64 - i = d → d + 100 < k →
    sidesticklaw01_NumSets.l0 k true n m ((n % 2 ^ i : Nat) : Int) i = some true := by
  induction d with
  | zero =>
    intro k n m i hn hm h1 hd hk
    obtain ⟨k, rfl⟩ : ∃ q, k = q + 1 := ⟨k - 1, by omega⟩
    obtain rfl : i = 64 := by omega
    simp only [sidesticklaw01_NumSets.l0]
    rw [if_neg (by omega), if_pos (by omega)]
    have hs : shl .i64 1 (m : Int) = ((2 ^ m : Nat) : Int) := by
      unfold shl
      rw [Int.toNat_natCast, Nat.min_eq_left (by show m ≤ 64; omega)]
      have : (2 : Nat) ^ m ≤ 2 ^ 31 := Nat.pow_le_pow_right (by decide) (by omega)
      have e : (1 : Int) * 2 ^ m = ((2 ^ m : Nat) : Int) := by simp
      rw [e]
      exact i64_small _ (Int.natCast_nonneg _) (Int.ofNat_lt.2 (by omega : 2 ^ m < 2 ^ 63))
    have h2 : (2 : Nat) ^ m ≤ 2 ^ 31 := Nat.pow_le_pow_right (by decide) (by omega)
    rw [hs, or_nat_i64 _ _ (by omega) (by omega), Nat.mod_eq_of_lt (by omega)]
    exact l1_ends 65 k n m (-1) hn hm (by omega) (by omega) (by omega) (by omega)
  | succ d ih =>
    intro k n m i hn hm h1 hd hk
    obtain ⟨k, rfl⟩ : ∃ q, k = q + 1 := ⟨k - 1, by omega⟩
    have hr := ih k n m (i + 1) hn hm (by omega) (by omega) (by omega)
    have hw : wrap64 ((i : Int) + 1) = ((i + 1 : Nat) : Int) := by unfold wrap64; omega
    simp only [sidesticklaw01_NumSets.l0]
    rw [if_pos (by omega), hw]
    by_cases hi : i ≤ 62
    · rw [has_nat _ _ hi]
      simp only [Option.bind_some]
      by_cases hx : n.testBit i = true
      · rw [if_pos hx, if_pos (by omega)]
        have hi20 : i < 20 := by
          by_cases hc : i < 20
          · exact hc
          · have : n.testBit i = false := Nat.testBit_lt_two_pow (Nat.lt_of_lt_of_le hn (Nat.pow_le_pow_right (by decide) (by omega)))
            rw [this] at hx; cases hx
        have h2 : (2 : Nat) ^ i ≤ 2 ^ 19 := Nat.pow_le_pow_right (by decide) (by omega)
        have hs : shl .i64 1 (i : Int) = ((2 ^ i : Nat) : Int) := by
          unfold shl
          rw [Int.toNat_natCast, Nat.min_eq_left (by show i ≤ 64; omega)]
          have e : (1 : Int) * 2 ^ i = ((2 ^ i : Nat) : Int) := by simp
          rw [e]
          exact i64_small _ (Int.natCast_nonneg _) (Int.ofNat_lt.2 (by omega : 2 ^ i < 2 ^ 63))
        have hmod : n % 2 ^ i < 2 ^ 20 := Nat.lt_of_le_of_lt (Nat.mod_le _ _) hn
        rw [hs]
        have e : wrap64 (((n % 2 ^ i : Nat) : Int) + ((2 ^ i : Nat) : Int)) = ((n % 2 ^ (i + 1) : Nat) : Int) := by
          rw [mod_succ, if_pos hx]
          unfold wrap64; omega
        rw [e]; exact hr
      · rw [if_neg hx]
        have e : n % 2 ^ (i + 1) = n % 2 ^ i := by rw [mod_succ, if_neg hx]; rfl
        rw [e] at hr; exact hr
    · rw [has_idx _ _ (by omega)]
      simp only [Option.bind_some, Bool.false_eq_true, if_false]
      have h3 : (2 : Nat) ^ 20 ≤ 2 ^ i := Nat.pow_le_pow_right (by decide) (by omega)
      have h4 : (2 : Nat) ^ 20 ≤ 2 ^ (i + 1) := Nat.pow_le_pow_right (by decide) (by omega)
      rw [Nat.mod_eq_of_lt (by omega)] at hr ⊢
      exact hr

theorem NumSets : sidesticklaw01_NumSets.Pure := by
  intro a0 a1 h0 h1
  refine ⟨200, ?_⟩
  unfold sidesticklaw01_NumSets.f
  rw [at_rounds (g := fun k => sidesticklaw01_shown.f k) (fun k => sidesticklaw01_shown.mono k) (by omega : 5 ≤ 200) shown_eq2]
  simp only [Option.bind_some]
  have e0 : bits .and .i64 a0 1048575 = a0 % 1048576 := and_mask_i64 a0 20 (by decide)
  have e1 : bits .and .i64 a1 31 = a1 % 32 := and_mask_i64 a1 5 (by decide)
  rw [e0, e1]
  obtain ⟨n, hn⟩ : ∃ n : Nat, a0 % 1048576 = n := ⟨(a0 % 1048576).toNat, by omega⟩
  obtain ⟨m, hm⟩ : ∃ m : Nat, a1 % 32 = m := ⟨(a1 % 32).toNat, by omega⟩
  rw [hn, hm]
  have := l0_ends 64 200 n m 0 (by omega) (by omega) (by omega) (by omega) (by omega)
  simpa [Nat.mod_one] using this
end Go.Proofs.Ytkglnkfoeedmoaa.Pure
