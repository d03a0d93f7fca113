/- LimitHolds: what holds at each round's head: each axis is as far as so many steps bring it. -/
import Derived.Test.YtkglnkfoeedmoabLimHolds
namespace Go.Proofs.Ytkglnkfoeedmoab.Lh
open Go.RowKit Go.Proofs.YtkglnkfoeedmoabSx Go.Proofs.Ytkglnkfoeedmoab.Fit
set_option linter.unusedVariables false
set_option linter.unusedSimpArgs false
/-- Where a number is behind so many steps toward nought. -/
def now (R : Int) (i : Nat) (n : Int) : Int := if 0 ≤ n then (if n < (i : Int) * R then 0 else n - i * R) else (if -n < (i : Int) * R then 0 else n + i * R)
theorem mul_succ (i : Nat) (R : Int) : ((i + 1 : Nat) : Int) * R = i * R + R := by
  rw [Int.natCast_add, Int.add_mul]; simp
theorem now_zero (R n : Int) : now R 0 n = n := by
  unfold now
  simp only [Int.natCast_zero, Int.zero_mul, Int.sub_zero, Int.add_zero]
  split <;> split <;> omega
theorem now_in (R n : Int) (i : Nat) (hR : 1 ≤ R) (h : -1000 < n ∧ n < 1000) : -1000 < now R i n ∧ now R i n < 1000 := by
  have hp : 0 ≤ (i : Int) * R := Int.mul_nonneg (by omega) (by omega)
  unfold now
  split <;> split <;> omega
theorem now_step (R n : Int) (i : Nat) (hR : 1 ≤ R) : (if now R i n < 0 then (if R < -(now R i n) then now R i n + R else 0) else if R < now R i n then now R i n - R else 0) = now R (i + 1) n := by
  have hp : 0 ≤ (i : Int) * R := Int.mul_nonneg (by omega) (by omega)
  unfold now
  rw [mul_succ]
  generalize (i : Int) * R = p at hp
  split <;> split <;> split <;> split <;> omega
theorem now_done (R n : Int) (i : Nat) (h1 : n ≤ (i : Int) * R) (h2 : -n ≤ (i : Int) * R) : now R i n = 0 := by
  unfold now
  split <;> split <;> omega
theorem now_live (R n : Int) (i : Nat) (hR : 1 ≤ R) (h : (i : Int) * R < n ∨ (i : Int) * R < -n) : now R i n ≠ 0 ∧ now R (i + 1) n ≠ now R i n := by
  have hp : 0 ≤ (i : Int) * R := Int.mul_nonneg (by omega) (by omega)
  unfold now
  rw [mul_succ]
  generalize (i : Int) * R = p at *
  constructor
  · split <;> split <;> omega
  · split <;> split <;> split <;> omega
theorem tw_den (ι : Env) (k : Nat) (R v : Int) (h1 : ι.int 254 = R) (h2 : ι.int k = v) (hR : 1 ≤ R ∧ R ≤ 1000) (hv : -1000 < v ∧ v < 1000) :
    (tw k).den ι = (if v < 0 then (if R < -v then v + R else 0) else if R < v then v - R else 0) := by
  simp only [tw, e_ite, b_lt, e_var, e_lit, e_wrap, e_add, e_sub, h1, h2]
  simp only [IntKind.wrap_i64, IntKind.wrap_u64]
  rw [if_neg (by omega)]
  split
  · split
    · rw [if_pos (by omega)]; omega
    · rw [if_neg (by omega)]
  · split
    · split
      · rw [if_pos (by omega)]; omega
      · rw [if_neg (by omega)]
    · rw [if_neg (by omega)]
section
variable (ι : Env)
def nn (k : Nat) : Int := (ι.int k).tmod 1000
theorem nn_in (k : Nat) : -1000 < nn ι k ∧ nn ι k < 1000 := tmod_bounds _ 1000 (by decide)
theorem up_den (e : E) (k : Nat) (v : Int) (he : e.den ι = v) (h0 : 0 ≤ v) (h1 : v < 1000) : ∃ u, (up e k).den ι = u ∧ v ≤ u ∧ u < 1000 ∧ nn ι k ≤ u ∧ -nn ι k ≤ u ∧ (u = v ∨ u = nn ι k ∨ u = -nn ι k) := by
  have hn := nn_in ι k
  have e1 : (nw k).den ι = nn ι k := rfl
  have e2 : (E.bin .sub .i64 (.lit 0) (nw k)).den ι = -nn ι k := by
    show IntKind.i64.wrap (0 - (nw k).den ι) = _
    rw [e1, IntKind.wrap_i64]; omega
  refine ⟨_, rfl, ?_⟩
  simp only [up, e_mx, he, e1, e2]
  split <;> split <;> omega
/-- The farthest axis. -/
structure Far (F : Int) : Prop where
  den : far.den ι = F
  nonneg : 0 ≤ F
  lt : F < 1000
  ge : ∀ k, 61 ≤ k → k ≤ 64 → nn ι k ≤ F ∧ -nn ι k ≤ F
  got : F = 0 ∨ ∃ k, 61 ≤ k ∧ k ≤ 64 ∧ (F = nn ι k ∨ F = -nn ι k)
theorem far_is : ∃ F, Far ι F := by
  obtain ⟨a, ea, a1, a2, a3, a4, a5⟩ := up_den ι (.lit 0) 61 0 rfl (by omega) (by omega)
  obtain ⟨b, eb, b1, b2, b3, b4, b5⟩ := up_den ι _ 62 a ea (by omega) a2
  obtain ⟨c, ec, c1, c2, c3, c4, c5⟩ := up_den ι _ 63 b eb (by omega) b2
  obtain ⟨d, ed, d1, d2, d3, d4, d5⟩ := up_den ι _ 64 c ec (by omega) c2
  refine ⟨d, ed, by omega, d2, fun k h1 h2 => ?_, ?_⟩
  · rcases (by omega : k = 61 ∨ k = 62 ∨ k = 63 ∨ k = 64) with rfl | rfl | rfl | rfl <;> omega
  · rcases d5 with d5 | d5
    · rcases c5 with c5 | c5
      · rcases b5 with b5 | b5
        · rcases a5 with a5 | a5
          · left; omega
          · right; exact ⟨61, by omega, by omega, by omega⟩
        · right; exact ⟨62, by omega, by omega, by omega⟩
      · right; exact ⟨63, by omega, by omega, by omega⟩
    · right; exact ⟨64, by omega, by omega, d5⟩
/-- The names at the head of round i. -/
def atR (F R : Int) (i : Nat) : Env :=
  { ι with int := fun n => match n with
    | 70 => F
    | 71 => (i : Int)
    | 72 => now R i (nn ι 61)
    | 73 => now R i (nn ι 62)
    | 74 => now R i (nn ι 63)
    | 75 => now R i (nn ι 64)
    | 76 => if i = 0 then 3 else 4
    | n => ι.int n }
theorem pol_same (F R : Int) (i : Nat) (β : Bt) : SV.denL (atR ι F R i) β polR = SV.denL ι β polR := rfl
/-- How many rounds there are. -/
theorem rounds_are {F R : Int} (hF : 0 ≤ F ∧ F < 1000) (hR : 1 ≤ R ∧ R ≤ 1000) : ∃ N : Nat, IntKind.i64.wrap ((IntKind.i64.wrap (IntKind.i64.wrap (F + R) - 1)).tdiv R) = (N : Int) ∧ F ≤ (N : Int) * R ∧ (∀ i : Nat, i < N → (i : Int) * R < F) ∧ (0 < F → 0 < N) ∧ (F = 0 → N = 0) := by
  have e1 : IntKind.i64.wrap (F + R) = F + R := by rw [IntKind.wrap_i64]; omega
  have e2 : IntKind.i64.wrap (F + R - 1) = F + R - 1 := by rw [IntKind.wrap_i64]; omega
  rw [e1, e2, Int.tdiv_eq_ediv_of_nonneg (by omega)]
  have hq := Int.mul_ediv_add_emod (F + R - 1) R
  have hm0 := Int.emod_nonneg (F + R - 1) (b := R) (by omega)
  have hm1 := Int.emod_lt_of_pos (F + R - 1) (b := R) (by omega)
  have hq0 : 0 ≤ (F + R - 1) / R := Int.ediv_nonneg (by omega) (by omega)
  have hq1 : (F + R - 1) / R ≤ F + R - 1 := Int.ediv_le_self _ (by omega)
  generalize (F + R - 1) / R = q at *
  obtain ⟨N, rfl⟩ := Int.eq_ofNat_of_zero_le hq0
  have hc : R * (N : Int) = N * R := Int.mul_comm _ _
  rw [hc] at hq
  refine ⟨N, by rw [IntKind.wrap_i64]; omega, by omega, fun i hi => ?_, fun h => ?_, fun h => ?_⟩
  · have h1 : ((i + 1 : Nat) : Int) * R ≤ (N : Int) * R := Int.mul_le_mul_of_nonneg_right (by omega) (by omega)
    rw [mul_succ] at h1
    omega
  · rcases Nat.eq_zero_or_pos N with h0 | h0
    · subst h0; simp at hq; omega
    · exact h0
  · rcases Nat.eq_zero_or_pos N with h0 | h0
    · exact h0
    · exfalso
      have h1 : (1 : Int) * R ≤ (N : Int) * R := Int.mul_le_mul_of_nonneg_right (by omega) (by omega)
      omega
end
theorem head_get {i : Nat} {v : SV} (h : L.head[i]? = some v) (hn : ∀ n, v ≠ SV.any n) :
    (i = 5 ∧ v = .bool (.lit true)) ∨ (i = 6 ∧ v = .ptr 58 0) ∨ (i = 7 ∧ v = .int .i64 (.var 70)) ∨ (i = 10 ∧ v = .ptr 60 0) ∨ (i = 11 ∧ v = .int .i64 (.var 71)) := by
  simp only [L, List.getElem?_map] at h
  have hi : i < 108 := by
    rcases Nat.lt_or_ge i 108 with h' | h'
    · exact h'
    · rw [List.getElem?_eq_none (by simpa using h')] at h; cases h
  rw [List.getElem?_range hi] at h
  simp only [Option.map_some, Option.some.injEq] at h
  split at h
  · exact .inl ⟨rfl, h.symm⟩
  · exact .inr (.inl ⟨rfl, h.symm⟩)
  · exact .inr (.inr (.inl ⟨rfl, h.symm⟩))
  · exact .inr (.inr (.inr (.inl ⟨rfl, h.symm⟩)))
  · exact .inr (.inr (.inr (.inr ⟨rfl, h.symm⟩)))
  · exact absurd h.symm (hn _)
theorem out_get {i : Nat} {v : SV} (h : L.out[i]? = some v) (hn : ∀ n, v ≠ SV.any n) :
    (i = 5 ∧ v = .bool (.lit true)) ∨ (i = 6 ∧ v = .ptr 58 0) ∨ (i = 7 ∧ v = .int .i64 far) ∨ (i = 10 ∧ v = .ptr 60 0) := by
  simp only [L, List.getElem?_map] at h
  have hi : i < 108 := by
    rcases Nat.lt_or_ge i 108 with h' | h'
    · exact h'
    · rw [List.getElem?_eq_none (by simpa using h')] at h; cases h
  rw [List.getElem?_range hi] at h
  simp only [Option.map_some, Option.some.injEq] at h
  split at h
  · exact .inl ⟨rfl, h.symm⟩
  · exact .inr (.inl ⟨rfl, h.symm⟩)
  · exact .inr (.inr (.inl ⟨rfl, h.symm⟩))
  · exact .inr (.inr (.inr ⟨rfl, h.symm⟩))
  · exact absurd h.symm (hn _)

theorem nth_get {s : List SV} {n : Nat} {o : Option SV} (h : nthSV s n = o) : s[n]? = o := by rw [← nthSV_eq]; exact h

theorem loop_ok {ι : Env} {W : World} {F R : Int} (hm : Try.prog.follows .mixedOrders = true) (hF : Far ι F) (hR : 1 ≤ R ∧ R ≤ 1000) (eR : ι.int 254 = R) (w0 : World) (X : Nat → Prop) :
    CodeOk { cx W with ro := 0 } w0 X ι (.loop (loopAt Try.prog 6 14)) (loopF L) := by
  obtain ⟨N, eN, hN1, hN2, hN3, hN4⟩ := rounds_are (F := F) (R := R) ⟨hF.nonneg, hF.lt⟩ hR
  have ge : ∀ k, 61 ≤ k → k ≤ 64 → nn ι k ≤ F ∧ -nn ι k ≤ F := hF.ge
  refine loop_told (fB := fB W) rfl fine (fun ι' => ∃ i, i ≤ N ∧ ι' = atR ι F R i) (fun ι' => N - (ι'.int 71).toNat) ?_ ?_ ?_
  · rintro ι' ⟨i, _, rfl⟩
    exact round_ok (c := c0 W) (c1 := { cx W with ro := 0 }) hm rfl rfl (rows_nil rfl) rfl rfl rfl rfl rfl w0 X
  · refine ⟨atR ι F R 0, ⟨0, Nat.zero_le _, rfl⟩, AsmOk.nil, fun i v hv hna => ?_, fun b cs hb => ?_⟩
    · rcases head_get hv hna with ⟨rfl, rfl⟩ | ⟨rfl, rfl⟩ | ⟨rfl, rfl⟩ | ⟨rfl, rfl⟩ | ⟨rfl, rfl⟩
      · exact ⟨_, by simp [L]; rfl, fun _ => rfl⟩
      · exact ⟨_, by simp [L]; rfl, fun _ => rfl⟩
      · refine ⟨.int .i64 far, by simp [L], fun β => ?_⟩
        simp only [SV.den, hF.den]; rfl
      · exact ⟨_, by simp [L]; rfl, fun _ => rfl⟩
      · exact ⟨.int .i64 (.lit 0), by simp [L], fun _ => rfl⟩
    · simp only [L, List.mem_cons, Prod.mk.injEq, List.not_mem_nil, or_false] at hb
      rcases hb with ⟨rfl, rfl⟩ | ⟨rfl, rfl⟩
      · refine ⟨xIn, by simp [L], fun β => ?_⟩
        have e1 : (E.var 72).den (atR ι F R 0) = (nw 61).den ι := now_zero R (nn ι 61)
        have e2 : (E.var 73).den (atR ι F R 0) = (nw 62).den ι := now_zero R (nn ι 62)
        have e3 : (E.var 74).den (atR ι F R 0) = (nw 63).den ι := now_zero R (nn ι 63)
        have e4 : (E.var 75).den (atR ι F R 0) = (nw 64).den ι := now_zero R (nn ι 64)
        have e5 : (E.var 76).den (atR ι F R 0) = 3 := rfl
        have e6 : (E.var 56).den (atR ι F R 0) = (E.var 56).den ι := rfl
        simp only [xHead, xIn, SV.denL, SV.den, e1, e2, e3, e4, e5, e6, e_lit]
      · exact ⟨polR, by simp [L], fun β => pol_same ι F R 0 β⟩
  · rintro ι' ⟨i, hi, rfl⟩
    have v70 : (atR ι F R i).int 70 = F := rfl
    have v71 : (atR ι F R i).int 71 = (i : Int) := rfl
    have v72 : (atR ι F R i).int 72 = now R i (nn ι 61) := rfl
    have v73 : (atR ι F R i).int 73 = now R i (nn ι 62) := rfl
    have v74 : (atR ι F R i).int 74 = now R i (nn ι 63) := rfl
    have v75 : (atR ι F R i).int 75 = now R i (nn ι 64) := rfl
    have v254 : (atR ι F R i).int 254 = R := eR
    have hpick : (proj 108 [5, 6, 7, 10, 11] [60, 58] (fB W (headSt L))).pick (atR ι F R i) = roundT.pick (atR ι F R i) := congrArg (T.pick (atR ι F R i)) (round_is W)
    have hne : ((B.eq (.var 254) (.lit 0)).not).den (atR ι F R i) = true := by rw [b_not, b_eq, e_var, e_lit, v254]; omega
    have hlt : ((B.lt (.var 71) (.bin .quo .i64 (.bin .sub .i64 (.bin .add .i64 (.var 70) (.var 254)) (.lit 1)) (.var 254))).den (atR ι F R i) = true) ↔ i < N := by
      rw [b_lt, e_quo, e_sub, e_add, e_var, e_var, e_var, e_lit, v70, v71, v254, eN]; omega
    by_cases hiN : i < N
    · -- a round more
      have hlive := hN2 i hiN
      have hF0 : 0 < F := by
        have : 0 ≤ (i : Int) * R := Int.mul_nonneg (by omega) (by omega)
        omega
      obtain ⟨k, hk1, hk2, hk⟩ : ∃ k, 61 ≤ k ∧ k ≤ 64 ∧ (F = nn ι k ∨ F = -nn ι k) := by
        rcases hF.got with h | h
        · omega
        · exact h
      have hmv := now_live R (nn ι k) i hR.1 (by omega)
      have hz : ¬ ((B.and (.eq (.var 72) (.lit 0)) (.and (.eq (.var 73) (.lit 0)) (.and (.eq (.var 74) (.lit 0)) (.eq (.var 75) (.lit 0))))).den (atR ι F R i) = true) := by
        simp only [b_and, b_eq, e_var, e_lit, v72, v73, v74, v75]
        intro ⟨h1, h2, h3, h4⟩
        rcases (by omega : k = 61 ∨ k = 62 ∨ k = 63 ∨ k = 64) with rfl | rfl | rfl | rfl
        · exact hmv.1 h1
        · exact hmv.1 h2
        · exact hmv.1 h3
        · exact hmv.1 h4
      have hp := hpick
      simp only [roundT, T.pick] at hp
      rw [if_pos hne, if_pos (hlt.2 hiN), if_neg hz] at hp
      obtain ⟨s', hs, hlen, hsl, hbl⟩ := proj_pick hp
      refine ⟨.normal, s', hs, .inl ⟨rfl, atR ι F R (i + 1), ⟨i + 1, hiN, rfl⟩, ?_, AsmOk.nil, ⟨hlen, fun j v hv hna => ?_, fun b cs hb => ?_⟩⟩⟩
      · show N - (((i + 1 : Nat) : Int)).toNat < N - ((i : Int)).toNat
        omega
      · have hsl : [nthSV s'.tmps 5, nthSV s'.tmps 6, nthSV s'.tmps 7, nthSV s'.tmps 10, nthSV s'.tmps 11] = _ := hsl
        simp only [List.cons.injEq, and_true] at hsl
        obtain ⟨g5, g6, g7, g10, g11⟩ := hsl
        rcases head_get hv hna with ⟨rfl, rfl⟩ | ⟨rfl, rfl⟩ | ⟨rfl, rfl⟩ | ⟨rfl, rfl⟩ | ⟨rfl, rfl⟩
        · exact ⟨_, nth_get g5, fun _ => rfl⟩
        · exact ⟨_, nth_get g6, fun _ => rfl⟩
        · exact ⟨_, nth_get g7, fun _ => rfl⟩
        · exact ⟨_, nth_get g10, fun _ => rfl⟩
        · refine ⟨_, nth_get g11, fun β => ?_⟩
          have e1 : (E.var 71).den (atR ι F R (i + 1)) = ((i + 1 : Nat) : Int) := rfl
          simp only [SV.den, e_add, e_lit, e1]
          rw [e_var, v71]
          congr 1
          have hb1 : (N : Int) < 2000 := by
            have h1 : (N : Int) * 1 ≤ (N : Int) * R := Int.mul_le_mul_of_nonneg_left hR.1 (by omega)
            rcases Nat.eq_zero_or_pos N with h0 | h0
            · omega
            · have := hN2 (N - 1) (by omega)
              have h2 : ((N - 1 : Nat) : Int) * 1 ≤ ((N - 1 : Nat) : Int) * R := Int.mul_le_mul_of_nonneg_left hR.1 (by omega)
              have := hF.lt
              omega
          rw [IntKind.wrap_i64]; omega
      · have hbl : [mget 60 s'.mem, mget 58 s'.mem] = _ := hbl
        simp only [List.cons.injEq, and_true] at hbl
        simp only [L, List.mem_cons, Prod.mk.injEq, List.not_mem_nil, or_false] at hb
        rcases hb with ⟨rfl, rfl⟩ | ⟨rfl, rfl⟩
        · refine ⟨_, mget_mem _ _ _ hbl.1, fun β => ?_⟩
          have t1 : (tw 72).den (atR ι F R i) = now R (i + 1) (nn ι 61) := (tw_den _ 72 R _ v254 v72 hR (now_in R _ i hR.1 (nn_in ι 61))).trans (now_step R _ i hR.1)
          have t2 : (tw 73).den (atR ι F R i) = now R (i + 1) (nn ι 62) := (tw_den _ 73 R _ v254 v73 hR (now_in R _ i hR.1 (nn_in ι 62))).trans (now_step R _ i hR.1)
          have t3 : (tw 74).den (atR ι F R i) = now R (i + 1) (nn ι 63) := (tw_den _ 74 R _ v254 v74 hR (now_in R _ i hR.1 (nn_in ι 63))).trans (now_step R _ i hR.1)
          have t4 : (tw 75).den (atR ι F R i) = now R (i + 1) (nn ι 64) := (tw_den _ 75 R _ v254 v75 hR (now_in R _ i hR.1 (nn_in ι 64))).trans (now_step R _ i hR.1)
          have u1 : (E.var 72).den (atR ι F R (i + 1)) = now R (i + 1) (nn ι 61) := rfl
          have u2 : (E.var 73).den (atR ι F R (i + 1)) = now R (i + 1) (nn ι 62) := rfl
          have u3 : (E.var 74).den (atR ι F R (i + 1)) = now R (i + 1) (nn ι 63) := rfl
          have u4 : (E.var 75).den (atR ι F R (i + 1)) = now R (i + 1) (nn ι 64) := rfl
          have u5 : (E.var 76).den (atR ι F R (i + 1)) = 4 := rfl
          have u6 : (E.var 56).den (atR ι F R (i + 1)) = (E.var 56).den (atR ι F R i) := rfl
          have hc : (B.not (.and (.eq (tw 72) (.var 72)) (.and (.eq (tw 73) (.var 73)) (.and (.eq (tw 74) (.var 74)) (.eq (tw 75) (.var 75)))))).den (atR ι F R i) = true := by
            simp only [b_not, b_and, b_eq, t1, t2, t3, t4]
            simp only [e_var, v72, v73, v74, v75]
            intro ⟨h1, h2, h3, h4⟩
            rcases (by omega : k = 61 ∨ k = 62 ∨ k = 63 ∨ k = 64) with rfl | rfl | rfl | rfl
            · exact hmv.2 h1
            · exact hmv.2 h2
            · exact hmv.2 h3
            · exact hmv.2 h4
          simp only [xHead, xNew, SV.denL, SV.den, u1, u2, u3, u4, u5, u6, t1, t2, t3, t4, e_lit, e_ite, hc, if_true]
        · exact ⟨_, mget_mem _ _ _ hbl.2, fun β => rfl⟩
    · -- the last one is over
      have hiN' : i = N := by omega
      subst hiN'
      have hp := hpick
      simp only [roundT, T.pick] at hp
      rw [if_pos hne, if_neg (fun h => hiN (hlt.1 h))] at hp
      obtain ⟨s', hs, hlen, hsl, hbl⟩ := proj_pick hp
      refine ⟨.exit 2, s', hs, .inr ⟨rfl, (by intro h; cases h), AsmOk.nil, ⟨hlen, fun j v hv hna => ?_, fun b cs hb => ?_⟩⟩⟩
      · have hsl : [nthSV s'.tmps 5, nthSV s'.tmps 6, nthSV s'.tmps 7, nthSV s'.tmps 10, nthSV s'.tmps 11] = _ := hsl
        simp only [List.cons.injEq, and_true] at hsl
        obtain ⟨g5, g6, g7, g10, g11⟩ := hsl
        rcases out_get hv hna with ⟨rfl, rfl⟩ | ⟨rfl, rfl⟩ | ⟨rfl, rfl⟩ | ⟨rfl, rfl⟩
        · exact ⟨_, nth_get g5, fun _ => rfl⟩
        · exact ⟨_, nth_get g6, fun _ => rfl⟩
        · refine ⟨_, nth_get g7, fun β => ?_⟩
          simp only [SV.den, hF.den]; rfl
        · exact ⟨_, nth_get g10, fun _ => rfl⟩
      · have hbl : [mget 60 s'.mem, mget 58 s'.mem] = _ := hbl
        simp only [List.cons.injEq, and_true] at hbl
        simp only [L, List.mem_cons, Prod.mk.injEq, List.not_mem_nil, or_false] at hb
        rcases hb with ⟨rfl, rfl⟩ | ⟨rfl, rfl⟩
        · refine ⟨_, mget_mem _ _ _ hbl.1, fun β => ?_⟩
          have d : ∀ k, 61 ≤ k → k ≤ 64 → now R i (nn ι k) = 0 := fun k h1 h2 => now_done R _ i (by have := ge k h1 h2; omega) (by have := ge k h1 h2; omega)
          have u1 : (E.var 72).den (atR ι F R i) = 0 := d 61 (by omega) (by omega)
          have u2 : (E.var 73).den (atR ι F R i) = 0 := d 62 (by omega) (by omega)
          have u3 : (E.var 74).den (atR ι F R i) = 0 := d 63 (by omega) (by omega)
          have u4 : (E.var 75).den (atR ι F R i) = 0 := d 64 (by omega) (by omega)
          have u6 : (E.var 56).den (atR ι F R i) = (E.var 56).den ι := rfl
          have u5 : (E.var 76).den (atR ι F R i) = if (0 : Int) < F then 4 else 3 := by
            show (if i = 0 then (3 : Int) else 4) = _
            by_cases h : 0 < F
            · rw [if_pos h, if_neg (by have := hN3 h; omega)]
            · rw [if_neg h, if_pos (hN4 (by have := hF.nonneg; omega))]
          simp only [xHead, xOut, SV.denL, SV.den, u1, u2, u3, u4, u5, u6, e_lit, e_ite, b_lt, hF.den]
        · exact ⟨_, mget_mem _ _ _ hbl.2, fun β => rfl⟩
end Go.Proofs.Ytkglnkfoeedmoab.Lh
