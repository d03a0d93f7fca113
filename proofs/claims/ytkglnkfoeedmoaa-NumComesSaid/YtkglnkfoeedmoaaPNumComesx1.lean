-- PRINTED BY print.sh 35421559b90ae4d0a3588c463048766b98c2df88dd9212a6774a882060cdf62d: not written by this session
import Derived.Test.YtkglnkfoeedmoaaPNumComesx0
namespace Go.Proofs.Ytkglnkfoeedmoaa.PNumComes
open Go.RowKit Go.Proofs.YtkglnkfoeedmoaaW.PrintWords Go.Proofs.YtkglnkfoeedmoaaW.PrintLast Go.Proofs.YtkglnkfoeedmoaaW.PrintMore
attribute [local go_sem] max2_int min2_int max_two min_two max_three min_three max_four min_four   -- for this text's walks alone
set_option linter.unusedVariables false
set_option linter.unusedSimpArgs false

/-! ### num_Toward: function 24 -/
def num_Toward.j0 : Nat → Int → Int → Int → Bool → Option (Int)
  | 0, _, _, _, _ => none
  | k + 1, x0, x1, x2, x11 => if x11 = true then (some (wrap64 (x0 + x2))) else (if x1 < x0 then (if (IntKind.u64.wrap ((IntKind.u64.wrap (x0)) - (IntKind.u64.wrap (x1)))) > (IntKind.u64.wrap (x2)) then (some (wrap64 (x0 - x2))) else (some x1)) else (some x1))
def num_Toward.f (k : Nat) (a0 : Int) (a1 : Int) (a2 : Int) : Option (Int) := if a2 < 1 then (some a0) else (if a1 > a0 then (num_Toward.j0 k a0 a1 a2 (decide ((IntKind.u64.wrap ((IntKind.u64.wrap (a1)) - (IntKind.u64.wrap (a0)))) > (IntKind.u64.wrap (a2))))) else (num_Toward.j0 k a0 a1 a2 false))
theorem num_Toward.mono_l : ∀ k, (∀ y0 y1 y2 y3, LeO (num_Toward.j0 k y0 y1 y2 y3) (num_Toward.j0 (k + 1) y0 y1 y2 y3))
  | 0 => fun _ _ _ _ r h => by simp [num_Toward.j0] at h
  | k + 1 => by
    have ih0 := num_Toward.mono_l k
    · intro y0 y1 y2 y3
      unfold num_Toward.j0
      repeat' first
      | (with_reducible exact ih0 _ _ _ _)
      | (with_reducible exact LeO.refl _)
      | (with_reducible exact LeO.none _)
      | (with_reducible refine LeO.ite ?_ ?_)
      | (with_reducible refine LeO.bind ?_ (fun _ => ?_))
      | exact ih0 _ _ _ _
      | exact LeO.none _
      | refine LeO.ite ?_ ?_
      | refine LeO.bind ?_ (fun _ => ?_)
theorem num_Toward.mono : ∀ a0 a1 a2 k, LeO (num_Toward.f k a0 a1 a2) (num_Toward.f (k + 1) a0 a1 a2) := by
  intro a0 a1 a2 k
  have ih0 := num_Toward.mono_l k
  unfold num_Toward.f
  repeat' first
      | (with_reducible exact ih0 _ _ _ _)
      | (with_reducible exact LeO.refl _)
      | (with_reducible exact LeO.none _)
      | (with_reducible refine LeO.ite ?_ ?_)
      | (with_reducible refine LeO.bind ?_ (fun _ => ?_))
      | exact ih0 _ _ _ _
      | exact LeO.none _
      | refine LeO.ite ?_ ?_
      | refine LeO.bind ?_ (fun _ => ?_)
set_option maxHeartbeats 8000000 in
set_option maxRecDepth 100000 in
theorem num_Toward.calls (k : Nat) (a0 : Int) (a1 : Int) (a2 : Int) (r : Int) (w : World) (h : num_Toward.f k a0 a1 a2 = some r) :
    Calls Try.prog 24 #[.int .i64 a0, .int .i64 a1, .int .i64 a2] w fun e w' => e = .returned (.int .i64 r) ∧ Drawn0 w w' := by
  have H : (if a2 < 1 then (some a0) else (if a1 > a0 then (num_Toward.j0 k a0 a1 a2 (decide ((IntKind.u64.wrap ((IntKind.u64.wrap (a1)) - (IntKind.u64.wrap (a0)))) > (IntKind.u64.wrap (a2))))) else (num_Toward.j0 k a0 a1 a2 false))) = some r := h
  clear h
  by_cases c4 : a2 < 1
  · rw [if_pos c4] at H
    have c4b0 : decide (a2 < 1) = true := decide_eq_true c4
    clear c4
    obtain rfl := Option.some.inj H
    go_enter Try.func24, Try.ntmps24
    go_wp2
    go_ret
    exact ⟨by first | rfl | (simp; done) | (simp [*]; done), by repeat (first | exact Drawn0.refl _ | apply Drawn0.step)⟩
  · rw [if_neg c4] at H
    have c4b0 : decide (a2 < 1) = false := decide_eq_false c4
    clear c4
    have HC5 := Aside0.mk H
    clear H
    go_enter Try.func24, Try.ntmps24
    go_upto_region 3 with (fail)
    go_cut [11] (fun v11 wc => ∃ (kq : Nat) (x11_4 : Bool), v11 = .bool x11_4 ∧ Aside0 (num_Toward.j0 kq a0 a1 a2 x11_4 = some r) ∧ Aside0 (kq ≤ k) ∧ Drawn0 w wc)
    case first =>
      have H := HC5.out
      clear HC5
      by_cases c6 : a1 > a0
      · rw [if_pos c6] at H
        have c6b0 : decide (a0 < a1) = true := decide_eq_true c6
        clear c6
        (first | rw [c6b0] | (simp only [i64_w, i32_w]; rw [c6b0]) | skip)
        have H' := Aside0.mk H
        clear H
        go_wp2
        go_meet
        case rel => exact ⟨_, (decide ((IntKind.u64.wrap ((IntKind.u64.wrap (a1)) - (IntKind.u64.wrap (a0)))) > (IntKind.u64.wrap (a2)))), (by first | rfl | (simp; done) | (simp [*]; done)), H', ⟨by first | omega | exact Nat.le_refl _⟩, by repeat (first | exact Drawn0.refl _ | apply Drawn0.step)⟩
      · rw [if_neg c6] at H
        have c6b0 : decide (a0 < a1) = false := decide_eq_false c6
        clear c6
        (first | rw [c6b0] | (simp only [i64_w, i32_w]; rw [c6b0]) | skip)
        have H' := Aside0.mk H
        clear H
        go_wp2
        go_meet
        case rel => exact ⟨_, (false), (by first | rfl | (simp; done) | (simp [*]; done)), H', ⟨by first | omega | exact Nat.le_refl _⟩, by repeat (first | exact Drawn0.refl _ | apply Drawn0.step)⟩
    case rest =>
      clear HC5
      try clear c2
      try clear p2
      try clear c4
      try clear c4b0
      try clear c6
      try clear c6b0
      obtain ⟨kq, x11_4, rfl, HA, HJ4, ⟨mc4, rfl⟩⟩ := hcut
      cases kq with
      | zero => exact absurd HA.out (by simp [num_Toward.j0])
      | succ kj4 =>
        have H := HA.out
        clear HA
        simp only [num_Toward.j0] at H
        by_cases c7 : x11_4 = true
        · subst c7
          have H1 : (some (wrap64 (a0 + a2))) = some r := by rw [if_pos rfl] at H; exact H
          clear H
          have H := H1
          clear H1
          obtain rfl := Option.some.inj H
          go_wp2
          go_ret
          exact ⟨by first | rfl | (simp; done) | (simp [*]; done), by repeat (first | exact Drawn0.refl _ | apply Drawn0.step)⟩
        · replace c7 := Bool.eq_false_iff.mpr c7
          subst c7
          have H1 : (if a1 < a0 then (if (IntKind.u64.wrap ((IntKind.u64.wrap (a0)) - (IntKind.u64.wrap (a1)))) > (IntKind.u64.wrap (a2)) then (some (wrap64 (a0 - a2))) else (some a1)) else (some a1)) = some r := by rw [if_neg (show ¬ (false = true) by decide)] at H; exact H
          clear H
          have H := H1
          clear H1
          by_cases c8 : a1 < a0
          · rw [if_pos c8] at H
            have c8b0 : decide (a1 < a0) = true := decide_eq_true c8
            clear c8
            by_cases c9 : (IntKind.u64.wrap ((IntKind.u64.wrap (a0)) - (IntKind.u64.wrap (a1)))) > (IntKind.u64.wrap (a2))
            · rw [if_pos c9] at H
              have c9b0 : decide ((IntKind.u64.wrap (a2)) < (IntKind.u64.wrap ((IntKind.u64.wrap (a0)) - (IntKind.u64.wrap (a1))))) = true := decide_eq_true c9
              clear c9
              obtain rfl := Option.some.inj H
              go_wp2
              go_ret
              exact ⟨by first | rfl | (simp; done) | (simp [*]; done), by repeat (first | exact Drawn0.refl _ | apply Drawn0.step)⟩
            · rw [if_neg c9] at H
              have c9b0 : decide ((IntKind.u64.wrap (a2)) < (IntKind.u64.wrap ((IntKind.u64.wrap (a0)) - (IntKind.u64.wrap (a1))))) = false := decide_eq_false c9
              clear c9
              obtain rfl := Option.some.inj H
              go_wp2
              go_ret
              exact ⟨by first | rfl | (simp; done) | (simp [*]; done), by repeat (first | exact Drawn0.refl _ | apply Drawn0.step)⟩
          · rw [if_neg c8] at H
            have c8b0 : decide (a1 < a0) = false := decide_eq_false c8
            clear c8
            obtain rfl := Option.some.inj H
            go_wp2
            go_ret
            exact ⟨by first | rfl | (simp; done) | (simp [*]; done), by repeat (first | exact Drawn0.refl _ | apply Drawn0.step)⟩

/-! ### num_Has: function 25 -/
def num_Has.f (a0 : Int) (a1 : Int) : Option (Bool) := if a0 ≥ 0 then (if a1 ≥ 0 then (if a1 ≤ 62 then (if 0 ≤ a1 then (some ((Go.bits .and .i64 (shr .i64 a0 a1) 1) == 1)) else (none)) else (some false)) else (some false)) else (some false)
set_option maxHeartbeats 8000000 in
set_option maxRecDepth 100000 in
theorem num_Has.calls (a0 : Int) (a1 : Int) (r : Bool) (w : World) (h : num_Has.f a0 a1 = some r) :
    Calls Try.prog 25 #[.int .i64 a0, .int .i64 a1] w fun e w' => e = .returned (.bool r) ∧ Drawn0 w w' := by
  have H : (if a0 ≥ 0 then (if a1 ≥ 0 then (if a1 ≤ 62 then (if 0 ≤ a1 then (some ((Go.bits .and .i64 (shr .i64 a0 a1) 1) == 1)) else (none)) else (some false)) else (some false)) else (some false)) = some r := h
  clear h
  by_cases c3 : a0 ≥ 0
  · rw [if_pos c3] at H
    have c3b0 : decide (0 ≤ a0) = true := decide_eq_true c3
    clear c3
    by_cases c4 : a1 ≥ 0
    · rw [if_pos c4] at H
      have c4b0 : decide (0 ≤ a1) = true := decide_eq_true c4
      clear c4
      by_cases c5 : a1 ≤ 62
      · rw [if_pos c5] at H
        have c5b0 : decide (a1 ≤ 62) = true := decide_eq_true c5
        clear c5
        by_cases c6 : 0 ≤ a1
        · rw [if_pos c6] at H
          have c6b0 := eq_true c6
          have c6b1 : decide (0 ≤ a1) = true := decide_eq_true c6
          clear c6
          obtain ⟨ji7, hji7⟩ : ∃ j_ : Int, (shr .i64 a0 a1) = j_ := ⟨_, rfl⟩
          replace H : (some ((Go.bits .and .i64 (ji7) 1) == 1)) = some r := by first | (rw [hji7] at H; exact H) | (simp only [hji7] at H ⊢; exact H)
          have hji7_ : (a0 / 2 ^ min a1.toNat 64) = ji7 := hji7
          have hji7z : a1 ≤ 64 → (a0 / 2 ^ a1.toNat) = ji7 := shr_small hji7
          obtain rfl := Option.some.inj H
          go_enter Try.func25, Try.ntmps25
          go_wp2
          go_ret
          exact ⟨by first | rfl | (simp; done) | (simp only [← hji7] <;> (first | rfl | simp)) | (simp [*]; done), by repeat (first | exact Drawn0.refl _ | apply Drawn0.step)⟩
        · rw [if_neg c6] at H
          exact absurd H (by simp)
      · rw [if_neg c5] at H
        have c5b0 : decide (a1 ≤ 62) = false := decide_eq_false c5
        clear c5
        obtain rfl := Option.some.inj H
        go_enter Try.func25, Try.ntmps25
        go_wp2
        go_ret
        exact ⟨by first | rfl | (simp; done) | (simp [*]; done), by repeat (first | exact Drawn0.refl _ | apply Drawn0.step)⟩
    · rw [if_neg c4] at H
      have c4b0 : decide (0 ≤ a1) = false := decide_eq_false c4
      clear c4
      obtain rfl := Option.some.inj H
      go_enter Try.func25, Try.ntmps25
      go_wp2
      go_ret
      exact ⟨by first | rfl | (simp; done) | (simp [*]; done), by repeat (first | exact Drawn0.refl _ | apply Drawn0.step)⟩
  · rw [if_neg c3] at H
    have c3b0 : decide (0 ≤ a0) = false := decide_eq_false c3
    clear c3
    obtain rfl := Option.some.inj H
    go_enter Try.func25, Try.ntmps25
    go_wp2
    go_ret
    exact ⟨by first | rfl | (simp; done) | (simp [*]; done), by repeat (first | exact Drawn0.refl _ | apply Drawn0.step)⟩

/-! ### num_Sat: function 29 -/
def num_Sat.f (a0 : Int) (a1 : Int) : Option (Int) := if a0 ≥ a1 then (some a1) else (some (wrap64 (a0 + 1)))
set_option maxHeartbeats 8000000 in
set_option maxRecDepth 100000 in
theorem num_Sat.calls (a0 : Int) (a1 : Int) (r : Int) (w : World) (h : num_Sat.f a0 a1 = some r) :
    Calls Try.prog 29 #[.int .i64 a0, .int .i64 a1] w fun e w' => e = .returned (.int .i64 r) ∧ Drawn0 w w' := by
  have H : (if a0 ≥ a1 then (some a1) else (some (wrap64 (a0 + 1)))) = some r := h
  clear h
  by_cases c3 : a0 ≥ a1
  · rw [if_pos c3] at H
    have c3b0 : decide (a1 ≤ a0) = true := decide_eq_true c3
    clear c3
    obtain rfl := Option.some.inj H
    go_enter Try.func29, Try.ntmps29
    go_wp2
    go_ret
    exact ⟨by first | rfl | (simp; done) | (simp [*]; done), by repeat (first | exact Drawn0.refl _ | apply Drawn0.step)⟩
  · rw [if_neg c3] at H
    have c3b0 : decide (a1 ≤ a0) = false := decide_eq_false c3
    clear c3
    obtain rfl := Option.some.inj H
    go_enter Try.func29, Try.ntmps29
    go_wp2
    go_ret
    exact ⟨by first | rfl | (simp; done) | (simp [*]; done), by repeat (first | exact Drawn0.refl _ | apply Drawn0.step)⟩

/-! ### sidesticklaw01_shown: function 23 -/
def sidesticklaw01_shown.f (k : Nat)  : Option (Bool) := (num_Sat.f 3 4).bind fun t101 => (if t101 = 4 then ((num_Sat.f 4 4).bind fun t102 => (if t102 = 4 then ((num_Sat.f 9 4).bind fun t103 => (if t103 = 4 then ((num_Toward.f k 0 (-7) 5).bind fun t104 => (if t104 = (-5) then ((num_Toward.f k (-5) (-7) 5).bind fun t105 => (if t105 = (-7) then ((num_Has.f 5 0).bind fun t106 => (if t106 = true then ((num_Has.f 5 1).bind fun t107 => (if t107 = true then (some false) else ((num_Has.f 5 2).bind fun t108 => (some t108)))) else (some false))) else (some false))) else (some false))) else (some false))) else (some false))) else (some false))
theorem sidesticklaw01_shown.mono : ∀ k, LeO (sidesticklaw01_shown.f k ) (sidesticklaw01_shown.f (k + 1) ) := by
  intro  k
  unfold sidesticklaw01_shown.f
  repeat' first
      | (with_reducible exact num_Toward.mono _ _ _ _)
      | (with_reducible exact LeO.refl _)
      | (with_reducible exact LeO.none _)
      | (with_reducible refine LeO.ite ?_ ?_)
      | (with_reducible refine LeO.bind ?_ (fun _ => ?_))
      | exact num_Toward.mono _ _ _ _
      | exact LeO.none _
      | refine LeO.ite ?_ ?_
      | refine LeO.bind ?_ (fun _ => ?_)
set_option maxHeartbeats 8000000 in
set_option maxRecDepth 100000 in
theorem sidesticklaw01_shown.calls (k : Nat)  (r : Bool) (w : World) (h : sidesticklaw01_shown.f k  = some r) :
    Calls Try.prog 23 #[] w fun e w' => e = .returned (.bool r) ∧ Drawn0 w w' := by
  have H : ((num_Sat.f 3 4).bind fun t101 => (if t101 = 4 then ((num_Sat.f 4 4).bind fun t102 => (if t102 = 4 then ((num_Sat.f 9 4).bind fun t103 => (if t103 = 4 then ((num_Toward.f k 0 (-7) 5).bind fun t104 => (if t104 = (-5) then ((num_Toward.f k (-5) (-7) 5).bind fun t105 => (if t105 = (-7) then ((num_Has.f 5 0).bind fun t106 => (if t106 = true then ((num_Has.f 5 1).bind fun t107 => (if t107 = true then (some false) else ((num_Has.f 5 2).bind fun t108 => (some t108)))) else (some false))) else (some false))) else (some false))) else (some false))) else (some false))) else (some false))) = some r := h
  clear h
  replace H := Option.bind_eq_some_iff.mp H
  obtain ⟨t101, A10, H⟩ := H
  replace H : (if t101 = 4 then ((num_Sat.f 4 4).bind fun t102 => (if t102 = 4 then ((num_Sat.f 9 4).bind fun t103 => (if t103 = 4 then ((num_Toward.f k 0 (-7) 5).bind fun t104 => (if t104 = (-5) then ((num_Toward.f k (-5) (-7) 5).bind fun t105 => (if t105 = (-7) then ((num_Has.f 5 0).bind fun t106 => (if t106 = true then ((num_Has.f 5 1).bind fun t107 => (if t107 = true then (some false) else ((num_Has.f 5 2).bind fun t108 => (some t108)))) else (some false))) else (some false))) else (some false))) else (some false))) else (some false))) else (some false)) = some r := H
  have A1 := Aside0.mk A10
  clear A10
  by_cases c2 : t101 = 4
  · rw [if_pos c2] at H
    have c2b0 : (t101 == 4) = true := beq_iff_eq.mpr c2
    have c2b1 : (t101 != 4) = false := bne_eq_false_iff_eq.mpr c2
    clear c2
    replace H := Option.bind_eq_some_iff.mp H
    obtain ⟨t102, A30, H⟩ := H
    replace H : (if t102 = 4 then ((num_Sat.f 9 4).bind fun t103 => (if t103 = 4 then ((num_Toward.f k 0 (-7) 5).bind fun t104 => (if t104 = (-5) then ((num_Toward.f k (-5) (-7) 5).bind fun t105 => (if t105 = (-7) then ((num_Has.f 5 0).bind fun t106 => (if t106 = true then ((num_Has.f 5 1).bind fun t107 => (if t107 = true then (some false) else ((num_Has.f 5 2).bind fun t108 => (some t108)))) else (some false))) else (some false))) else (some false))) else (some false))) else (some false)) = some r := H
    have A3 := Aside0.mk A30
    clear A30
    by_cases c4 : t102 = 4
    · rw [if_pos c4] at H
      have c4b0 : (t102 == 4) = true := beq_iff_eq.mpr c4
      have c4b1 : (t102 != 4) = false := bne_eq_false_iff_eq.mpr c4
      clear c4
      replace H := Option.bind_eq_some_iff.mp H
      obtain ⟨t103, A50, H⟩ := H
      replace H : (if t103 = 4 then ((num_Toward.f k 0 (-7) 5).bind fun t104 => (if t104 = (-5) then ((num_Toward.f k (-5) (-7) 5).bind fun t105 => (if t105 = (-7) then ((num_Has.f 5 0).bind fun t106 => (if t106 = true then ((num_Has.f 5 1).bind fun t107 => (if t107 = true then (some false) else ((num_Has.f 5 2).bind fun t108 => (some t108)))) else (some false))) else (some false))) else (some false))) else (some false)) = some r := H
      have A5 := Aside0.mk A50
      clear A50
      by_cases c6 : t103 = 4
      · rw [if_pos c6] at H
        have c6b0 : (t103 == 4) = true := beq_iff_eq.mpr c6
        have c6b1 : (t103 != 4) = false := bne_eq_false_iff_eq.mpr c6
        clear c6
        replace H := Option.bind_eq_some_iff.mp H
        obtain ⟨t104, A70, H⟩ := H
        replace H : (if t104 = (-5) then ((num_Toward.f k (-5) (-7) 5).bind fun t105 => (if t105 = (-7) then ((num_Has.f 5 0).bind fun t106 => (if t106 = true then ((num_Has.f 5 1).bind fun t107 => (if t107 = true then (some false) else ((num_Has.f 5 2).bind fun t108 => (some t108)))) else (some false))) else (some false))) else (some false)) = some r := H
        have A7 := Aside0.mk A70
        clear A70
        by_cases c8 : t104 = (-5)
        · rw [if_pos c8] at H
          have c8b0 : (t104 == (-5)) = true := beq_iff_eq.mpr c8
          have c8b1 : (t104 != (-5)) = false := bne_eq_false_iff_eq.mpr c8
          clear c8
          replace H := Option.bind_eq_some_iff.mp H
          obtain ⟨t105, A90, H⟩ := H
          replace H : (if t105 = (-7) then ((num_Has.f 5 0).bind fun t106 => (if t106 = true then ((num_Has.f 5 1).bind fun t107 => (if t107 = true then (some false) else ((num_Has.f 5 2).bind fun t108 => (some t108)))) else (some false))) else (some false)) = some r := H
          have A9 := Aside0.mk A90
          clear A90
          by_cases c10 : t105 = (-7)
          · rw [if_pos c10] at H
            have c10b0 : (t105 == (-7)) = true := beq_iff_eq.mpr c10
            have c10b1 : (t105 != (-7)) = false := bne_eq_false_iff_eq.mpr c10
            clear c10
            replace H := Option.bind_eq_some_iff.mp H
            obtain ⟨t106, A110, H⟩ := H
            replace H : (if t106 = true then ((num_Has.f 5 1).bind fun t107 => (if t107 = true then (some false) else ((num_Has.f 5 2).bind fun t108 => (some t108)))) else (some false)) = some r := H
            have A11 := Aside0.mk A110
            clear A110
            by_cases c12 : t106 = true
            · subst c12
              have H1 : ((num_Has.f 5 1).bind fun t107 => (if t107 = true then (some false) else ((num_Has.f 5 2).bind fun t108 => (some t108)))) = some r := by rw [if_pos rfl] at H; exact H
              clear H
              have H := H1
              clear H1
              replace H := Option.bind_eq_some_iff.mp H
              obtain ⟨t107, A130, H⟩ := H
              replace H : (if t107 = true then (some false) else ((num_Has.f 5 2).bind fun t108 => (some t108))) = some r := H
              have A13 := Aside0.mk A130
              clear A130
              by_cases c14 : t107 = true
              · subst c14
                have H1 : (some false) = some r := by rw [if_pos rfl] at H; exact H
                clear H
                have H := H1
                clear H1
                obtain rfl := Option.some.inj H
                go_enter Try.func23, Try.ntmps23
                go_wp2_with (first | ((with_reducible refine gate_callee (f := 29) rfl ?_); refine goesL_ (some 1) rfl rfl Try.func29 (by kernel_rfl) rfl #[.int .i64 3, .int .i64 4] rfl (by (try simp only [List.map_toArray, List.map_cons, List.map_nil]); first | done | rfl | (simp only [List.length_drop, List.length_take]; rfl)) ?_; (with_reducible refine (num_Sat.calls 3 4 t101 _ A1.out).mono ?_); rintro e w' ⟨rfl, ⟨nd, rfl⟩⟩; refine ⟨_, rfl, ?_⟩) | (go_at_call 29; (with_reducible refine (num_Sat.calls 4 4 t102 _ A3.out).mono ?_); rintro e w' ⟨rfl, ⟨nd, rfl⟩⟩) | (go_at_call 29; (with_reducible refine (num_Sat.calls 9 4 t103 _ A5.out).mono ?_); rintro e w' ⟨rfl, ⟨nd, rfl⟩⟩) | (go_at_call 24; (with_reducible refine (num_Toward.calls k 0 (-7) 5 t104 _ A7.out).mono ?_); rintro e w' ⟨rfl, ⟨nd, rfl⟩⟩) | (go_at_call 24; (with_reducible refine (num_Toward.calls k (-5) (-7) 5 t105 _ A9.out).mono ?_); rintro e w' ⟨rfl, ⟨nd, rfl⟩⟩) | (go_at_call 25; (with_reducible refine (num_Has.calls 5 0 true _ A11.out).mono ?_); rintro e w' ⟨rfl, ⟨nd, rfl⟩⟩) | (go_at_call 25; (with_reducible refine (num_Has.calls 5 1 true _ A13.out).mono ?_); rintro e w' ⟨rfl, ⟨nd, rfl⟩⟩))
                go_ret
                exact ⟨by first | rfl | (simp; done) | (simp [*]; done), by repeat (first | exact Drawn0.refl _ | apply Drawn0.step)⟩
              · replace c14 := Bool.eq_false_iff.mpr c14
                subst c14
                have H1 : ((num_Has.f 5 2).bind fun t108 => (some t108)) = some r := by rw [if_neg (show ¬ (false = true) by decide)] at H; exact H
                clear H
                have H := H1
                clear H1
                replace H := Option.bind_eq_some_iff.mp H
                obtain ⟨t108, A150, H⟩ := H
                replace H : (some t108) = some r := H
                have A15 := Aside0.mk A150
                clear A150
                obtain rfl := Option.some.inj H
                go_enter Try.func23, Try.ntmps23
                go_wp2_with (first | ((with_reducible refine gate_callee (f := 29) rfl ?_); refine goesL_ (some 1) rfl rfl Try.func29 (by kernel_rfl) rfl #[.int .i64 3, .int .i64 4] rfl (by (try simp only [List.map_toArray, List.map_cons, List.map_nil]); first | done | rfl | (simp only [List.length_drop, List.length_take]; rfl)) ?_; (with_reducible refine (num_Sat.calls 3 4 t101 _ A1.out).mono ?_); rintro e w' ⟨rfl, ⟨nd, rfl⟩⟩; refine ⟨_, rfl, ?_⟩) | (go_at_call 29; (with_reducible refine (num_Sat.calls 4 4 t102 _ A3.out).mono ?_); rintro e w' ⟨rfl, ⟨nd, rfl⟩⟩) | (go_at_call 29; (with_reducible refine (num_Sat.calls 9 4 t103 _ A5.out).mono ?_); rintro e w' ⟨rfl, ⟨nd, rfl⟩⟩) | (go_at_call 24; (with_reducible refine (num_Toward.calls k 0 (-7) 5 t104 _ A7.out).mono ?_); rintro e w' ⟨rfl, ⟨nd, rfl⟩⟩) | (go_at_call 24; (with_reducible refine (num_Toward.calls k (-5) (-7) 5 t105 _ A9.out).mono ?_); rintro e w' ⟨rfl, ⟨nd, rfl⟩⟩) | (go_at_call 25; (with_reducible refine (num_Has.calls 5 0 true _ A11.out).mono ?_); rintro e w' ⟨rfl, ⟨nd, rfl⟩⟩) | (go_at_call 25; (with_reducible refine (num_Has.calls 5 1 false _ A13.out).mono ?_); rintro e w' ⟨rfl, ⟨nd, rfl⟩⟩) | (go_at_call 25; (with_reducible refine (num_Has.calls 5 2 t108 _ A15.out).mono ?_); rintro e w' ⟨rfl, ⟨nd, rfl⟩⟩))
                go_ret
                exact ⟨by first | rfl | (simp; done) | (simp [*]; done), by repeat (first | exact Drawn0.refl _ | apply Drawn0.step)⟩
            · replace c12 := Bool.eq_false_iff.mpr c12
              subst c12
              have H1 : (some false) = some r := by rw [if_neg (show ¬ (false = true) by decide)] at H; exact H
              clear H
              have H := H1
              clear H1
              obtain rfl := Option.some.inj H
              go_enter Try.func23, Try.ntmps23
              go_wp2_with (first | ((with_reducible refine gate_callee (f := 29) rfl ?_); refine goesL_ (some 1) rfl rfl Try.func29 (by kernel_rfl) rfl #[.int .i64 3, .int .i64 4] rfl (by (try simp only [List.map_toArray, List.map_cons, List.map_nil]); first | done | rfl | (simp only [List.length_drop, List.length_take]; rfl)) ?_; (with_reducible refine (num_Sat.calls 3 4 t101 _ A1.out).mono ?_); rintro e w' ⟨rfl, ⟨nd, rfl⟩⟩; refine ⟨_, rfl, ?_⟩) | (go_at_call 29; (with_reducible refine (num_Sat.calls 4 4 t102 _ A3.out).mono ?_); rintro e w' ⟨rfl, ⟨nd, rfl⟩⟩) | (go_at_call 29; (with_reducible refine (num_Sat.calls 9 4 t103 _ A5.out).mono ?_); rintro e w' ⟨rfl, ⟨nd, rfl⟩⟩) | (go_at_call 24; (with_reducible refine (num_Toward.calls k 0 (-7) 5 t104 _ A7.out).mono ?_); rintro e w' ⟨rfl, ⟨nd, rfl⟩⟩) | (go_at_call 24; (with_reducible refine (num_Toward.calls k (-5) (-7) 5 t105 _ A9.out).mono ?_); rintro e w' ⟨rfl, ⟨nd, rfl⟩⟩) | (go_at_call 25; (with_reducible refine (num_Has.calls 5 0 false _ A11.out).mono ?_); rintro e w' ⟨rfl, ⟨nd, rfl⟩⟩))
              go_ret
              exact ⟨by first | rfl | (simp; done) | (simp [*]; done), by repeat (first | exact Drawn0.refl _ | apply Drawn0.step)⟩
          · rw [if_neg c10] at H
            have c10b0 : (t105 == (-7)) = false := beq_eq_false_iff_ne.mpr c10
            have c10b1 : (t105 != (-7)) = true := bne_iff_ne.mpr c10
            obtain rfl := Option.some.inj H
            go_enter Try.func23, Try.ntmps23
            go_wp2_with (first | ((with_reducible refine gate_callee (f := 29) rfl ?_); refine goesL_ (some 1) rfl rfl Try.func29 (by kernel_rfl) rfl #[.int .i64 3, .int .i64 4] rfl (by (try simp only [List.map_toArray, List.map_cons, List.map_nil]); first | done | rfl | (simp only [List.length_drop, List.length_take]; rfl)) ?_; (with_reducible refine (num_Sat.calls 3 4 t101 _ A1.out).mono ?_); rintro e w' ⟨rfl, ⟨nd, rfl⟩⟩; refine ⟨_, rfl, ?_⟩) | (go_at_call 29; (with_reducible refine (num_Sat.calls 4 4 t102 _ A3.out).mono ?_); rintro e w' ⟨rfl, ⟨nd, rfl⟩⟩) | (go_at_call 29; (with_reducible refine (num_Sat.calls 9 4 t103 _ A5.out).mono ?_); rintro e w' ⟨rfl, ⟨nd, rfl⟩⟩) | (go_at_call 24; (with_reducible refine (num_Toward.calls k 0 (-7) 5 t104 _ A7.out).mono ?_); rintro e w' ⟨rfl, ⟨nd, rfl⟩⟩) | (go_at_call 24; (with_reducible refine (num_Toward.calls k (-5) (-7) 5 t105 _ A9.out).mono ?_); rintro e w' ⟨rfl, ⟨nd, rfl⟩⟩))
            go_ret
            exact ⟨by first | rfl | (simp; done) | (simp [*]; done), by repeat (first | exact Drawn0.refl _ | apply Drawn0.step)⟩
        · rw [if_neg c8] at H
          have c8b0 : (t104 == (-5)) = false := beq_eq_false_iff_ne.mpr c8
          have c8b1 : (t104 != (-5)) = true := bne_iff_ne.mpr c8
          obtain rfl := Option.some.inj H
          go_enter Try.func23, Try.ntmps23
          go_wp2_with (first | ((with_reducible refine gate_callee (f := 29) rfl ?_); refine goesL_ (some 1) rfl rfl Try.func29 (by kernel_rfl) rfl #[.int .i64 3, .int .i64 4] rfl (by (try simp only [List.map_toArray, List.map_cons, List.map_nil]); first | done | rfl | (simp only [List.length_drop, List.length_take]; rfl)) ?_; (with_reducible refine (num_Sat.calls 3 4 t101 _ A1.out).mono ?_); rintro e w' ⟨rfl, ⟨nd, rfl⟩⟩; refine ⟨_, rfl, ?_⟩) | (go_at_call 29; (with_reducible refine (num_Sat.calls 4 4 t102 _ A3.out).mono ?_); rintro e w' ⟨rfl, ⟨nd, rfl⟩⟩) | (go_at_call 29; (with_reducible refine (num_Sat.calls 9 4 t103 _ A5.out).mono ?_); rintro e w' ⟨rfl, ⟨nd, rfl⟩⟩) | (go_at_call 24; (with_reducible refine (num_Toward.calls k 0 (-7) 5 t104 _ A7.out).mono ?_); rintro e w' ⟨rfl, ⟨nd, rfl⟩⟩))
          go_ret
          exact ⟨by first | rfl | (simp; done) | (simp [*]; done), by repeat (first | exact Drawn0.refl _ | apply Drawn0.step)⟩
      · rw [if_neg c6] at H
        have c6b0 : (t103 == 4) = false := beq_eq_false_iff_ne.mpr c6
        have c6b1 : (t103 != 4) = true := bne_iff_ne.mpr c6
        obtain rfl := Option.some.inj H
        go_enter Try.func23, Try.ntmps23
        go_wp2_with (first | ((with_reducible refine gate_callee (f := 29) rfl ?_); refine goesL_ (some 1) rfl rfl Try.func29 (by kernel_rfl) rfl #[.int .i64 3, .int .i64 4] rfl (by (try simp only [List.map_toArray, List.map_cons, List.map_nil]); first | done | rfl | (simp only [List.length_drop, List.length_take]; rfl)) ?_; (with_reducible refine (num_Sat.calls 3 4 t101 _ A1.out).mono ?_); rintro e w' ⟨rfl, ⟨nd, rfl⟩⟩; refine ⟨_, rfl, ?_⟩) | (go_at_call 29; (with_reducible refine (num_Sat.calls 4 4 t102 _ A3.out).mono ?_); rintro e w' ⟨rfl, ⟨nd, rfl⟩⟩) | (go_at_call 29; (with_reducible refine (num_Sat.calls 9 4 t103 _ A5.out).mono ?_); rintro e w' ⟨rfl, ⟨nd, rfl⟩⟩))
        go_ret
        exact ⟨by first | rfl | (simp; done) | (simp [*]; done), by repeat (first | exact Drawn0.refl _ | apply Drawn0.step)⟩
    · rw [if_neg c4] at H
      have c4b0 : (t102 == 4) = false := beq_eq_false_iff_ne.mpr c4
      have c4b1 : (t102 != 4) = true := bne_iff_ne.mpr c4
      obtain rfl := Option.some.inj H
      go_enter Try.func23, Try.ntmps23
      go_wp2_with (first | ((with_reducible refine gate_callee (f := 29) rfl ?_); refine goesL_ (some 1) rfl rfl Try.func29 (by kernel_rfl) rfl #[.int .i64 3, .int .i64 4] rfl (by (try simp only [List.map_toArray, List.map_cons, List.map_nil]); first | done | rfl | (simp only [List.length_drop, List.length_take]; rfl)) ?_; (with_reducible refine (num_Sat.calls 3 4 t101 _ A1.out).mono ?_); rintro e w' ⟨rfl, ⟨nd, rfl⟩⟩; refine ⟨_, rfl, ?_⟩) | (go_at_call 29; (with_reducible refine (num_Sat.calls 4 4 t102 _ A3.out).mono ?_); rintro e w' ⟨rfl, ⟨nd, rfl⟩⟩))
      go_ret
      exact ⟨by first | rfl | (simp; done) | (simp [*]; done), by repeat (first | exact Drawn0.refl _ | apply Drawn0.step)⟩
  · rw [if_neg c2] at H
    have c2b0 : (t101 == 4) = false := beq_eq_false_iff_ne.mpr c2
    have c2b1 : (t101 != 4) = true := bne_iff_ne.mpr c2
    obtain rfl := Option.some.inj H
    go_enter Try.func23, Try.ntmps23
    go_wp2_with (first | ((with_reducible refine gate_callee (f := 29) rfl ?_); refine goesL_ (some 1) rfl rfl Try.func29 (by kernel_rfl) rfl #[.int .i64 3, .int .i64 4] rfl (by (try simp only [List.map_toArray, List.map_cons, List.map_nil]); first | done | rfl | (simp only [List.length_drop, List.length_take]; rfl)) ?_; (with_reducible refine (num_Sat.calls 3 4 t101 _ A1.out).mono ?_); rintro e w' ⟨rfl, ⟨nd, rfl⟩⟩; refine ⟨_, rfl, ?_⟩))
    go_ret
    exact ⟨by first | rfl | (simp; done) | (simp [*]; done), by repeat (first | exact Drawn0.refl _ | apply Drawn0.step)⟩

end Go.Proofs.Ytkglnkfoeedmoaa.PNumComes
