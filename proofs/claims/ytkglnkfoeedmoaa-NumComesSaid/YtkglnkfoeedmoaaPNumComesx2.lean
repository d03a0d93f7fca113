-- PRINTED BY print.sh 35421559b90ae4d0a3588c463048766b98c2df88dd9212a6774a882060cdf62d: not written by this session
import Derived.Test.YtkglnkfoeedmoaaPNumComesx0
import Derived.Test.YtkglnkfoeedmoaaPNumComesx1
namespace Go.Proofs.Ytkglnkfoeedmoaa.PNumComes
open Go.RowKit Go.Proofs.YtkglnkfoeedmoaaW.PrintWords Go.Proofs.YtkglnkfoeedmoaaW.PrintLast Go.Proofs.YtkglnkfoeedmoaaW.PrintMore
attribute [local go_sem] max2_int min2_int max_two min_two max_three min_three max_four min_four   -- for this text's walks alone
set_option linter.unusedVariables false
set_option linter.unusedSimpArgs false

/-! ### sidesticklaw01_NumComes: function 6 -/
mutual
def sidesticklaw01_NumComes.l0 : Nat → Int → Int → Bool → Int → Int → Int → Int → Option (Bool)
  | 0, _, _, _, _, _, _, _ => none
  | k + 1, x0, x1, x7, x8, x9, x10, x11 => if x8 = x9 then (sidesticklaw01_NumComes.j1 k x0 x1 x7 x8 x9 x10 x11 false) else (sidesticklaw01_NumComes.j1 k x0 x1 x7 x8 x9 x10 x11 (decide (x11 < 2100)))
def sidesticklaw01_NumComes.j1 : Nat → Int → Int → Bool → Int → Int → Int → Int → Bool → Option (Bool)
  | 0, _, _, _, _, _, _, _, _ => none
  | k + 1, x0, x1, x7, x8, x9, x10, x11, x30 => if x30 = true then ((num_Toward.f k x8 x9 x10).bind fun t110 => (if (wrap64 (t110 - x8)) ≤ x10 then (if x8 < x9 then (if t110 > x8 then (if t110 ≤ x9 then (if ((wrap64 (x8 - t110)) ≤ x10) then (sidesticklaw01_NumComes.l0 k x0 x1 x7 t110 x9 x10 (wrap64 (x11 + 1))) else (some false)) else (if x8 > x9 then (if t110 < x8 then (if ((wrap64 (x8 - t110)) ≤ x10) then (if t110 ≥ x9 then (sidesticklaw01_NumComes.l0 k x0 x1 x7 t110 x9 x10 (wrap64 (x11 + 1))) else (some false)) else (some false)) else (if ((wrap64 (x8 - t110)) ≤ x10) then (some false) else (some false))) else (if ((wrap64 (x8 - t110)) ≤ x10) then (some false) else (some false)))) else (if x8 > x9 then (if t110 < x8 then (if ((wrap64 (x8 - t110)) ≤ x10) then (if t110 ≥ x9 then (sidesticklaw01_NumComes.l0 k x0 x1 x7 t110 x9 x10 (wrap64 (x11 + 1))) else (some false)) else (some false)) else (if ((wrap64 (x8 - t110)) ≤ x10) then (some false) else (some false))) else (if ((wrap64 (x8 - t110)) ≤ x10) then (some false) else (some false)))) else (if x8 > x9 then (if t110 < x8 then (if ((wrap64 (x8 - t110)) ≤ x10) then (if t110 ≥ x9 then (sidesticklaw01_NumComes.l0 k x0 x1 x7 t110 x9 x10 (wrap64 (x11 + 1))) else (some false)) else (some false)) else (if ((wrap64 (x8 - t110)) ≤ x10) then (some false) else (some false))) else (if ((wrap64 (x8 - t110)) ≤ x10) then (some false) else (some false)))) else (if x8 < x9 then (if t110 > x8 then (if t110 ≤ x9 then (some false) else (if x8 > x9 then (if t110 < x8 then (some false) else (some false)) else (some false))) else (if x8 > x9 then (if t110 < x8 then (some false) else (some false)) else (some false))) else (if x8 > x9 then (if t110 < x8 then (some false) else (some false)) else (some false))))) else (if x7 = true then (if x8 = x9 then ((num_Toward.f k x8 x9 x10).bind fun t111 => (if t111 = x8 then ((num_Toward.f k x8 x9 0).bind fun t112 => (if t112 = x8 then ((num_Toward.f k x0 x1 (wrap64 (-x10))).bind fun t113 => (some (t113 == x0))) else (some false))) else (some false))) else (some false)) else (some false))
end
def sidesticklaw01_NumComes.f (k : Nat) (a0 : Int) (a1 : Int) (a2 : Int) : Option (Bool) := (sidesticklaw01_shown.f k).bind fun t109 => (sidesticklaw01_NumComes.l0 k a0 a1 t109 (Int.tmod a0 1000) (Int.tmod a1 1000) (wrap64 (1 + (Int.tmod (wrap64 (a2)) 64))) 0)
theorem sidesticklaw01_NumComes.mono_l : ∀ k, (∀ y0 y1 y2 y3 y4 y5 y6, LeO (sidesticklaw01_NumComes.l0 k y0 y1 y2 y3 y4 y5 y6) (sidesticklaw01_NumComes.l0 (k + 1) y0 y1 y2 y3 y4 y5 y6)) ∧ (∀ y0 y1 y2 y3 y4 y5 y6 y7, LeO (sidesticklaw01_NumComes.j1 k y0 y1 y2 y3 y4 y5 y6 y7) (sidesticklaw01_NumComes.j1 (k + 1) y0 y1 y2 y3 y4 y5 y6 y7))
  | 0 => ⟨fun _ _ _ _ _ _ _ r h => by simp [sidesticklaw01_NumComes.l0] at h, fun _ _ _ _ _ _ _ _ r h => by simp [sidesticklaw01_NumComes.j1] at h⟩
  | k + 1 => by
    obtain ⟨ih0, ih1⟩ := sidesticklaw01_NumComes.mono_l k
    refine ⟨?_, ?_⟩
    · intro y0 y1 y2 y3 y4 y5 y6
      unfold sidesticklaw01_NumComes.l0
      repeat' first
      | (with_reducible exact ih0 _ _ _ _ _ _ _)
      | (with_reducible exact ih1 _ _ _ _ _ _ _ _)
      | (with_reducible exact num_Toward.mono _ _ _ _)
      | (with_reducible exact sidesticklaw01_shown.mono _)
      | (with_reducible exact LeO.refl _)
      | (with_reducible exact LeO.none _)
      | (with_reducible refine LeO.ite ?_ ?_)
      | (with_reducible refine LeO.bind ?_ (fun _ => ?_))
      | exact ih0 _ _ _ _ _ _ _
      | exact ih1 _ _ _ _ _ _ _ _
      | exact num_Toward.mono _ _ _ _
      | exact sidesticklaw01_shown.mono _
      | exact LeO.none _
      | refine LeO.ite ?_ ?_
      | refine LeO.bind ?_ (fun _ => ?_)
    · intro y0 y1 y2 y3 y4 y5 y6 y7
      unfold sidesticklaw01_NumComes.j1
      repeat' first
      | (with_reducible exact ih0 _ _ _ _ _ _ _)
      | (with_reducible exact ih1 _ _ _ _ _ _ _ _)
      | (with_reducible exact num_Toward.mono _ _ _ _)
      | (with_reducible exact sidesticklaw01_shown.mono _)
      | (with_reducible exact LeO.refl _)
      | (with_reducible exact LeO.none _)
      | (with_reducible refine LeO.ite ?_ ?_)
      | (with_reducible refine LeO.bind ?_ (fun _ => ?_))
      | exact ih0 _ _ _ _ _ _ _
      | exact ih1 _ _ _ _ _ _ _ _
      | exact num_Toward.mono _ _ _ _
      | exact sidesticklaw01_shown.mono _
      | exact LeO.none _
      | refine LeO.ite ?_ ?_
      | refine LeO.bind ?_ (fun _ => ?_)
theorem sidesticklaw01_NumComes.mono : ∀ a0 a1 a2 k, LeO (sidesticklaw01_NumComes.f k a0 a1 a2) (sidesticklaw01_NumComes.f (k + 1) a0 a1 a2) := by
  intro a0 a1 a2 k
  obtain ⟨ih0, ih1⟩ := sidesticklaw01_NumComes.mono_l k
  unfold sidesticklaw01_NumComes.f
  repeat' first
      | (with_reducible exact ih0 _ _ _ _ _ _ _)
      | (with_reducible exact ih1 _ _ _ _ _ _ _ _)
      | (with_reducible exact num_Toward.mono _ _ _ _)
      | (with_reducible exact sidesticklaw01_shown.mono _)
      | (with_reducible exact LeO.refl _)
      | (with_reducible exact LeO.none _)
      | (with_reducible refine LeO.ite ?_ ?_)
      | (with_reducible refine LeO.bind ?_ (fun _ => ?_))
      | exact ih0 _ _ _ _ _ _ _
      | exact ih1 _ _ _ _ _ _ _ _
      | exact num_Toward.mono _ _ _ _
      | exact sidesticklaw01_shown.mono _
      | exact LeO.none _
      | refine LeO.ite ?_ ?_
      | refine LeO.bind ?_ (fun _ => ?_)
set_option maxHeartbeats 8000000 in
set_option maxRecDepth 100000 in
theorem sidesticklaw01_NumComes.calls (k : Nat) (a0 : Int) (a1 : Int) (a2 : Int) (r : Bool) (w : World) (h : sidesticklaw01_NumComes.f k a0 a1 a2 = some r) :
    Calls Try.prog 6 #[.int .i64 a0, .int .i64 a1, .int .u8 a2] w fun e w' => e = .returned (.bool r) ∧ Drawn0 w w' := by
  have H : ((sidesticklaw01_shown.f k).bind fun t109 => (sidesticklaw01_NumComes.l0 k a0 a1 t109 (Int.tmod a0 1000) (Int.tmod a1 1000) (wrap64 (1 + (Int.tmod (wrap64 (a2)) 64))) 0)) = some r := h
  clear h
  replace H := Option.bind_eq_some_iff.mp H
  obtain ⟨t109, A40, H⟩ := H
  replace H : (sidesticklaw01_NumComes.l0 k a0 a1 t109 (Int.tmod a0 1000) (Int.tmod a1 1000) (wrap64 (1 + (Int.tmod (wrap64 (a2)) 64))) 0) = some r := H
  have A4 := Aside0.mk A40
  clear A40
  have H' := Aside0.mk H
  clear H
  go_enter Try.func6, Try.ntmps6
  go_wp2_with (first | ((with_reducible refine gate_callee (f := 23) rfl ?_); refine goesL_ (some 15) rfl rfl Try.func23 (by kernel_rfl) rfl #[] rfl (by (try simp only [List.map_toArray, List.map_cons, List.map_nil]); first | done | rfl | (simp only [List.length_drop, List.length_take]; rfl)) ?_; (with_reducible refine (sidesticklaw01_shown.calls k  t109 _ A4.out).mono ?_); rintro e w' ⟨rfl, ⟨nd, rfl⟩⟩; refine ⟨_, rfl, ?_⟩))
  go_loopg [8, 11] k (fun kq v8 v11 w' => ∃ (x8_1 : Int) (x11_1 : Int), v8 = .int .i64 x8_1 ∧ v11 = .int .i64 x11_1 ∧ Aside0 (sidesticklaw01_NumComes.l0 kq a0 a1 t109 x8_1 (Int.tmod a1 1000) (wrap64 (1 + (Int.tmod (wrap64 (a2)) 64))) x11_1 = some r) ∧ Aside0 (kq ≤ k) ∧ Drawn0 w w')
  case atStart => exact ⟨(Int.tmod a0 1000), (0), (by first | rfl | (simp; done) | (simp [*]; done)), (by first | rfl | (simp; done) | (simp [*]; done)), H', ⟨Nat.le_refl _⟩, by repeat (first | exact Drawn0.refl _ | apply Drawn0.step)⟩
  case round =>
    clear H'
    try clear c2
    try clear p2
    obtain ⟨x8_1, x11_1, rfl, rfl, HA, HK1, ⟨m1, rfl⟩⟩ := hrel
    cases gk with
    | zero => exact absurd HA.out (by simp [sidesticklaw01_NumComes.l0])
    | succ k1 =>
      have H := HA.out
      clear HA
      simp only [sidesticklaw01_NumComes.l0] at H
      have HC5 := Aside0.mk H
      clear H
      go_upto_region 6 with (fail)
      go_cut [30] (fun v30 wc => ∃ (kq : Nat) (x30_4 : Bool), v30 = .bool x30_4 ∧ Aside0 (sidesticklaw01_NumComes.j1 kq a0 a1 t109 x8_1 (Int.tmod a1 1000) (wrap64 (1 + (Int.tmod (wrap64 (a2)) 64))) x11_1 x30_4 = some r) ∧ Aside0 (kq ≤ k1) ∧ Drawn0 w wc)
      case first =>
        have H := HC5.out
        clear HC5
        by_cases c6 : x8_1 = (Int.tmod a1 1000)
        · rw [if_pos c6] at H
          have c6b0 : (x8_1 == (Int.tmod a1 1000)) = true := beq_iff_eq.mpr c6
          have c6b1 : (x8_1 != (Int.tmod a1 1000)) = false := bne_eq_false_iff_eq.mpr c6
          clear c6
          (first | rw [c6b0] | (simp only [i64_w, i32_w]; rw [c6b0]) | skip)
          have H' := Aside0.mk H
          clear H
          go_wp2
          go_meet
          case rel => exact ⟨_, (false), (by first | rfl | (simp; done) | (simp [*]; done)), H', ⟨by have := HK1.out; first | omega | exact Nat.le_refl _⟩, by repeat (first | exact Drawn0.refl _ | apply Drawn0.step)⟩
        · rw [if_neg c6] at H
          have c6b0 : (x8_1 == (Int.tmod a1 1000)) = false := beq_eq_false_iff_ne.mpr c6
          have c6b1 : (x8_1 != (Int.tmod a1 1000)) = true := bne_iff_ne.mpr c6
          (first | rw [c6b0] | (simp only [i64_w, i32_w]; rw [c6b0]) | skip)
          have H' := Aside0.mk H
          clear H
          go_wp2
          go_meet
          case rel => exact ⟨_, (decide (x11_1 < 2100)), (by first | rfl | (simp; done) | (simp [*]; done)), H', ⟨by have := HK1.out; first | omega | exact Nat.le_refl _⟩, by repeat (first | exact Drawn0.refl _ | apply Drawn0.step)⟩
      case rest =>
        clear HC5
        try clear c2
        try clear p2
        try clear c6
        try clear c6b0
        try clear c6b1
        try clear p6
        try clear p2
        obtain ⟨kq, x30_4, rfl, HA, HJ4, ⟨mc4, rfl⟩⟩ := hcut
        cases kq with
        | zero => exact absurd HA.out (by simp [sidesticklaw01_NumComes.j1])
        | succ kj4 =>
          have H := HA.out
          clear HA
          simp only [sidesticklaw01_NumComes.j1] at H
          by_cases c7 : x30_4 = true
          · subst c7
            have H1 : ((num_Toward.f kj4 x8_1 (Int.tmod a1 1000) (wrap64 (1 + (Int.tmod (wrap64 (a2)) 64)))).bind fun t110 => (if (wrap64 (t110 - x8_1)) ≤ (wrap64 (1 + (Int.tmod (wrap64 (a2)) 64))) then (if x8_1 < (Int.tmod a1 1000) then (if t110 > x8_1 then (if t110 ≤ (Int.tmod a1 1000) then (if ((wrap64 (x8_1 - t110)) ≤ (wrap64 (1 + (Int.tmod (wrap64 (a2)) 64)))) then (sidesticklaw01_NumComes.l0 kj4 a0 a1 t109 t110 (Int.tmod a1 1000) (wrap64 (1 + (Int.tmod (wrap64 (a2)) 64))) (wrap64 (x11_1 + 1))) else (some false)) else (if x8_1 > (Int.tmod a1 1000) then (if t110 < x8_1 then (if ((wrap64 (x8_1 - t110)) ≤ (wrap64 (1 + (Int.tmod (wrap64 (a2)) 64)))) then (if t110 ≥ (Int.tmod a1 1000) then (sidesticklaw01_NumComes.l0 kj4 a0 a1 t109 t110 (Int.tmod a1 1000) (wrap64 (1 + (Int.tmod (wrap64 (a2)) 64))) (wrap64 (x11_1 + 1))) else (some false)) else (some false)) else (if ((wrap64 (x8_1 - t110)) ≤ (wrap64 (1 + (Int.tmod (wrap64 (a2)) 64)))) then (some false) else (some false))) else (if ((wrap64 (x8_1 - t110)) ≤ (wrap64 (1 + (Int.tmod (wrap64 (a2)) 64)))) then (some false) else (some false)))) else (if x8_1 > (Int.tmod a1 1000) then (if t110 < x8_1 then (if ((wrap64 (x8_1 - t110)) ≤ (wrap64 (1 + (Int.tmod (wrap64 (a2)) 64)))) then (if t110 ≥ (Int.tmod a1 1000) then (sidesticklaw01_NumComes.l0 kj4 a0 a1 t109 t110 (Int.tmod a1 1000) (wrap64 (1 + (Int.tmod (wrap64 (a2)) 64))) (wrap64 (x11_1 + 1))) else (some false)) else (some false)) else (if ((wrap64 (x8_1 - t110)) ≤ (wrap64 (1 + (Int.tmod (wrap64 (a2)) 64)))) then (some false) else (some false))) else (if ((wrap64 (x8_1 - t110)) ≤ (wrap64 (1 + (Int.tmod (wrap64 (a2)) 64)))) then (some false) else (some false)))) else (if x8_1 > (Int.tmod a1 1000) then (if t110 < x8_1 then (if ((wrap64 (x8_1 - t110)) ≤ (wrap64 (1 + (Int.tmod (wrap64 (a2)) 64)))) then (if t110 ≥ (Int.tmod a1 1000) then (sidesticklaw01_NumComes.l0 kj4 a0 a1 t109 t110 (Int.tmod a1 1000) (wrap64 (1 + (Int.tmod (wrap64 (a2)) 64))) (wrap64 (x11_1 + 1))) else (some false)) else (some false)) else (if ((wrap64 (x8_1 - t110)) ≤ (wrap64 (1 + (Int.tmod (wrap64 (a2)) 64)))) then (some false) else (some false))) else (if ((wrap64 (x8_1 - t110)) ≤ (wrap64 (1 + (Int.tmod (wrap64 (a2)) 64)))) then (some false) else (some false)))) else (if x8_1 < (Int.tmod a1 1000) then (if t110 > x8_1 then (if t110 ≤ (Int.tmod a1 1000) then (some false) else (if x8_1 > (Int.tmod a1 1000) then (if t110 < x8_1 then (some false) else (some false)) else (some false))) else (if x8_1 > (Int.tmod a1 1000) then (if t110 < x8_1 then (some false) else (some false)) else (some false))) else (if x8_1 > (Int.tmod a1 1000) then (if t110 < x8_1 then (some false) else (some false)) else (some false))))) = some r := by rw [if_pos rfl] at H; exact H
            clear H
            have H := H1
            clear H1
            replace H := Option.bind_eq_some_iff.mp H
            obtain ⟨t110, A80, H⟩ := H
            replace H : (if (wrap64 (t110 - x8_1)) ≤ (wrap64 (1 + (Int.tmod (wrap64 (a2)) 64))) then (if x8_1 < (Int.tmod a1 1000) then (if t110 > x8_1 then (if t110 ≤ (Int.tmod a1 1000) then (if ((wrap64 (x8_1 - t110)) ≤ (wrap64 (1 + (Int.tmod (wrap64 (a2)) 64)))) then (sidesticklaw01_NumComes.l0 kj4 a0 a1 t109 t110 (Int.tmod a1 1000) (wrap64 (1 + (Int.tmod (wrap64 (a2)) 64))) (wrap64 (x11_1 + 1))) else (some false)) else (if x8_1 > (Int.tmod a1 1000) then (if t110 < x8_1 then (if ((wrap64 (x8_1 - t110)) ≤ (wrap64 (1 + (Int.tmod (wrap64 (a2)) 64)))) then (if t110 ≥ (Int.tmod a1 1000) then (sidesticklaw01_NumComes.l0 kj4 a0 a1 t109 t110 (Int.tmod a1 1000) (wrap64 (1 + (Int.tmod (wrap64 (a2)) 64))) (wrap64 (x11_1 + 1))) else (some false)) else (some false)) else (if ((wrap64 (x8_1 - t110)) ≤ (wrap64 (1 + (Int.tmod (wrap64 (a2)) 64)))) then (some false) else (some false))) else (if ((wrap64 (x8_1 - t110)) ≤ (wrap64 (1 + (Int.tmod (wrap64 (a2)) 64)))) then (some false) else (some false)))) else (if x8_1 > (Int.tmod a1 1000) then (if t110 < x8_1 then (if ((wrap64 (x8_1 - t110)) ≤ (wrap64 (1 + (Int.tmod (wrap64 (a2)) 64)))) then (if t110 ≥ (Int.tmod a1 1000) then (sidesticklaw01_NumComes.l0 kj4 a0 a1 t109 t110 (Int.tmod a1 1000) (wrap64 (1 + (Int.tmod (wrap64 (a2)) 64))) (wrap64 (x11_1 + 1))) else (some false)) else (some false)) else (if ((wrap64 (x8_1 - t110)) ≤ (wrap64 (1 + (Int.tmod (wrap64 (a2)) 64)))) then (some false) else (some false))) else (if ((wrap64 (x8_1 - t110)) ≤ (wrap64 (1 + (Int.tmod (wrap64 (a2)) 64)))) then (some false) else (some false)))) else (if x8_1 > (Int.tmod a1 1000) then (if t110 < x8_1 then (if ((wrap64 (x8_1 - t110)) ≤ (wrap64 (1 + (Int.tmod (wrap64 (a2)) 64)))) then (if t110 ≥ (Int.tmod a1 1000) then (sidesticklaw01_NumComes.l0 kj4 a0 a1 t109 t110 (Int.tmod a1 1000) (wrap64 (1 + (Int.tmod (wrap64 (a2)) 64))) (wrap64 (x11_1 + 1))) else (some false)) else (some false)) else (if ((wrap64 (x8_1 - t110)) ≤ (wrap64 (1 + (Int.tmod (wrap64 (a2)) 64)))) then (some false) else (some false))) else (if ((wrap64 (x8_1 - t110)) ≤ (wrap64 (1 + (Int.tmod (wrap64 (a2)) 64)))) then (some false) else (some false)))) else (if x8_1 < (Int.tmod a1 1000) then (if t110 > x8_1 then (if t110 ≤ (Int.tmod a1 1000) then (some false) else (if x8_1 > (Int.tmod a1 1000) then (if t110 < x8_1 then (some false) else (some false)) else (some false))) else (if x8_1 > (Int.tmod a1 1000) then (if t110 < x8_1 then (some false) else (some false)) else (some false))) else (if x8_1 > (Int.tmod a1 1000) then (if t110 < x8_1 then (some false) else (some false)) else (some false)))) = some r := H
            have A8 := Aside0.mk A80
            clear A80
            by_cases c9 : (wrap64 (t110 - x8_1)) ≤ (wrap64 (1 + (Int.tmod (wrap64 (a2)) 64)))
            · rw [if_pos c9] at H
              have c9b0 : decide ((wrap64 (t110 - x8_1)) ≤ (wrap64 (1 + (Int.tmod (wrap64 (a2)) 64)))) = true := decide_eq_true c9
              clear c9
              by_cases c10 : x8_1 < (Int.tmod a1 1000)
              · rw [if_pos c10] at H
                have c10b0 : decide (x8_1 < (Int.tmod a1 1000)) = true := decide_eq_true c10
                clear c10
                by_cases c11 : t110 > x8_1
                · rw [if_pos c11] at H
                  have c11b0 : decide (x8_1 < t110) = true := decide_eq_true c11
                  clear c11
                  by_cases c12 : t110 ≤ (Int.tmod a1 1000)
                  · rw [if_pos c12] at H
                    have c12b0 : decide (t110 ≤ (Int.tmod a1 1000)) = true := decide_eq_true c12
                    clear c12
                    by_cases c13 : ((wrap64 (x8_1 - t110)) ≤ (wrap64 (1 + (Int.tmod (wrap64 (a2)) 64))))
                    · rw [if_pos c13] at H
                      have c13b0 : decide ((wrap64 (x8_1 - t110)) ≤ (wrap64 (1 + (Int.tmod (wrap64 (a2)) 64)))) = true := decide_eq_true c13
                      clear c13
                      have H' := Aside0.mk H
                      clear H
                      go_wp2_with (first | ((with_reducible refine gate_callee (f := 24) rfl ?_); refine goesL_ (some 34) rfl rfl Try.func24 (by kernel_rfl) rfl #[.int .i64 x8_1, .int .i64 (Int.tmod a1 1000), .int .i64 (wrap64 (1 + (Int.tmod (wrap64 (a2)) 64)))] rfl (by (try simp only [List.map_toArray, List.map_cons, List.map_nil]); first | done | rfl | (simp only [List.length_drop, List.length_take]; rfl)) ?_; (with_reducible refine (num_Toward.calls kj4 x8_1 (Int.tmod a1 1000) (wrap64 (1 + (Int.tmod (wrap64 (a2)) 64))) t110 _ A8.out).mono ?_); rintro e w' ⟨rfl, ⟨nd, rfl⟩⟩; refine ⟨_, rfl, ?_⟩))
                      go_roundg kj4
                      case measure => have := HK1.out; have := HJ4.out; omega
                      case rel => exact ⟨(t110), (wrap64 (x11_1 + 1)), (by first | rfl | (simp; done) | (simp [*]; done)), (by first | rfl | (simp; done) | (simp [*]; done)), H', ⟨by have := HK1.out; have := HJ4.out; omega⟩, by repeat (first | exact Drawn0.refl _ | apply Drawn0.step)⟩
                    · rw [if_neg c13] at H
                      have c13b0 : decide ((wrap64 (x8_1 - t110)) ≤ (wrap64 (1 + (Int.tmod (wrap64 (a2)) 64)))) = false := decide_eq_false c13
                      clear c13
                      obtain rfl := Option.some.inj H
                      go_wp2_with (first | ((with_reducible refine gate_callee (f := 24) rfl ?_); refine goesL_ (some 34) rfl rfl Try.func24 (by kernel_rfl) rfl #[.int .i64 x8_1, .int .i64 (Int.tmod a1 1000), .int .i64 (wrap64 (1 + (Int.tmod (wrap64 (a2)) 64)))] rfl (by (try simp only [List.map_toArray, List.map_cons, List.map_nil]); first | done | rfl | (simp only [List.length_drop, List.length_take]; rfl)) ?_; (with_reducible refine (num_Toward.calls kj4 x8_1 (Int.tmod a1 1000) (wrap64 (1 + (Int.tmod (wrap64 (a2)) 64))) t110 _ A8.out).mono ?_); rintro e w' ⟨rfl, ⟨nd, rfl⟩⟩; refine ⟨_, rfl, ?_⟩))
                      go_ret
                      exact ⟨by first | rfl | (simp; done) | (simp [*]; done), by repeat (first | exact Drawn0.refl _ | apply Drawn0.step)⟩
                  · rw [if_neg c12] at H
                    have c12b0 : decide (t110 ≤ (Int.tmod a1 1000)) = false := decide_eq_false c12
                    clear c12
                    by_cases c14 : x8_1 > (Int.tmod a1 1000)
                    · rw [if_pos c14] at H
                      have c14b0 : decide ((Int.tmod a1 1000) < x8_1) = true := decide_eq_true c14
                      clear c14
                      by_cases c15 : t110 < x8_1
                      · rw [if_pos c15] at H
                        have c15b0 : decide (t110 < x8_1) = true := decide_eq_true c15
                        clear c15
                        by_cases c16 : ((wrap64 (x8_1 - t110)) ≤ (wrap64 (1 + (Int.tmod (wrap64 (a2)) 64))))
                        · rw [if_pos c16] at H
                          have c16b0 : decide ((wrap64 (x8_1 - t110)) ≤ (wrap64 (1 + (Int.tmod (wrap64 (a2)) 64)))) = true := decide_eq_true c16
                          clear c16
                          by_cases c17 : t110 ≥ (Int.tmod a1 1000)
                          · rw [if_pos c17] at H
                            have c17b0 : decide ((Int.tmod a1 1000) ≤ t110) = true := decide_eq_true c17
                            clear c17
                            have H' := Aside0.mk H
                            clear H
                            go_wp2_with (first | ((with_reducible refine gate_callee (f := 24) rfl ?_); refine goesL_ (some 34) rfl rfl Try.func24 (by kernel_rfl) rfl #[.int .i64 x8_1, .int .i64 (Int.tmod a1 1000), .int .i64 (wrap64 (1 + (Int.tmod (wrap64 (a2)) 64)))] rfl (by (try simp only [List.map_toArray, List.map_cons, List.map_nil]); first | done | rfl | (simp only [List.length_drop, List.length_take]; rfl)) ?_; (with_reducible refine (num_Toward.calls kj4 x8_1 (Int.tmod a1 1000) (wrap64 (1 + (Int.tmod (wrap64 (a2)) 64))) t110 _ A8.out).mono ?_); rintro e w' ⟨rfl, ⟨nd, rfl⟩⟩; refine ⟨_, rfl, ?_⟩))
                            go_roundg kj4
                            case measure => have := HK1.out; have := HJ4.out; omega
                            case rel => exact ⟨(t110), (wrap64 (x11_1 + 1)), (by first | rfl | (simp; done) | (simp [*]; done)), (by first | rfl | (simp; done) | (simp [*]; done)), H', ⟨by have := HK1.out; have := HJ4.out; omega⟩, by repeat (first | exact Drawn0.refl _ | apply Drawn0.step)⟩
                          · rw [if_neg c17] at H
                            have c17b0 : decide ((Int.tmod a1 1000) ≤ t110) = false := decide_eq_false c17
                            clear c17
                            obtain rfl := Option.some.inj H
                            go_wp2_with (first | ((with_reducible refine gate_callee (f := 24) rfl ?_); refine goesL_ (some 34) rfl rfl Try.func24 (by kernel_rfl) rfl #[.int .i64 x8_1, .int .i64 (Int.tmod a1 1000), .int .i64 (wrap64 (1 + (Int.tmod (wrap64 (a2)) 64)))] rfl (by (try simp only [List.map_toArray, List.map_cons, List.map_nil]); first | done | rfl | (simp only [List.length_drop, List.length_take]; rfl)) ?_; (with_reducible refine (num_Toward.calls kj4 x8_1 (Int.tmod a1 1000) (wrap64 (1 + (Int.tmod (wrap64 (a2)) 64))) t110 _ A8.out).mono ?_); rintro e w' ⟨rfl, ⟨nd, rfl⟩⟩; refine ⟨_, rfl, ?_⟩))
                            go_ret
                            exact ⟨by first | rfl | (simp; done) | (simp [*]; done), by repeat (first | exact Drawn0.refl _ | apply Drawn0.step)⟩
                        · rw [if_neg c16] at H
                          have c16b0 : decide ((wrap64 (x8_1 - t110)) ≤ (wrap64 (1 + (Int.tmod (wrap64 (a2)) 64)))) = false := decide_eq_false c16
                          clear c16
                          obtain rfl := Option.some.inj H
                          go_wp2_with (first | ((with_reducible refine gate_callee (f := 24) rfl ?_); refine goesL_ (some 34) rfl rfl Try.func24 (by kernel_rfl) rfl #[.int .i64 x8_1, .int .i64 (Int.tmod a1 1000), .int .i64 (wrap64 (1 + (Int.tmod (wrap64 (a2)) 64)))] rfl (by (try simp only [List.map_toArray, List.map_cons, List.map_nil]); first | done | rfl | (simp only [List.length_drop, List.length_take]; rfl)) ?_; (with_reducible refine (num_Toward.calls kj4 x8_1 (Int.tmod a1 1000) (wrap64 (1 + (Int.tmod (wrap64 (a2)) 64))) t110 _ A8.out).mono ?_); rintro e w' ⟨rfl, ⟨nd, rfl⟩⟩; refine ⟨_, rfl, ?_⟩))
                          go_ret
                          exact ⟨by first | rfl | (simp; done) | (simp [*]; done), by repeat (first | exact Drawn0.refl _ | apply Drawn0.step)⟩
                      · rw [if_neg c15] at H
                        have c15b0 : decide (t110 < x8_1) = false := decide_eq_false c15
                        clear c15
                        by_cases c18 : ((wrap64 (x8_1 - t110)) ≤ (wrap64 (1 + (Int.tmod (wrap64 (a2)) 64))))
                        · rw [if_pos c18] at H
                          have c18b0 : decide ((wrap64 (x8_1 - t110)) ≤ (wrap64 (1 + (Int.tmod (wrap64 (a2)) 64)))) = true := decide_eq_true c18
                          clear c18
                          obtain rfl := Option.some.inj H
                          go_wp2_with (first | ((with_reducible refine gate_callee (f := 24) rfl ?_); refine goesL_ (some 34) rfl rfl Try.func24 (by kernel_rfl) rfl #[.int .i64 x8_1, .int .i64 (Int.tmod a1 1000), .int .i64 (wrap64 (1 + (Int.tmod (wrap64 (a2)) 64)))] rfl (by (try simp only [List.map_toArray, List.map_cons, List.map_nil]); first | done | rfl | (simp only [List.length_drop, List.length_take]; rfl)) ?_; (with_reducible refine (num_Toward.calls kj4 x8_1 (Int.tmod a1 1000) (wrap64 (1 + (Int.tmod (wrap64 (a2)) 64))) t110 _ A8.out).mono ?_); rintro e w' ⟨rfl, ⟨nd, rfl⟩⟩; refine ⟨_, rfl, ?_⟩))
                          go_ret
                          exact ⟨by first | rfl | (simp; done) | (simp [*]; done), by repeat (first | exact Drawn0.refl _ | apply Drawn0.step)⟩
                        · rw [if_neg c18] at H
                          have c18b0 : decide ((wrap64 (x8_1 - t110)) ≤ (wrap64 (1 + (Int.tmod (wrap64 (a2)) 64)))) = false := decide_eq_false c18
                          clear c18
                          obtain rfl := Option.some.inj H
                          go_wp2_with (first | ((with_reducible refine gate_callee (f := 24) rfl ?_); refine goesL_ (some 34) rfl rfl Try.func24 (by kernel_rfl) rfl #[.int .i64 x8_1, .int .i64 (Int.tmod a1 1000), .int .i64 (wrap64 (1 + (Int.tmod (wrap64 (a2)) 64)))] rfl (by (try simp only [List.map_toArray, List.map_cons, List.map_nil]); first | done | rfl | (simp only [List.length_drop, List.length_take]; rfl)) ?_; (with_reducible refine (num_Toward.calls kj4 x8_1 (Int.tmod a1 1000) (wrap64 (1 + (Int.tmod (wrap64 (a2)) 64))) t110 _ A8.out).mono ?_); rintro e w' ⟨rfl, ⟨nd, rfl⟩⟩; refine ⟨_, rfl, ?_⟩))
                          go_ret
                          exact ⟨by first | rfl | (simp; done) | (simp [*]; done), by repeat (first | exact Drawn0.refl _ | apply Drawn0.step)⟩
                    · rw [if_neg c14] at H
                      have c14b0 : decide ((Int.tmod a1 1000) < x8_1) = false := decide_eq_false c14
                      clear c14
                      by_cases c19 : ((wrap64 (x8_1 - t110)) ≤ (wrap64 (1 + (Int.tmod (wrap64 (a2)) 64))))
                      · rw [if_pos c19] at H
                        have c19b0 : decide ((wrap64 (x8_1 - t110)) ≤ (wrap64 (1 + (Int.tmod (wrap64 (a2)) 64)))) = true := decide_eq_true c19
                        clear c19
                        obtain rfl := Option.some.inj H
                        go_wp2_with (first | ((with_reducible refine gate_callee (f := 24) rfl ?_); refine goesL_ (some 34) rfl rfl Try.func24 (by kernel_rfl) rfl #[.int .i64 x8_1, .int .i64 (Int.tmod a1 1000), .int .i64 (wrap64 (1 + (Int.tmod (wrap64 (a2)) 64)))] rfl (by (try simp only [List.map_toArray, List.map_cons, List.map_nil]); first | done | rfl | (simp only [List.length_drop, List.length_take]; rfl)) ?_; (with_reducible refine (num_Toward.calls kj4 x8_1 (Int.tmod a1 1000) (wrap64 (1 + (Int.tmod (wrap64 (a2)) 64))) t110 _ A8.out).mono ?_); rintro e w' ⟨rfl, ⟨nd, rfl⟩⟩; refine ⟨_, rfl, ?_⟩))
                        go_ret
                        exact ⟨by first | rfl | (simp; done) | (simp [*]; done), by repeat (first | exact Drawn0.refl _ | apply Drawn0.step)⟩
                      · rw [if_neg c19] at H
                        have c19b0 : decide ((wrap64 (x8_1 - t110)) ≤ (wrap64 (1 + (Int.tmod (wrap64 (a2)) 64)))) = false := decide_eq_false c19
                        clear c19
                        obtain rfl := Option.some.inj H
                        go_wp2_with (first | ((with_reducible refine gate_callee (f := 24) rfl ?_); refine goesL_ (some 34) rfl rfl Try.func24 (by kernel_rfl) rfl #[.int .i64 x8_1, .int .i64 (Int.tmod a1 1000), .int .i64 (wrap64 (1 + (Int.tmod (wrap64 (a2)) 64)))] rfl (by (try simp only [List.map_toArray, List.map_cons, List.map_nil]); first | done | rfl | (simp only [List.length_drop, List.length_take]; rfl)) ?_; (with_reducible refine (num_Toward.calls kj4 x8_1 (Int.tmod a1 1000) (wrap64 (1 + (Int.tmod (wrap64 (a2)) 64))) t110 _ A8.out).mono ?_); rintro e w' ⟨rfl, ⟨nd, rfl⟩⟩; refine ⟨_, rfl, ?_⟩))
                        go_ret
                        exact ⟨by first | rfl | (simp; done) | (simp [*]; done), by repeat (first | exact Drawn0.refl _ | apply Drawn0.step)⟩
                · rw [if_neg c11] at H
                  have c11b0 : decide (x8_1 < t110) = false := decide_eq_false c11
                  clear c11
                  by_cases c20 : x8_1 > (Int.tmod a1 1000)
                  · rw [if_pos c20] at H
                    have c20b0 : decide ((Int.tmod a1 1000) < x8_1) = true := decide_eq_true c20
                    clear c20
                    by_cases c21 : t110 < x8_1
                    · rw [if_pos c21] at H
                      have c21b0 : decide (t110 < x8_1) = true := decide_eq_true c21
                      clear c21
                      by_cases c22 : ((wrap64 (x8_1 - t110)) ≤ (wrap64 (1 + (Int.tmod (wrap64 (a2)) 64))))
                      · rw [if_pos c22] at H
                        have c22b0 : decide ((wrap64 (x8_1 - t110)) ≤ (wrap64 (1 + (Int.tmod (wrap64 (a2)) 64)))) = true := decide_eq_true c22
                        clear c22
                        by_cases c23 : t110 ≥ (Int.tmod a1 1000)
                        · rw [if_pos c23] at H
                          have c23b0 : decide ((Int.tmod a1 1000) ≤ t110) = true := decide_eq_true c23
                          clear c23
                          have H' := Aside0.mk H
                          clear H
                          go_wp2_with (first | ((with_reducible refine gate_callee (f := 24) rfl ?_); refine goesL_ (some 34) rfl rfl Try.func24 (by kernel_rfl) rfl #[.int .i64 x8_1, .int .i64 (Int.tmod a1 1000), .int .i64 (wrap64 (1 + (Int.tmod (wrap64 (a2)) 64)))] rfl (by (try simp only [List.map_toArray, List.map_cons, List.map_nil]); first | done | rfl | (simp only [List.length_drop, List.length_take]; rfl)) ?_; (with_reducible refine (num_Toward.calls kj4 x8_1 (Int.tmod a1 1000) (wrap64 (1 + (Int.tmod (wrap64 (a2)) 64))) t110 _ A8.out).mono ?_); rintro e w' ⟨rfl, ⟨nd, rfl⟩⟩; refine ⟨_, rfl, ?_⟩))
                          go_roundg kj4
                          case measure => have := HK1.out; have := HJ4.out; omega
                          case rel => exact ⟨(t110), (wrap64 (x11_1 + 1)), (by first | rfl | (simp; done) | (simp [*]; done)), (by first | rfl | (simp; done) | (simp [*]; done)), H', ⟨by have := HK1.out; have := HJ4.out; omega⟩, by repeat (first | exact Drawn0.refl _ | apply Drawn0.step)⟩
                        · rw [if_neg c23] at H
                          have c23b0 : decide ((Int.tmod a1 1000) ≤ t110) = false := decide_eq_false c23
                          clear c23
                          obtain rfl := Option.some.inj H
                          go_wp2_with (first | ((with_reducible refine gate_callee (f := 24) rfl ?_); refine goesL_ (some 34) rfl rfl Try.func24 (by kernel_rfl) rfl #[.int .i64 x8_1, .int .i64 (Int.tmod a1 1000), .int .i64 (wrap64 (1 + (Int.tmod (wrap64 (a2)) 64)))] rfl (by (try simp only [List.map_toArray, List.map_cons, List.map_nil]); first | done | rfl | (simp only [List.length_drop, List.length_take]; rfl)) ?_; (with_reducible refine (num_Toward.calls kj4 x8_1 (Int.tmod a1 1000) (wrap64 (1 + (Int.tmod (wrap64 (a2)) 64))) t110 _ A8.out).mono ?_); rintro e w' ⟨rfl, ⟨nd, rfl⟩⟩; refine ⟨_, rfl, ?_⟩))
                          go_ret
                          exact ⟨by first | rfl | (simp; done) | (simp [*]; done), by repeat (first | exact Drawn0.refl _ | apply Drawn0.step)⟩
                      · rw [if_neg c22] at H
                        have c22b0 : decide ((wrap64 (x8_1 - t110)) ≤ (wrap64 (1 + (Int.tmod (wrap64 (a2)) 64)))) = false := decide_eq_false c22
                        clear c22
                        obtain rfl := Option.some.inj H
                        go_wp2_with (first | ((with_reducible refine gate_callee (f := 24) rfl ?_); refine goesL_ (some 34) rfl rfl Try.func24 (by kernel_rfl) rfl #[.int .i64 x8_1, .int .i64 (Int.tmod a1 1000), .int .i64 (wrap64 (1 + (Int.tmod (wrap64 (a2)) 64)))] rfl (by (try simp only [List.map_toArray, List.map_cons, List.map_nil]); first | done | rfl | (simp only [List.length_drop, List.length_take]; rfl)) ?_; (with_reducible refine (num_Toward.calls kj4 x8_1 (Int.tmod a1 1000) (wrap64 (1 + (Int.tmod (wrap64 (a2)) 64))) t110 _ A8.out).mono ?_); rintro e w' ⟨rfl, ⟨nd, rfl⟩⟩; refine ⟨_, rfl, ?_⟩))
                        go_ret
                        exact ⟨by first | rfl | (simp; done) | (simp [*]; done), by repeat (first | exact Drawn0.refl _ | apply Drawn0.step)⟩
                    · rw [if_neg c21] at H
                      have c21b0 : decide (t110 < x8_1) = false := decide_eq_false c21
                      clear c21
                      by_cases c24 : ((wrap64 (x8_1 - t110)) ≤ (wrap64 (1 + (Int.tmod (wrap64 (a2)) 64))))
                      · rw [if_pos c24] at H
                        have c24b0 : decide ((wrap64 (x8_1 - t110)) ≤ (wrap64 (1 + (Int.tmod (wrap64 (a2)) 64)))) = true := decide_eq_true c24
                        clear c24
                        obtain rfl := Option.some.inj H
                        go_wp2_with (first | ((with_reducible refine gate_callee (f := 24) rfl ?_); refine goesL_ (some 34) rfl rfl Try.func24 (by kernel_rfl) rfl #[.int .i64 x8_1, .int .i64 (Int.tmod a1 1000), .int .i64 (wrap64 (1 + (Int.tmod (wrap64 (a2)) 64)))] rfl (by (try simp only [List.map_toArray, List.map_cons, List.map_nil]); first | done | rfl | (simp only [List.length_drop, List.length_take]; rfl)) ?_; (with_reducible refine (num_Toward.calls kj4 x8_1 (Int.tmod a1 1000) (wrap64 (1 + (Int.tmod (wrap64 (a2)) 64))) t110 _ A8.out).mono ?_); rintro e w' ⟨rfl, ⟨nd, rfl⟩⟩; refine ⟨_, rfl, ?_⟩))
                        go_ret
                        exact ⟨by first | rfl | (simp; done) | (simp [*]; done), by repeat (first | exact Drawn0.refl _ | apply Drawn0.step)⟩
                      · rw [if_neg c24] at H
                        have c24b0 : decide ((wrap64 (x8_1 - t110)) ≤ (wrap64 (1 + (Int.tmod (wrap64 (a2)) 64)))) = false := decide_eq_false c24
                        clear c24
                        obtain rfl := Option.some.inj H
                        go_wp2_with (first | ((with_reducible refine gate_callee (f := 24) rfl ?_); refine goesL_ (some 34) rfl rfl Try.func24 (by kernel_rfl) rfl #[.int .i64 x8_1, .int .i64 (Int.tmod a1 1000), .int .i64 (wrap64 (1 + (Int.tmod (wrap64 (a2)) 64)))] rfl (by (try simp only [List.map_toArray, List.map_cons, List.map_nil]); first | done | rfl | (simp only [List.length_drop, List.length_take]; rfl)) ?_; (with_reducible refine (num_Toward.calls kj4 x8_1 (Int.tmod a1 1000) (wrap64 (1 + (Int.tmod (wrap64 (a2)) 64))) t110 _ A8.out).mono ?_); rintro e w' ⟨rfl, ⟨nd, rfl⟩⟩; refine ⟨_, rfl, ?_⟩))
                        go_ret
                        exact ⟨by first | rfl | (simp; done) | (simp [*]; done), by repeat (first | exact Drawn0.refl _ | apply Drawn0.step)⟩
                  · rw [if_neg c20] at H
                    have c20b0 : decide ((Int.tmod a1 1000) < x8_1) = false := decide_eq_false c20
                    clear c20
                    by_cases c25 : ((wrap64 (x8_1 - t110)) ≤ (wrap64 (1 + (Int.tmod (wrap64 (a2)) 64))))
                    · rw [if_pos c25] at H
                      have c25b0 : decide ((wrap64 (x8_1 - t110)) ≤ (wrap64 (1 + (Int.tmod (wrap64 (a2)) 64)))) = true := decide_eq_true c25
                      clear c25
                      obtain rfl := Option.some.inj H
                      go_wp2_with (first | ((with_reducible refine gate_callee (f := 24) rfl ?_); refine goesL_ (some 34) rfl rfl Try.func24 (by kernel_rfl) rfl #[.int .i64 x8_1, .int .i64 (Int.tmod a1 1000), .int .i64 (wrap64 (1 + (Int.tmod (wrap64 (a2)) 64)))] rfl (by (try simp only [List.map_toArray, List.map_cons, List.map_nil]); first | done | rfl | (simp only [List.length_drop, List.length_take]; rfl)) ?_; (with_reducible refine (num_Toward.calls kj4 x8_1 (Int.tmod a1 1000) (wrap64 (1 + (Int.tmod (wrap64 (a2)) 64))) t110 _ A8.out).mono ?_); rintro e w' ⟨rfl, ⟨nd, rfl⟩⟩; refine ⟨_, rfl, ?_⟩))
                      go_ret
                      exact ⟨by first | rfl | (simp; done) | (simp [*]; done), by repeat (first | exact Drawn0.refl _ | apply Drawn0.step)⟩
                    · rw [if_neg c25] at H
                      have c25b0 : decide ((wrap64 (x8_1 - t110)) ≤ (wrap64 (1 + (Int.tmod (wrap64 (a2)) 64)))) = false := decide_eq_false c25
                      clear c25
                      obtain rfl := Option.some.inj H
                      go_wp2_with (first | ((with_reducible refine gate_callee (f := 24) rfl ?_); refine goesL_ (some 34) rfl rfl Try.func24 (by kernel_rfl) rfl #[.int .i64 x8_1, .int .i64 (Int.tmod a1 1000), .int .i64 (wrap64 (1 + (Int.tmod (wrap64 (a2)) 64)))] rfl (by (try simp only [List.map_toArray, List.map_cons, List.map_nil]); first | done | rfl | (simp only [List.length_drop, List.length_take]; rfl)) ?_; (with_reducible refine (num_Toward.calls kj4 x8_1 (Int.tmod a1 1000) (wrap64 (1 + (Int.tmod (wrap64 (a2)) 64))) t110 _ A8.out).mono ?_); rintro e w' ⟨rfl, ⟨nd, rfl⟩⟩; refine ⟨_, rfl, ?_⟩))
                      go_ret
                      exact ⟨by first | rfl | (simp; done) | (simp [*]; done), by repeat (first | exact Drawn0.refl _ | apply Drawn0.step)⟩
              · rw [if_neg c10] at H
                have c10b0 : decide (x8_1 < (Int.tmod a1 1000)) = false := decide_eq_false c10
                clear c10
                by_cases c26 : x8_1 > (Int.tmod a1 1000)
                · rw [if_pos c26] at H
                  have c26b0 : decide ((Int.tmod a1 1000) < x8_1) = true := decide_eq_true c26
                  clear c26
                  by_cases c27 : t110 < x8_1
                  · rw [if_pos c27] at H
                    have c27b0 : decide (t110 < x8_1) = true := decide_eq_true c27
                    clear c27
                    by_cases c28 : ((wrap64 (x8_1 - t110)) ≤ (wrap64 (1 + (Int.tmod (wrap64 (a2)) 64))))
                    · rw [if_pos c28] at H
                      have c28b0 : decide ((wrap64 (x8_1 - t110)) ≤ (wrap64 (1 + (Int.tmod (wrap64 (a2)) 64)))) = true := decide_eq_true c28
                      clear c28
                      by_cases c29 : t110 ≥ (Int.tmod a1 1000)
                      · rw [if_pos c29] at H
                        have c29b0 : decide ((Int.tmod a1 1000) ≤ t110) = true := decide_eq_true c29
                        clear c29
                        have H' := Aside0.mk H
                        clear H
                        go_wp2_with (first | ((with_reducible refine gate_callee (f := 24) rfl ?_); refine goesL_ (some 34) rfl rfl Try.func24 (by kernel_rfl) rfl #[.int .i64 x8_1, .int .i64 (Int.tmod a1 1000), .int .i64 (wrap64 (1 + (Int.tmod (wrap64 (a2)) 64)))] rfl (by (try simp only [List.map_toArray, List.map_cons, List.map_nil]); first | done | rfl | (simp only [List.length_drop, List.length_take]; rfl)) ?_; (with_reducible refine (num_Toward.calls kj4 x8_1 (Int.tmod a1 1000) (wrap64 (1 + (Int.tmod (wrap64 (a2)) 64))) t110 _ A8.out).mono ?_); rintro e w' ⟨rfl, ⟨nd, rfl⟩⟩; refine ⟨_, rfl, ?_⟩))
                        go_roundg kj4
                        case measure => have := HK1.out; have := HJ4.out; omega
                        case rel => exact ⟨(t110), (wrap64 (x11_1 + 1)), (by first | rfl | (simp; done) | (simp [*]; done)), (by first | rfl | (simp; done) | (simp [*]; done)), H', ⟨by have := HK1.out; have := HJ4.out; omega⟩, by repeat (first | exact Drawn0.refl _ | apply Drawn0.step)⟩
                      · rw [if_neg c29] at H
                        have c29b0 : decide ((Int.tmod a1 1000) ≤ t110) = false := decide_eq_false c29
                        clear c29
                        obtain rfl := Option.some.inj H
                        go_wp2_with (first | ((with_reducible refine gate_callee (f := 24) rfl ?_); refine goesL_ (some 34) rfl rfl Try.func24 (by kernel_rfl) rfl #[.int .i64 x8_1, .int .i64 (Int.tmod a1 1000), .int .i64 (wrap64 (1 + (Int.tmod (wrap64 (a2)) 64)))] rfl (by (try simp only [List.map_toArray, List.map_cons, List.map_nil]); first | done | rfl | (simp only [List.length_drop, List.length_take]; rfl)) ?_; (with_reducible refine (num_Toward.calls kj4 x8_1 (Int.tmod a1 1000) (wrap64 (1 + (Int.tmod (wrap64 (a2)) 64))) t110 _ A8.out).mono ?_); rintro e w' ⟨rfl, ⟨nd, rfl⟩⟩; refine ⟨_, rfl, ?_⟩))
                        go_ret
                        exact ⟨by first | rfl | (simp; done) | (simp [*]; done), by repeat (first | exact Drawn0.refl _ | apply Drawn0.step)⟩
                    · rw [if_neg c28] at H
                      have c28b0 : decide ((wrap64 (x8_1 - t110)) ≤ (wrap64 (1 + (Int.tmod (wrap64 (a2)) 64)))) = false := decide_eq_false c28
                      clear c28
                      obtain rfl := Option.some.inj H
                      go_wp2_with (first | ((with_reducible refine gate_callee (f := 24) rfl ?_); refine goesL_ (some 34) rfl rfl Try.func24 (by kernel_rfl) rfl #[.int .i64 x8_1, .int .i64 (Int.tmod a1 1000), .int .i64 (wrap64 (1 + (Int.tmod (wrap64 (a2)) 64)))] rfl (by (try simp only [List.map_toArray, List.map_cons, List.map_nil]); first | done | rfl | (simp only [List.length_drop, List.length_take]; rfl)) ?_; (with_reducible refine (num_Toward.calls kj4 x8_1 (Int.tmod a1 1000) (wrap64 (1 + (Int.tmod (wrap64 (a2)) 64))) t110 _ A8.out).mono ?_); rintro e w' ⟨rfl, ⟨nd, rfl⟩⟩; refine ⟨_, rfl, ?_⟩))
                      go_ret
                      exact ⟨by first | rfl | (simp; done) | (simp [*]; done), by repeat (first | exact Drawn0.refl _ | apply Drawn0.step)⟩
                  · rw [if_neg c27] at H
                    have c27b0 : decide (t110 < x8_1) = false := decide_eq_false c27
                    clear c27
                    by_cases c30 : ((wrap64 (x8_1 - t110)) ≤ (wrap64 (1 + (Int.tmod (wrap64 (a2)) 64))))
                    · rw [if_pos c30] at H
                      have c30b0 : decide ((wrap64 (x8_1 - t110)) ≤ (wrap64 (1 + (Int.tmod (wrap64 (a2)) 64)))) = true := decide_eq_true c30
                      clear c30
                      obtain rfl := Option.some.inj H
                      go_wp2_with (first | ((with_reducible refine gate_callee (f := 24) rfl ?_); refine goesL_ (some 34) rfl rfl Try.func24 (by kernel_rfl) rfl #[.int .i64 x8_1, .int .i64 (Int.tmod a1 1000), .int .i64 (wrap64 (1 + (Int.tmod (wrap64 (a2)) 64)))] rfl (by (try simp only [List.map_toArray, List.map_cons, List.map_nil]); first | done | rfl | (simp only [List.length_drop, List.length_take]; rfl)) ?_; (with_reducible refine (num_Toward.calls kj4 x8_1 (Int.tmod a1 1000) (wrap64 (1 + (Int.tmod (wrap64 (a2)) 64))) t110 _ A8.out).mono ?_); rintro e w' ⟨rfl, ⟨nd, rfl⟩⟩; refine ⟨_, rfl, ?_⟩))
                      go_ret
                      exact ⟨by first | rfl | (simp; done) | (simp [*]; done), by repeat (first | exact Drawn0.refl _ | apply Drawn0.step)⟩
                    · rw [if_neg c30] at H
                      have c30b0 : decide ((wrap64 (x8_1 - t110)) ≤ (wrap64 (1 + (Int.tmod (wrap64 (a2)) 64)))) = false := decide_eq_false c30
                      clear c30
                      obtain rfl := Option.some.inj H
                      go_wp2_with (first | ((with_reducible refine gate_callee (f := 24) rfl ?_); refine goesL_ (some 34) rfl rfl Try.func24 (by kernel_rfl) rfl #[.int .i64 x8_1, .int .i64 (Int.tmod a1 1000), .int .i64 (wrap64 (1 + (Int.tmod (wrap64 (a2)) 64)))] rfl (by (try simp only [List.map_toArray, List.map_cons, List.map_nil]); first | done | rfl | (simp only [List.length_drop, List.length_take]; rfl)) ?_; (with_reducible refine (num_Toward.calls kj4 x8_1 (Int.tmod a1 1000) (wrap64 (1 + (Int.tmod (wrap64 (a2)) 64))) t110 _ A8.out).mono ?_); rintro e w' ⟨rfl, ⟨nd, rfl⟩⟩; refine ⟨_, rfl, ?_⟩))
                      go_ret
                      exact ⟨by first | rfl | (simp; done) | (simp [*]; done), by repeat (first | exact Drawn0.refl _ | apply Drawn0.step)⟩
                · rw [if_neg c26] at H
                  have c26b0 : decide ((Int.tmod a1 1000) < x8_1) = false := decide_eq_false c26
                  clear c26
                  by_cases c31 : ((wrap64 (x8_1 - t110)) ≤ (wrap64 (1 + (Int.tmod (wrap64 (a2)) 64))))
                  · rw [if_pos c31] at H
                    have c31b0 : decide ((wrap64 (x8_1 - t110)) ≤ (wrap64 (1 + (Int.tmod (wrap64 (a2)) 64)))) = true := decide_eq_true c31
                    clear c31
                    obtain rfl := Option.some.inj H
                    go_wp2_with (first | ((with_reducible refine gate_callee (f := 24) rfl ?_); refine goesL_ (some 34) rfl rfl Try.func24 (by kernel_rfl) rfl #[.int .i64 x8_1, .int .i64 (Int.tmod a1 1000), .int .i64 (wrap64 (1 + (Int.tmod (wrap64 (a2)) 64)))] rfl (by (try simp only [List.map_toArray, List.map_cons, List.map_nil]); first | done | rfl | (simp only [List.length_drop, List.length_take]; rfl)) ?_; (with_reducible refine (num_Toward.calls kj4 x8_1 (Int.tmod a1 1000) (wrap64 (1 + (Int.tmod (wrap64 (a2)) 64))) t110 _ A8.out).mono ?_); rintro e w' ⟨rfl, ⟨nd, rfl⟩⟩; refine ⟨_, rfl, ?_⟩))
                    go_ret
                    exact ⟨by first | rfl | (simp; done) | (simp [*]; done), by repeat (first | exact Drawn0.refl _ | apply Drawn0.step)⟩
                  · rw [if_neg c31] at H
                    have c31b0 : decide ((wrap64 (x8_1 - t110)) ≤ (wrap64 (1 + (Int.tmod (wrap64 (a2)) 64)))) = false := decide_eq_false c31
                    clear c31
                    obtain rfl := Option.some.inj H
                    go_wp2_with (first | ((with_reducible refine gate_callee (f := 24) rfl ?_); refine goesL_ (some 34) rfl rfl Try.func24 (by kernel_rfl) rfl #[.int .i64 x8_1, .int .i64 (Int.tmod a1 1000), .int .i64 (wrap64 (1 + (Int.tmod (wrap64 (a2)) 64)))] rfl (by (try simp only [List.map_toArray, List.map_cons, List.map_nil]); first | done | rfl | (simp only [List.length_drop, List.length_take]; rfl)) ?_; (with_reducible refine (num_Toward.calls kj4 x8_1 (Int.tmod a1 1000) (wrap64 (1 + (Int.tmod (wrap64 (a2)) 64))) t110 _ A8.out).mono ?_); rintro e w' ⟨rfl, ⟨nd, rfl⟩⟩; refine ⟨_, rfl, ?_⟩))
                    go_ret
                    exact ⟨by first | rfl | (simp; done) | (simp [*]; done), by repeat (first | exact Drawn0.refl _ | apply Drawn0.step)⟩
            · rw [if_neg c9] at H
              have c9b0 : decide ((wrap64 (t110 - x8_1)) ≤ (wrap64 (1 + (Int.tmod (wrap64 (a2)) 64)))) = false := decide_eq_false c9
              clear c9
              by_cases c32 : x8_1 < (Int.tmod a1 1000)
              · rw [if_pos c32] at H
                have c32b0 : decide (x8_1 < (Int.tmod a1 1000)) = true := decide_eq_true c32
                clear c32
                by_cases c33 : t110 > x8_1
                · rw [if_pos c33] at H
                  have c33b0 : decide (x8_1 < t110) = true := decide_eq_true c33
                  clear c33
                  by_cases c34 : t110 ≤ (Int.tmod a1 1000)
                  · rw [if_pos c34] at H
                    have c34b0 : decide (t110 ≤ (Int.tmod a1 1000)) = true := decide_eq_true c34
                    clear c34
                    obtain rfl := Option.some.inj H
                    go_wp2_with (first | ((with_reducible refine gate_callee (f := 24) rfl ?_); refine goesL_ (some 34) rfl rfl Try.func24 (by kernel_rfl) rfl #[.int .i64 x8_1, .int .i64 (Int.tmod a1 1000), .int .i64 (wrap64 (1 + (Int.tmod (wrap64 (a2)) 64)))] rfl (by (try simp only [List.map_toArray, List.map_cons, List.map_nil]); first | done | rfl | (simp only [List.length_drop, List.length_take]; rfl)) ?_; (with_reducible refine (num_Toward.calls kj4 x8_1 (Int.tmod a1 1000) (wrap64 (1 + (Int.tmod (wrap64 (a2)) 64))) t110 _ A8.out).mono ?_); rintro e w' ⟨rfl, ⟨nd, rfl⟩⟩; refine ⟨_, rfl, ?_⟩))
                    go_ret
                    exact ⟨by first | rfl | (simp; done) | (simp [*]; done), by repeat (first | exact Drawn0.refl _ | apply Drawn0.step)⟩
                  · rw [if_neg c34] at H
                    have c34b0 : decide (t110 ≤ (Int.tmod a1 1000)) = false := decide_eq_false c34
                    clear c34
                    by_cases c35 : x8_1 > (Int.tmod a1 1000)
                    · rw [if_pos c35] at H
                      have c35b0 : decide ((Int.tmod a1 1000) < x8_1) = true := decide_eq_true c35
                      clear c35
                      by_cases c36 : t110 < x8_1
                      · rw [if_pos c36] at H
                        have c36b0 : decide (t110 < x8_1) = true := decide_eq_true c36
                        clear c36
                        obtain rfl := Option.some.inj H
                        go_wp2_with (first | ((with_reducible refine gate_callee (f := 24) rfl ?_); refine goesL_ (some 34) rfl rfl Try.func24 (by kernel_rfl) rfl #[.int .i64 x8_1, .int .i64 (Int.tmod a1 1000), .int .i64 (wrap64 (1 + (Int.tmod (wrap64 (a2)) 64)))] rfl (by (try simp only [List.map_toArray, List.map_cons, List.map_nil]); first | done | rfl | (simp only [List.length_drop, List.length_take]; rfl)) ?_; (with_reducible refine (num_Toward.calls kj4 x8_1 (Int.tmod a1 1000) (wrap64 (1 + (Int.tmod (wrap64 (a2)) 64))) t110 _ A8.out).mono ?_); rintro e w' ⟨rfl, ⟨nd, rfl⟩⟩; refine ⟨_, rfl, ?_⟩))
                        go_ret
                        exact ⟨by first | rfl | (simp; done) | (simp [*]; done), by repeat (first | exact Drawn0.refl _ | apply Drawn0.step)⟩
                      · rw [if_neg c36] at H
                        have c36b0 : decide (t110 < x8_1) = false := decide_eq_false c36
                        clear c36
                        obtain rfl := Option.some.inj H
                        go_wp2_with (first | ((with_reducible refine gate_callee (f := 24) rfl ?_); refine goesL_ (some 34) rfl rfl Try.func24 (by kernel_rfl) rfl #[.int .i64 x8_1, .int .i64 (Int.tmod a1 1000), .int .i64 (wrap64 (1 + (Int.tmod (wrap64 (a2)) 64)))] rfl (by (try simp only [List.map_toArray, List.map_cons, List.map_nil]); first | done | rfl | (simp only [List.length_drop, List.length_take]; rfl)) ?_; (with_reducible refine (num_Toward.calls kj4 x8_1 (Int.tmod a1 1000) (wrap64 (1 + (Int.tmod (wrap64 (a2)) 64))) t110 _ A8.out).mono ?_); rintro e w' ⟨rfl, ⟨nd, rfl⟩⟩; refine ⟨_, rfl, ?_⟩))
                        go_ret
                        exact ⟨by first | rfl | (simp; done) | (simp [*]; done), by repeat (first | exact Drawn0.refl _ | apply Drawn0.step)⟩
                    · rw [if_neg c35] at H
                      have c35b0 : decide ((Int.tmod a1 1000) < x8_1) = false := decide_eq_false c35
                      clear c35
                      obtain rfl := Option.some.inj H
                      go_wp2_with (first | ((with_reducible refine gate_callee (f := 24) rfl ?_); refine goesL_ (some 34) rfl rfl Try.func24 (by kernel_rfl) rfl #[.int .i64 x8_1, .int .i64 (Int.tmod a1 1000), .int .i64 (wrap64 (1 + (Int.tmod (wrap64 (a2)) 64)))] rfl (by (try simp only [List.map_toArray, List.map_cons, List.map_nil]); first | done | rfl | (simp only [List.length_drop, List.length_take]; rfl)) ?_; (with_reducible refine (num_Toward.calls kj4 x8_1 (Int.tmod a1 1000) (wrap64 (1 + (Int.tmod (wrap64 (a2)) 64))) t110 _ A8.out).mono ?_); rintro e w' ⟨rfl, ⟨nd, rfl⟩⟩; refine ⟨_, rfl, ?_⟩))
                      go_ret
                      exact ⟨by first | rfl | (simp; done) | (simp [*]; done), by repeat (first | exact Drawn0.refl _ | apply Drawn0.step)⟩
                · rw [if_neg c33] at H
                  have c33b0 : decide (x8_1 < t110) = false := decide_eq_false c33
                  clear c33
                  by_cases c37 : x8_1 > (Int.tmod a1 1000)
                  · rw [if_pos c37] at H
                    have c37b0 : decide ((Int.tmod a1 1000) < x8_1) = true := decide_eq_true c37
                    clear c37
                    by_cases c38 : t110 < x8_1
                    · rw [if_pos c38] at H
                      have c38b0 : decide (t110 < x8_1) = true := decide_eq_true c38
                      clear c38
                      obtain rfl := Option.some.inj H
                      go_wp2_with (first | ((with_reducible refine gate_callee (f := 24) rfl ?_); refine goesL_ (some 34) rfl rfl Try.func24 (by kernel_rfl) rfl #[.int .i64 x8_1, .int .i64 (Int.tmod a1 1000), .int .i64 (wrap64 (1 + (Int.tmod (wrap64 (a2)) 64)))] rfl (by (try simp only [List.map_toArray, List.map_cons, List.map_nil]); first | done | rfl | (simp only [List.length_drop, List.length_take]; rfl)) ?_; (with_reducible refine (num_Toward.calls kj4 x8_1 (Int.tmod a1 1000) (wrap64 (1 + (Int.tmod (wrap64 (a2)) 64))) t110 _ A8.out).mono ?_); rintro e w' ⟨rfl, ⟨nd, rfl⟩⟩; refine ⟨_, rfl, ?_⟩))
                      go_ret
                      exact ⟨by first | rfl | (simp; done) | (simp [*]; done), by repeat (first | exact Drawn0.refl _ | apply Drawn0.step)⟩
                    · rw [if_neg c38] at H
                      have c38b0 : decide (t110 < x8_1) = false := decide_eq_false c38
                      clear c38
                      obtain rfl := Option.some.inj H
                      go_wp2_with (first | ((with_reducible refine gate_callee (f := 24) rfl ?_); refine goesL_ (some 34) rfl rfl Try.func24 (by kernel_rfl) rfl #[.int .i64 x8_1, .int .i64 (Int.tmod a1 1000), .int .i64 (wrap64 (1 + (Int.tmod (wrap64 (a2)) 64)))] rfl (by (try simp only [List.map_toArray, List.map_cons, List.map_nil]); first | done | rfl | (simp only [List.length_drop, List.length_take]; rfl)) ?_; (with_reducible refine (num_Toward.calls kj4 x8_1 (Int.tmod a1 1000) (wrap64 (1 + (Int.tmod (wrap64 (a2)) 64))) t110 _ A8.out).mono ?_); rintro e w' ⟨rfl, ⟨nd, rfl⟩⟩; refine ⟨_, rfl, ?_⟩))
                      go_ret
                      exact ⟨by first | rfl | (simp; done) | (simp [*]; done), by repeat (first | exact Drawn0.refl _ | apply Drawn0.step)⟩
                  · rw [if_neg c37] at H
                    have c37b0 : decide ((Int.tmod a1 1000) < x8_1) = false := decide_eq_false c37
                    clear c37
                    obtain rfl := Option.some.inj H
                    go_wp2_with (first | ((with_reducible refine gate_callee (f := 24) rfl ?_); refine goesL_ (some 34) rfl rfl Try.func24 (by kernel_rfl) rfl #[.int .i64 x8_1, .int .i64 (Int.tmod a1 1000), .int .i64 (wrap64 (1 + (Int.tmod (wrap64 (a2)) 64)))] rfl (by (try simp only [List.map_toArray, List.map_cons, List.map_nil]); first | done | rfl | (simp only [List.length_drop, List.length_take]; rfl)) ?_; (with_reducible refine (num_Toward.calls kj4 x8_1 (Int.tmod a1 1000) (wrap64 (1 + (Int.tmod (wrap64 (a2)) 64))) t110 _ A8.out).mono ?_); rintro e w' ⟨rfl, ⟨nd, rfl⟩⟩; refine ⟨_, rfl, ?_⟩))
                    go_ret
                    exact ⟨by first | rfl | (simp; done) | (simp [*]; done), by repeat (first | exact Drawn0.refl _ | apply Drawn0.step)⟩
              · rw [if_neg c32] at H
                have c32b0 : decide (x8_1 < (Int.tmod a1 1000)) = false := decide_eq_false c32
                clear c32
                by_cases c39 : x8_1 > (Int.tmod a1 1000)
                · rw [if_pos c39] at H
                  have c39b0 : decide ((Int.tmod a1 1000) < x8_1) = true := decide_eq_true c39
                  clear c39
                  by_cases c40 : t110 < x8_1
                  · rw [if_pos c40] at H
                    have c40b0 : decide (t110 < x8_1) = true := decide_eq_true c40
                    clear c40
                    obtain rfl := Option.some.inj H
                    go_wp2_with (first | ((with_reducible refine gate_callee (f := 24) rfl ?_); refine goesL_ (some 34) rfl rfl Try.func24 (by kernel_rfl) rfl #[.int .i64 x8_1, .int .i64 (Int.tmod a1 1000), .int .i64 (wrap64 (1 + (Int.tmod (wrap64 (a2)) 64)))] rfl (by (try simp only [List.map_toArray, List.map_cons, List.map_nil]); first | done | rfl | (simp only [List.length_drop, List.length_take]; rfl)) ?_; (with_reducible refine (num_Toward.calls kj4 x8_1 (Int.tmod a1 1000) (wrap64 (1 + (Int.tmod (wrap64 (a2)) 64))) t110 _ A8.out).mono ?_); rintro e w' ⟨rfl, ⟨nd, rfl⟩⟩; refine ⟨_, rfl, ?_⟩))
                    go_ret
                    exact ⟨by first | rfl | (simp; done) | (simp [*]; done), by repeat (first | exact Drawn0.refl _ | apply Drawn0.step)⟩
                  · rw [if_neg c40] at H
                    have c40b0 : decide (t110 < x8_1) = false := decide_eq_false c40
                    clear c40
                    obtain rfl := Option.some.inj H
                    go_wp2_with (first | ((with_reducible refine gate_callee (f := 24) rfl ?_); refine goesL_ (some 34) rfl rfl Try.func24 (by kernel_rfl) rfl #[.int .i64 x8_1, .int .i64 (Int.tmod a1 1000), .int .i64 (wrap64 (1 + (Int.tmod (wrap64 (a2)) 64)))] rfl (by (try simp only [List.map_toArray, List.map_cons, List.map_nil]); first | done | rfl | (simp only [List.length_drop, List.length_take]; rfl)) ?_; (with_reducible refine (num_Toward.calls kj4 x8_1 (Int.tmod a1 1000) (wrap64 (1 + (Int.tmod (wrap64 (a2)) 64))) t110 _ A8.out).mono ?_); rintro e w' ⟨rfl, ⟨nd, rfl⟩⟩; refine ⟨_, rfl, ?_⟩))
                    go_ret
                    exact ⟨by first | rfl | (simp; done) | (simp [*]; done), by repeat (first | exact Drawn0.refl _ | apply Drawn0.step)⟩
                · rw [if_neg c39] at H
                  have c39b0 : decide ((Int.tmod a1 1000) < x8_1) = false := decide_eq_false c39
                  clear c39
                  obtain rfl := Option.some.inj H
                  go_wp2_with (first | ((with_reducible refine gate_callee (f := 24) rfl ?_); refine goesL_ (some 34) rfl rfl Try.func24 (by kernel_rfl) rfl #[.int .i64 x8_1, .int .i64 (Int.tmod a1 1000), .int .i64 (wrap64 (1 + (Int.tmod (wrap64 (a2)) 64)))] rfl (by (try simp only [List.map_toArray, List.map_cons, List.map_nil]); first | done | rfl | (simp only [List.length_drop, List.length_take]; rfl)) ?_; (with_reducible refine (num_Toward.calls kj4 x8_1 (Int.tmod a1 1000) (wrap64 (1 + (Int.tmod (wrap64 (a2)) 64))) t110 _ A8.out).mono ?_); rintro e w' ⟨rfl, ⟨nd, rfl⟩⟩; refine ⟨_, rfl, ?_⟩))
                  go_ret
                  exact ⟨by first | rfl | (simp; done) | (simp [*]; done), by repeat (first | exact Drawn0.refl _ | apply Drawn0.step)⟩
          · replace c7 := Bool.eq_false_iff.mpr c7
            subst c7
            have H1 : (if t109 = true then (if x8_1 = (Int.tmod a1 1000) then ((num_Toward.f kj4 x8_1 (Int.tmod a1 1000) (wrap64 (1 + (Int.tmod (wrap64 (a2)) 64)))).bind fun t111 => (if t111 = x8_1 then ((num_Toward.f kj4 x8_1 (Int.tmod a1 1000) 0).bind fun t112 => (if t112 = x8_1 then ((num_Toward.f kj4 a0 a1 (wrap64 (-(wrap64 (1 + (Int.tmod (wrap64 (a2)) 64)))))).bind fun t113 => (some (t113 == a0))) else (some false))) else (some false))) else (some false)) else (some false)) = some r := by rw [if_neg (show ¬ (false = true) by decide)] at H; exact H
            clear H
            have H := H1
            clear H1
            by_cases c41 : t109 = true
            · subst c41
              have H1 : (if x8_1 = (Int.tmod a1 1000) then ((num_Toward.f kj4 x8_1 (Int.tmod a1 1000) (wrap64 (1 + (Int.tmod (wrap64 (a2)) 64)))).bind fun t111 => (if t111 = x8_1 then ((num_Toward.f kj4 x8_1 (Int.tmod a1 1000) 0).bind fun t112 => (if t112 = x8_1 then ((num_Toward.f kj4 a0 a1 (wrap64 (-(wrap64 (1 + (Int.tmod (wrap64 (a2)) 64)))))).bind fun t113 => (some (t113 == a0))) else (some false))) else (some false))) else (some false)) = some r := by rw [if_pos rfl] at H; exact H
              clear H
              have H := H1
              clear H1
              by_cases c42 : x8_1 = (Int.tmod a1 1000)
              · rw [if_pos c42] at H
                have c42b0 : (x8_1 == (Int.tmod a1 1000)) = true := beq_iff_eq.mpr c42
                have c42b1 : (x8_1 != (Int.tmod a1 1000)) = false := bne_eq_false_iff_eq.mpr c42
                clear c42
                replace H := Option.bind_eq_some_iff.mp H
                obtain ⟨t111, A430, H⟩ := H
                replace H : (if t111 = x8_1 then ((num_Toward.f kj4 x8_1 (Int.tmod a1 1000) 0).bind fun t112 => (if t112 = x8_1 then ((num_Toward.f kj4 a0 a1 (wrap64 (-(wrap64 (1 + (Int.tmod (wrap64 (a2)) 64)))))).bind fun t113 => (some (t113 == a0))) else (some false))) else (some false)) = some r := H
                have A43 := Aside0.mk A430
                clear A430
                by_cases c44 : t111 = x8_1
                · rw [if_pos c44] at H
                  have c44b0 : (t111 == x8_1) = true := beq_iff_eq.mpr c44
                  have c44b1 : (t111 != x8_1) = false := bne_eq_false_iff_eq.mpr c44
                  clear c44
                  replace H := Option.bind_eq_some_iff.mp H
                  obtain ⟨t112, A450, H⟩ := H
                  replace H : (if t112 = x8_1 then ((num_Toward.f kj4 a0 a1 (wrap64 (-(wrap64 (1 + (Int.tmod (wrap64 (a2)) 64)))))).bind fun t113 => (some (t113 == a0))) else (some false)) = some r := H
                  have A45 := Aside0.mk A450
                  clear A450
                  by_cases c46 : t112 = x8_1
                  · rw [if_pos c46] at H
                    have c46b0 : (t112 == x8_1) = true := beq_iff_eq.mpr c46
                    have c46b1 : (t112 != x8_1) = false := bne_eq_false_iff_eq.mpr c46
                    clear c46
                    replace H := Option.bind_eq_some_iff.mp H
                    obtain ⟨t113, A470, H⟩ := H
                    replace H : (some (t113 == a0)) = some r := H
                    have A47 := Aside0.mk A470
                    clear A470
                    obtain rfl := Option.some.inj H
                    go_wp2_with (first | (go_at_call 24; (with_reducible refine (num_Toward.calls kj4 x8_1 (Int.tmod a1 1000) (wrap64 (1 + (Int.tmod (wrap64 (a2)) 64))) t111 _ A43.out).mono ?_); rintro e w' ⟨rfl, ⟨nd, rfl⟩⟩) | (go_at_call 24; (with_reducible refine (num_Toward.calls kj4 x8_1 (Int.tmod a1 1000) 0 t112 _ A45.out).mono ?_); rintro e w' ⟨rfl, ⟨nd, rfl⟩⟩) | (go_at_call 24; (with_reducible refine (num_Toward.calls kj4 a0 a1 (wrap64 (-(wrap64 (1 + (Int.tmod (wrap64 (a2)) 64))))) t113 _ A47.out).mono ?_); rintro e w' ⟨rfl, ⟨nd, rfl⟩⟩))
                    go_ret
                    exact ⟨by first | rfl | (simp; done) | (simp [*]; done), by repeat (first | exact Drawn0.refl _ | apply Drawn0.step)⟩
                  · rw [if_neg c46] at H
                    have c46b0 : (t112 == x8_1) = false := beq_eq_false_iff_ne.mpr c46
                    have c46b1 : (t112 != x8_1) = true := bne_iff_ne.mpr c46
                    obtain rfl := Option.some.inj H
                    go_wp2_with (first | (go_at_call 24; (with_reducible refine (num_Toward.calls kj4 x8_1 (Int.tmod a1 1000) (wrap64 (1 + (Int.tmod (wrap64 (a2)) 64))) t111 _ A43.out).mono ?_); rintro e w' ⟨rfl, ⟨nd, rfl⟩⟩) | (go_at_call 24; (with_reducible refine (num_Toward.calls kj4 x8_1 (Int.tmod a1 1000) 0 t112 _ A45.out).mono ?_); rintro e w' ⟨rfl, ⟨nd, rfl⟩⟩))
                    go_ret
                    exact ⟨by first | rfl | (simp; done) | (simp [*]; done), by repeat (first | exact Drawn0.refl _ | apply Drawn0.step)⟩
                · rw [if_neg c44] at H
                  have c44b0 : (t111 == x8_1) = false := beq_eq_false_iff_ne.mpr c44
                  have c44b1 : (t111 != x8_1) = true := bne_iff_ne.mpr c44
                  obtain rfl := Option.some.inj H
                  go_wp2_with (first | (go_at_call 24; (with_reducible refine (num_Toward.calls kj4 x8_1 (Int.tmod a1 1000) (wrap64 (1 + (Int.tmod (wrap64 (a2)) 64))) t111 _ A43.out).mono ?_); rintro e w' ⟨rfl, ⟨nd, rfl⟩⟩))
                  go_ret
                  exact ⟨by first | rfl | (simp; done) | (simp [*]; done), by repeat (first | exact Drawn0.refl _ | apply Drawn0.step)⟩
              · rw [if_neg c42] at H
                have c42b0 : (x8_1 == (Int.tmod a1 1000)) = false := beq_eq_false_iff_ne.mpr c42
                have c42b1 : (x8_1 != (Int.tmod a1 1000)) = true := bne_iff_ne.mpr c42
                obtain rfl := Option.some.inj H
                go_wp2
                go_ret
                exact ⟨by first | rfl | (simp; done) | (simp [*]; done), by repeat (first | exact Drawn0.refl _ | apply Drawn0.step)⟩
            · replace c41 := Bool.eq_false_iff.mpr c41
              subst c41
              have H1 : (some false) = some r := by rw [if_neg (show ¬ (false = true) by decide)] at H; exact H
              clear H
              have H := H1
              clear H1
              obtain rfl := Option.some.inj H
              go_wp2
              go_ret
              exact ⟨by first | rfl | (simp; done) | (simp [*]; done), by repeat (first | exact Drawn0.refl _ | apply Drawn0.step)⟩

/-- THE ONE PURE STATEMENT of sidesticklaw01_NumComes: yours. -/
def sidesticklaw01_NumComes.Pure : Prop := ∀ (a0 : Int) (a1 : Int) (a2 : Int), (Lit.int .i64 a0).wf = true → (Lit.int .i64 a1).wf = true → (Lit.int .u8 a2).wf = true → ∃ k, sidesticklaw01_NumComes.f k a0 a1 a2 = some true
theorem sidesticklaw01_NumComes.walk (P : sidesticklaw01_NumComes.Pure) (a0 : Int) (a1 : Int) (a2 : Int) (w : World) (w0 : (Lit.int .i64 a0).wf = true) (w1 : (Lit.int .i64 a1).wf = true) (w2 : (Lit.int .u8 a2).wf = true) :
    Calls Try.prog 6 #[.int .i64 a0, .int .i64 a1, .int .u8 a2] w fun e w' => e = .returned (.bool true) ∧ Below w.heap.size w w' := by
  obtain ⟨k, h⟩ := P a0 a1 a2 w0 w1 w2
  refine (sidesticklaw01_NumComes.calls k a0 a1 a2 true w h).mono ?_
  rintro e w' ⟨rfl, hd⟩
  exact ⟨rfl, hd.below⟩

end Go.Proofs.Ytkglnkfoeedmoaa.PNumComes
