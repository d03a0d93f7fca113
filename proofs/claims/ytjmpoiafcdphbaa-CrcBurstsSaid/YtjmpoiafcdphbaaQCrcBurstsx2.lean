/- The walks of CrcBursts (print.sh wrote the lines, shown is ours). -/
import Derived.Test.YtjmpoiafcdphbaaQCrcBurstsx0
import Derived.Test.YtjmpoiafcdphbaaQCrcBurstsx1
namespace Go.Proofs.Ytjmpoiafcdphbaa.PCrcBursts
open Go.RowKit Go.Proofs.YtjmpoiafcdphbaaW.PrintWords Go.Proofs.YtjmpoiafcdphbaaW.PrintLast Go.Proofs.YtjmpoiafcdphbaaW.PrintMore
attribute [local go_sem] max2_int min2_int max_two min_two max_three min_three max_four min_four   -- for this text's walks alone
set_option linter.unusedVariables false
set_option linter.unusedSimpArgs false

/-! ### sidesticklaw03_CrcBursts: function 5 -/
mutual
def sidesticklaw03_CrcBursts.j0 : Nat → Int → Int → List Int → Bool → Option (Bool)
  | 0, _, _, _, _ => none
  | k + 1, x1, x2, x8, x23 => if x23 = true then (some false) else (if (wrap64 (8 * (x8.length : Int))) = 0 then (none) else (sidesticklaw03_CrcBursts.l0 k x8 (wrap64 (8 * (x8.length : Int))) (Int.tmod (wrap64 ((Int.tmod x1 (wrap64 (8 * (x8.length : Int)))) + (wrap64 (8 * (x8.length : Int))))) (wrap64 (8 * (x8.length : Int)))) (Go.bits .or .u16 x2 32768) 0))
def sidesticklaw03_CrcBursts.l0 : Nat → List Int → Int → Int → Int → Int → Option (Bool)
  | 0, _, _, _, _, _ => none
  | k + 1, x8, x9, x10, x11, x12 => if x12 < 16 then (sidesticklaw03_CrcBursts.j2 k x8 x9 x10 x11 x12 (decide ((wrap64 (x10 + x12)) < x9))) else (sidesticklaw03_CrcBursts.j2 k x8 x9 x10 x11 x12 false)
def sidesticklaw03_CrcBursts.j2 : Nat → List Int → Int → Int → Int → Int → Bool → Option (Bool)
  | 0, _, _, _, _, _, _ => none
  | k + 1, x8, x9, x10, x11, x12, x44 => if x44 = true then (if 0 ≤ (wrap64 (15 - x12)) then (if (Go.bits .and .u16 (shr .u16 x11 (wrap64 (15 - x12))) 1) = 1 then (if 0 ≤ (wrap64 (Int.tdiv (wrap64 (x10 + x12)) 8)) then (if (wrap64 (Int.tdiv (wrap64 (x10 + x12)) 8)) < (x8.length : Int) then (if 0 ≤ (Int.tmod (wrap64 (x10 + x12)) 8) then (sidesticklaw03_CrcBursts.l0 k (x8.set ((wrap64 (Int.tdiv (wrap64 (x10 + x12)) 8)) : Int).toNat (Go.bits .xor .u8 (rd x8 (wrap64 (Int.tdiv (wrap64 (x10 + x12)) 8))) (shr .u8 128 (Int.tmod (wrap64 (x10 + x12)) 8)))) x9 x10 x11 (wrap64 (x12 + 1))) else (none)) else (none)) else (none)) else (sidesticklaw03_CrcBursts.l0 k x8 x9 x10 x11 (wrap64 (x12 + 1)))) else (none)) else ((crc_Sum.f k x8).bind fun t136 => (some (t136 != 0)))
end
def sidesticklaw03_CrcBursts.f (k : Nat) (l0 : List Int) (a1 : Int) (a2 : Int) : Option (Bool) := (sidesticklaw03_shown.f k).bind fun t126 => ((sidesticklaw03_few.f l0).bind fun t127 => ((sidesticklaw03_whole.f k t127).bind fun t130 => (if t126 = true then ((crc_Sum.f k t130).bind fun t133 => (sidesticklaw03_CrcBursts.j0 k a1 a2 t130 (t133 != 0))) else (sidesticklaw03_CrcBursts.j0 k a1 a2 t130 true))))
theorem sidesticklaw03_CrcBursts.mono_l : ∀ k, (∀ y0 y1 y2 y3, LeO (sidesticklaw03_CrcBursts.j0 k y0 y1 y2 y3) (sidesticklaw03_CrcBursts.j0 (k + 1) y0 y1 y2 y3)) ∧ (∀ y0 y1 y2 y3 y4, LeO (sidesticklaw03_CrcBursts.l0 k y0 y1 y2 y3 y4) (sidesticklaw03_CrcBursts.l0 (k + 1) y0 y1 y2 y3 y4)) ∧ (∀ y0 y1 y2 y3 y4 y5, LeO (sidesticklaw03_CrcBursts.j2 k y0 y1 y2 y3 y4 y5) (sidesticklaw03_CrcBursts.j2 (k + 1) y0 y1 y2 y3 y4 y5))
  | 0 => ⟨fun _ _ _ _ r h => by simp [sidesticklaw03_CrcBursts.j0] at h, fun _ _ _ _ _ r h => by simp [sidesticklaw03_CrcBursts.l0] at h, fun _ _ _ _ _ _ r h => by simp [sidesticklaw03_CrcBursts.j2] at h⟩
  | k + 1 => by
    obtain ⟨ih0, ih1, ih2⟩ := sidesticklaw03_CrcBursts.mono_l k
    refine ⟨?_, ?_, ?_⟩
    · intro y0 y1 y2 y3
      unfold sidesticklaw03_CrcBursts.j0
      repeat' first
      | (with_reducible exact ih0 _ _ _ _)
      | (with_reducible exact ih1 _ _ _ _ _)
      | (with_reducible exact ih2 _ _ _ _ _ _)
      | (with_reducible exact crc_Sum.mono _ _)
      | (with_reducible exact sidesticklaw03_shown.mono _)
      | (with_reducible exact sidesticklaw03_whole.mono _ _)
      | (with_reducible exact LeO.refl _)
      | (with_reducible exact LeO.none _)
      | (with_reducible refine LeO.ite ?_ ?_)
      | (with_reducible refine LeO.bind ?_ (fun _ => ?_))
      | exact ih0 _ _ _ _
      | exact ih1 _ _ _ _ _
      | exact ih2 _ _ _ _ _ _
      | exact crc_Sum.mono _ _
      | exact sidesticklaw03_shown.mono _
      | exact sidesticklaw03_whole.mono _ _
      | exact LeO.none _
      | refine LeO.ite ?_ ?_
      | refine LeO.bind ?_ (fun _ => ?_)
    · intro y0 y1 y2 y3 y4
      unfold sidesticklaw03_CrcBursts.l0
      repeat' first
      | (with_reducible exact ih0 _ _ _ _)
      | (with_reducible exact ih1 _ _ _ _ _)
      | (with_reducible exact ih2 _ _ _ _ _ _)
      | (with_reducible exact crc_Sum.mono _ _)
      | (with_reducible exact sidesticklaw03_shown.mono _)
      | (with_reducible exact sidesticklaw03_whole.mono _ _)
      | (with_reducible exact LeO.refl _)
      | (with_reducible exact LeO.none _)
      | (with_reducible refine LeO.ite ?_ ?_)
      | (with_reducible refine LeO.bind ?_ (fun _ => ?_))
      | exact ih0 _ _ _ _
      | exact ih1 _ _ _ _ _
      | exact ih2 _ _ _ _ _ _
      | exact crc_Sum.mono _ _
      | exact sidesticklaw03_shown.mono _
      | exact sidesticklaw03_whole.mono _ _
      | exact LeO.none _
      | refine LeO.ite ?_ ?_
      | refine LeO.bind ?_ (fun _ => ?_)
    · intro y0 y1 y2 y3 y4 y5
      unfold sidesticklaw03_CrcBursts.j2
      repeat' first
      | (with_reducible exact ih0 _ _ _ _)
      | (with_reducible exact ih1 _ _ _ _ _)
      | (with_reducible exact ih2 _ _ _ _ _ _)
      | (with_reducible exact crc_Sum.mono _ _)
      | (with_reducible exact sidesticklaw03_shown.mono _)
      | (with_reducible exact sidesticklaw03_whole.mono _ _)
      | (with_reducible exact LeO.refl _)
      | (with_reducible exact LeO.none _)
      | (with_reducible refine LeO.ite ?_ ?_)
      | (with_reducible refine LeO.bind ?_ (fun _ => ?_))
      | exact ih0 _ _ _ _
      | exact ih1 _ _ _ _ _
      | exact ih2 _ _ _ _ _ _
      | exact crc_Sum.mono _ _
      | exact sidesticklaw03_shown.mono _
      | exact sidesticklaw03_whole.mono _ _
      | exact LeO.none _
      | refine LeO.ite ?_ ?_
      | refine LeO.bind ?_ (fun _ => ?_)
theorem sidesticklaw03_CrcBursts.mono : ∀ a0 a1 a2 k, LeO (sidesticklaw03_CrcBursts.f k a0 a1 a2) (sidesticklaw03_CrcBursts.f (k + 1) a0 a1 a2) := by
  intro a0 a1 a2 k
  obtain ⟨ih0, ih1, ih2⟩ := sidesticklaw03_CrcBursts.mono_l k
  unfold sidesticklaw03_CrcBursts.f
  repeat' first
      | (with_reducible exact ih0 _ _ _ _)
      | (with_reducible exact ih1 _ _ _ _ _)
      | (with_reducible exact ih2 _ _ _ _ _ _)
      | (with_reducible exact crc_Sum.mono _ _)
      | (with_reducible exact sidesticklaw03_shown.mono _)
      | (with_reducible exact sidesticklaw03_whole.mono _ _)
      | (with_reducible exact LeO.refl _)
      | (with_reducible exact LeO.none _)
      | (with_reducible refine LeO.ite ?_ ?_)
      | (with_reducible refine LeO.bind ?_ (fun _ => ?_))
      | exact ih0 _ _ _ _
      | exact ih1 _ _ _ _ _
      | exact ih2 _ _ _ _ _ _
      | exact crc_Sum.mono _ _
      | exact sidesticklaw03_shown.mono _
      | exact sidesticklaw03_whole.mono _ _
      | exact LeO.none _
      | refine LeO.ite ?_ ?_
      | refine LeO.bind ?_ (fun _ => ?_)
def sidesticklaw03_CrcBursts.T12 : Bool × List (List Nat × List Nat) := (true, [([], []), ([], []), ([], []), ([1, 2], [1, 2]), ([3], [3]), ([], []), ([], []), ([], []), ([6, 7], [6, 7]), ([8], [8]), ([5, 9], [5, 9]), ([10], [10]), ([], []), ([], []), ([12, 13], [12, 13]), ([14], [14]), ([15], [15]), ([11, 16], [11, 16]), ([0, 4, 0, 1, 2, 3, 4, 5, 6, 7, 8, 9, 10, 11, 12, 13, 14, 15, 16, 17], [0, 4]), ([18, 17, 0, 1, 2, 3, 4, 5, 6, 7, 8, 9, 10, 11, 12, 13, 14, 15, 16, 17], [17, 18])])
def sidesticklaw03_CrcBursts.B12 : List Nat := [0, 0, 0, 6, 14, 0, 0, 0, 192, 448, 992, 2016, 0, 0, 12288, 28672, 61440, 131040, 262143, 524287]
theorem sidesticklaw03_CrcBursts.tab12 : rtab .any (opsOf Try.f5 12) = sidesticklaw03_CrcBursts.T12 := by kernel_rfl
theorem sidesticklaw03_CrcBursts.bits12 : waitsOk sidesticklaw03_CrcBursts.T12.2 sidesticklaw03_CrcBursts.B12 = true := by kernel_rfl
set_option maxHeartbeats 8000000 in
set_option maxRecDepth 100000 in
theorem sidesticklaw03_CrcBursts.calls (k : Nat) (A0 : Option Addr) (c0 : Nat) (l0 : List Int) (a1 : Int) (a2 : Int) (r : Bool) (w : World) (hr0 : Kd.C (Kd.int .u8) w A0 l0.length l0) (hc0 : l0.length ≤ c0) (h : sidesticklaw03_CrcBursts.f k l0 a1 a2 = some r) :
    Calls Try.prog 5 #[.slice A0 l0.length c0, .int .i64 a1, .int .u16 a2] w fun e w' => e = .returned (.bool r) ∧ Below w.heap.size w w' := by
  have HR0 := Aside0.mk hr0
  have HC0 := Aside0.mk hc0
  clear hr0 hc0
  have HB := Aside0.mk (Below.refl w.heap.size w)
  have H : ((sidesticklaw03_shown.f k).bind fun t126 => ((sidesticklaw03_few.f l0).bind fun t127 => ((sidesticklaw03_whole.f k t127).bind fun t130 => (if t126 = true then ((crc_Sum.f k t130).bind fun t133 => (sidesticklaw03_CrcBursts.j0 k a1 a2 t130 (t133 != 0))) else (sidesticklaw03_CrcBursts.j0 k a1 a2 t130 true))))) = some r := h
  clear h
  replace H := Option.bind_eq_some_iff.mp H
  obtain ⟨t126, A40, H⟩ := H
  replace H : ((sidesticklaw03_few.f l0).bind fun t127 => ((sidesticklaw03_whole.f k t127).bind fun t130 => (if t126 = true then ((crc_Sum.f k t130).bind fun t133 => (sidesticklaw03_CrcBursts.j0 k a1 a2 t130 (t133 != 0))) else (sidesticklaw03_CrcBursts.j0 k a1 a2 t130 true)))) = some r := H
  have A4 := Aside0.mk A40
  clear A40
  replace H := Option.bind_eq_some_iff.mp H
  obtain ⟨t127, A50, H⟩ := H
  replace H : ((sidesticklaw03_whole.f k t127).bind fun t130 => (if t126 = true then ((crc_Sum.f k t130).bind fun t133 => (sidesticklaw03_CrcBursts.j0 k a1 a2 t130 (t133 != 0))) else (sidesticklaw03_CrcBursts.j0 k a1 a2 t130 true))) = some r := H
  have A5 := Aside0.mk A50
  clear A50
  replace H := Option.bind_eq_some_iff.mp H
  obtain ⟨t130, A60, H⟩ := H
  replace H : (if t126 = true then ((crc_Sum.f k t130).bind fun t133 => (sidesticklaw03_CrcBursts.j0 k a1 a2 t130 (t133 != 0))) else (sidesticklaw03_CrcBursts.j0 k a1 a2 t130 true)) = some r := H
  have A6 := Aside0.mk A60
  clear A60
  have HC7 := Aside0.mk H
  clear H
  go_enter Try.func5, Try.ntmps5
  go_upto_region 3 with (first | ((with_reducible refine gate_callee (f := 15) rfl ?_); refine goesL_ (some 13) rfl rfl Try.func15 (by kernel_rfl) rfl #[] rfl (by (try simp only [List.map_toArray, List.map_cons, List.map_nil]); first | done | rfl | (simp only [List.length_drop, List.length_take]; rfl)) ?_; (with_reducible refine (sidesticklaw03_shown.calls k  t126 _ A4.out).mono ?_); rintro e w8 ⟨rfl, hb⟩; refine ⟨_, rfl, ?_⟩; have n0_ := Aside0.mk (below_step (by repeat (first | (with_reducible first | exact HB.out | apply below_alloc | apply pw_below_drewN | apply below_drew1) | exact HB.out)) hb); clear HB; have HB := n0_; clear n0_; (try clear hb); (try clear hb2); (try clear hk); (try clear hi)) | ((with_reducible refine gate_callee (f := 16) rfl ?_); refine goesL_ (some 15) rfl rfl Try.func16 (by kernel_rfl) rfl #[.slice A0 l0.length c0] rfl (by (try simp only [List.map_toArray, List.map_cons, List.map_nil]); first | done | rfl | (simp only [List.length_drop, List.length_take]; rfl)) ?_; (with_reducible refine (sidesticklaw03_few.calls (fun k_ => k_ < w.heap.size) _ _ l0 t127 _ ?side1 A5.out).mono ?_); (case side1 => exact Kd.V_mk HC0.out (Kd.F_below (Kd.C_F (Kd.heap_int .u8) HR0.out) (by repeat (first | (with_reducible first | exact HB.out | apply below_alloc | apply pw_below_drewN | apply below_drew1) | exact HB.out)))); rintro e w9 ⟨v128, rfl, ho0, hb⟩; refine ⟨_, rfl, ?_⟩; have n0_ := Aside0.mk (Kd.V_lower (Kd.V_mono (ok' := fun k_ => True) ho0 (fun k_ hk_ => trivial)) (below_size (by repeat (first | (with_reducible first | exact HB.out | apply below_alloc | apply pw_below_drewN | apply below_drew1) | exact HB.out)))); have n1_ := Aside0.mk (below_step (by repeat (first | (with_reducible first | exact HB.out | apply below_alloc | apply pw_below_drewN | apply below_drew1) | exact HB.out)) hb); clear HB; have HO129 := n0_; have HB := n1_; clear n0_ n1_; (try clear hb); (try clear hb2); (try clear hk); (try clear hi); (try clear ho0); obtain ⟨Ao10, co10, eo10⟩ := Kd.V_slice HO129.out; subst eo10) | ((with_reducible refine gate_callee (f := 21) rfl ?_); refine goesL_ (some 16) rfl rfl Try.func21 (by kernel_rfl) rfl #[.slice Ao10 t127.length co10] rfl (by (try simp only [List.map_toArray, List.map_cons, List.map_nil]); first | done | rfl | (simp only [List.length_drop, List.length_take]; rfl)) ?_; (with_reducible refine (sidesticklaw03_whole.calls k _ _ t127 t130 _ ?side1 ?side2 A6.out).mono ?_); (case side1 => repeat (first | exact (Kd.V_reads' HO129.out).2.2 | (with_reducible refine Kd.C_alloc ?_ _) | (with_reducible refine Kd.C_drewN ?_ _) | (with_reducible refine Kd.C_drew ?_))); (case side2 => exact (Kd.V_reads' HO129.out).2.1); rintro e w11 ⟨v131, rfl, ho0, hb⟩; refine ⟨_, rfl, ?_⟩; have n0_ := Aside0.mk (Kd.V_elder' (by (with_reducible repeat (first | apply Kd.V_alloc | apply Kd.V_drewN | apply Kd.V_drew)); exact HO129.out) (Kd.R_base ho0) hb); have n1_ := Aside0.mk (Kd.R_lower ho0 (below_size (by repeat (first | (with_reducible first | exact HB.out | apply below_alloc | apply pw_below_drewN | apply below_drew1) | exact HB.out)))); have n2_ := Aside0.mk (below_step (by repeat (first | (with_reducible first | exact HB.out | apply below_alloc | apply pw_below_drewN | apply below_drew1) | exact HB.out)) hb); clear HO129; clear HB; have HO129 := n0_; have HO132 := n1_; have HB := n2_; clear n0_ n1_ n2_; (try clear hb); (try clear hb2); (try clear hk); (try clear hi); (try clear ho0)))
  (try simp only [Act.put, List.setIfInBounds_toArray, List.set_cons_zero, List.set_cons_succ])
  go_cut [23] (fun v23 wc => ∃ (kq : Nat) (x23_6 : Bool), v23 = .bool x23_6 ∧ Aside0 (sidesticklaw03_CrcBursts.j0 kq a1 a2 t130 x23_6 = some r) ∧ Aside0 (kq ≤ k) ∧ Aside0 (Kd.R (Kd.int .u8) 5 wc w.heap.size (fun _ => True) v131 t130) ∧ Aside0 (Below w.heap.size w wc))
  case first =>
    have H := HC7.out
    clear HC7
    by_cases c12 : t126 = true
    · subst c12
      have H1 : ((crc_Sum.f k t130).bind fun t133 => (sidesticklaw03_CrcBursts.j0 k a1 a2 t130 (t133 != 0))) = some r := by rw [if_pos rfl] at H; exact H
      clear H
      have H := H1
      clear H1
      replace H := Option.bind_eq_some_iff.mp H
      obtain ⟨t133, A130, H⟩ := H
      replace H : (sidesticklaw03_CrcBursts.j0 k a1 a2 t130 (t133 != 0)) = some r := H
      have A13 := Aside0.mk A130
      clear A130
      have H' := Aside0.mk H
      clear H
      obtain ⟨Ao14, co14, eo14⟩ := Kd.R_slice HO132.out
      subst eo14
      go_wp2_with (first | (go_at_call 17; (with_reducible refine (crc_Sum.calls k _ _ t130 t133 _ ?side1 ?side2 A13.out).mono ?_); (case side1 => repeat (first | exact (Kd.R_reads' HO132.out).2.2 | (with_reducible refine Kd.C_alloc ?_ _) | (with_reducible refine Kd.C_drewN ?_ _) | (with_reducible refine Kd.C_drew ?_))); (case side2 => exact (Kd.R_reads' HO132.out).2.1); rintro e w' ⟨rfl, ⟨nd, rfl⟩⟩))
      go_meet
      case rel => exact ⟨_, ((t133 != 0)), (by first | rfl | (simp; done) | (simp [*]; done)), H', ⟨by first | omega | exact Nat.le_refl _⟩, ⟨by (with_reducible repeat (first | apply Kd.R_alloc | apply Kd.R_drewN | apply Kd.R_drew)); exact HO132.out⟩, ⟨by repeat (first | (with_reducible first | exact HB.out | apply below_alloc | apply pw_below_drewN | apply below_drew1) | exact HB.out)⟩⟩
    · replace c12 := Bool.eq_false_iff.mpr c12
      subst c12
      have H1 : (sidesticklaw03_CrcBursts.j0 k a1 a2 t130 true) = some r := by rw [if_neg (show ¬ (false = true) by decide)] at H; exact H
      clear H
      have H := H1
      clear H1
      have H' := Aside0.mk H
      clear H
      go_wp2
      go_meet
      case rel => exact ⟨_, (true), (by first | rfl | (simp; done) | (simp [*]; done)), H', ⟨by first | omega | exact Nat.le_refl _⟩, ⟨by (with_reducible repeat (first | apply Kd.R_alloc | apply Kd.R_drewN | apply Kd.R_drew)); exact HO132.out⟩, ⟨by repeat (first | (with_reducible first | exact HB.out | apply below_alloc | apply pw_below_drewN | apply below_drew1) | exact HB.out)⟩⟩
  case rest =>
    clear HC7
    try clear c1
    try clear c2
    try clear p2
    try clear c5
    try clear c12
    obtain ⟨kq, x23_6, rfl, HA, HJ6, HO_8, HB⟩ := hcut
    cases kq with
    | zero => exact absurd HA.out (by simp [sidesticklaw03_CrcBursts.j0])
    | succ kj6 =>
      have H := HA.out
      clear HA
      simp only [sidesticklaw03_CrcBursts.j0] at H
      by_cases c15 : x23_6 = true
      · subst c15
        have H1 : (some false) = some r := by rw [if_pos rfl] at H; exact H
        clear H
        have H := H1
        clear H1
        obtain rfl := Option.some.inj H
        go_wp2
        go_ret
        exact ⟨by first | rfl | (simp [errW_none, errW_some] <;> rfl) | (simp [*, errW_none, errW_some] <;> rfl), by repeat (first | (with_reducible first | exact HB.out | apply below_alloc | apply pw_below_drewN | apply below_drew1) | exact HB.out)⟩
      · replace c15 := Bool.eq_false_iff.mpr c15
        subst c15
        have H1 : (if (wrap64 (8 * (t130.length : Int))) = 0 then (none) else (sidesticklaw03_CrcBursts.l0 kj6 t130 (wrap64 (8 * (t130.length : Int))) (Int.tmod (wrap64 ((Int.tmod a1 (wrap64 (8 * (t130.length : Int)))) + (wrap64 (8 * (t130.length : Int))))) (wrap64 (8 * (t130.length : Int)))) (Go.bits .or .u16 a2 32768) 0)) = some r := by rw [if_neg (show ¬ (false = true) by decide)] at H; exact H
        clear H
        have H := H1
        clear H1
        by_cases c16 : (wrap64 (8 * (t130.length : Int))) = 0
        · rw [if_pos c16] at H
          exact absurd H (by simp)
        · rw [if_neg c16] at H
          have c16b0 : ((wrap64 (8 * (t130.length : Int))) == 0) = false := beq_eq_false_iff_ne.mpr c16
          have c16b1 : ((wrap64 (8 * (t130.length : Int))) != 0) = true := bne_iff_ne.mpr c16
          have H' := Aside0.mk H
          clear H
          obtain ⟨Ao17, co17, eo17⟩ := Kd.R_slice HO_8.out
          subst eo17
          go_wp2
          go_loopg [12] kj6 (fun kq v12 w' => ∃ (x8_2 : List Int) (x12_2 : Int), v12 = .int .i64 x12_2 ∧ Aside0 (sidesticklaw03_CrcBursts.l0 kq x8_2 (wrap64 (8 * (t130.length : Int))) (Int.tmod (wrap64 ((Int.tmod a1 (wrap64 (8 * (t130.length : Int)))) + (wrap64 (8 * (t130.length : Int))))) (wrap64 (8 * (t130.length : Int)))) (Go.bits .or .u16 a2 32768) x12_2 = some r) ∧ Aside0 (kq ≤ kj6) ∧ Aside0 (Kd.R (Kd.int .u8) 5 w' w.heap.size (fun _ => True) (.slice Ao17 t130.length co17) x8_2) ∧ Aside0 (Below w.heap.size w w'))
          case atStart => exact ⟨(t130), (0), (by first | rfl | (simp; done) | (simp [*]; done)), H', ⟨Nat.le_refl _⟩, ⟨by (with_reducible repeat (first | apply Kd.R_alloc | apply Kd.R_drewN | apply Kd.R_drew)); exact HO_8.out⟩, ⟨by repeat (first | (with_reducible first | exact HB.out | apply below_alloc | apply pw_below_drewN | apply below_drew1) | exact HB.out)⟩⟩
          case round =>
            clear H'
            try clear c1
            try clear c2
            try clear p2
            try clear c5
            try clear p6
            try clear c12
            try clear c15
            try clear c16
            try clear c16b0
            try clear c16b1
            try clear p2
            obtain ⟨x8_2, x12_2, rfl, HA, HK2, HO_8, HB⟩ := hrel
            have hl8_2 := (Kd.R_reads' HO_8.out).1
            rw [hl8_2] at HO_8
            (try simp only [hl8_2])
            cases gk with
            | zero => exact absurd HA.out (by simp [sidesticklaw03_CrcBursts.l0])
            | succ k2 =>
              have H := HA.out
              clear HA
              simp only [sidesticklaw03_CrcBursts.l0] at H
              have HC18 := Aside0.mk H
              clear H
              go_upto_region 9 with (fail)
              go_cut [44] (fun v44 wc => ∃ (kq : Nat) (x44_17 : Bool), v44 = .bool x44_17 ∧ Aside0 (sidesticklaw03_CrcBursts.j2 kq x8_2 (wrap64 (8 * (t130.length : Int))) (Int.tmod (wrap64 ((Int.tmod a1 (wrap64 (8 * (t130.length : Int)))) + (wrap64 (8 * (t130.length : Int))))) (wrap64 (8 * (t130.length : Int)))) (Go.bits .or .u16 a2 32768) x12_2 x44_17 = some r) ∧ Aside0 (kq ≤ k2) ∧ Aside0 (Kd.R (Kd.int .u8) 5 wc w.heap.size (fun _ => True) (.slice Ao17 x8_2.length co17) x8_2) ∧ Aside0 (Below w.heap.size w wc))
              case first =>
                have H := HC18.out
                clear HC18
                by_cases c19 : x12_2 < 16
                · rw [if_pos c19] at H
                  have c19b0 : decide (x12_2 < 16) = true := decide_eq_true c19
                  clear c19
                  (first | rw [c19b0] | (simp only [i64_w, i32_w]; rw [c19b0]) | skip)
                  have H' := Aside0.mk H
                  clear H
                  go_wp2
                  go_meet
                  case rel => exact ⟨_, (decide ((wrap64 ((Int.tmod (wrap64 ((Int.tmod a1 (wrap64 (8 * (t130.length : Int)))) + (wrap64 (8 * (t130.length : Int))))) (wrap64 (8 * (t130.length : Int)))) + x12_2)) < (wrap64 (8 * (t130.length : Int))))), (by first | rfl | (simp; done) | (simp [*]; done)), H', ⟨by have := HJ6.out; have := HK2.out; first | omega | exact Nat.le_refl _⟩, ⟨by (try simp only [hl8_2]); (with_reducible repeat (first | apply Kd.R_alloc | apply Kd.R_drewN | apply Kd.R_drew)); exact HO_8.out⟩, ⟨by repeat (first | (with_reducible first | exact HB.out | apply below_alloc | apply pw_below_drewN | apply below_drew1) | exact HB.out)⟩⟩
                · rw [if_neg c19] at H
                  have c19b0 : decide (x12_2 < 16) = false := decide_eq_false c19
                  clear c19
                  (first | rw [c19b0] | (simp only [i64_w, i32_w]; rw [c19b0]) | skip)
                  have H' := Aside0.mk H
                  clear H
                  go_wp2
                  go_meet
                  case rel => exact ⟨_, (false), (by first | rfl | (simp; done) | (simp [*]; done)), H', ⟨by have := HJ6.out; have := HK2.out; first | omega | exact Nat.le_refl _⟩, ⟨by (try simp only [hl8_2]); (with_reducible repeat (first | apply Kd.R_alloc | apply Kd.R_drewN | apply Kd.R_drew)); exact HO_8.out⟩, ⟨by repeat (first | (with_reducible first | exact HB.out | apply below_alloc | apply pw_below_drewN | apply below_drew1) | exact HB.out)⟩⟩
              case rest =>
                clear HC18
                try clear c1
                try clear c2
                try clear p2
                try clear c5
                try clear p6
                try clear c12
                try clear c15
                try clear c16
                try clear c16b0
                try clear c16b1
                try clear c19
                try clear c19b0
                try clear p2
                try clear p6
                obtain ⟨kq, x44_17, rfl, HA, HJ17, HO_8, HB⟩ := hcut
                cases kq with
                | zero => exact absurd HA.out (by simp [sidesticklaw03_CrcBursts.j2])
                | succ kj17 =>
                  have H := HA.out
                  clear HA
                  simp only [sidesticklaw03_CrcBursts.j2] at H
                  by_cases c20 : x44_17 = true
                  · subst c20
                    have H1 : (if 0 ≤ (wrap64 (15 - x12_2)) then (if (Go.bits .and .u16 (shr .u16 (Go.bits .or .u16 a2 32768) (wrap64 (15 - x12_2))) 1) = 1 then (if 0 ≤ (wrap64 (Int.tdiv (wrap64 ((Int.tmod (wrap64 ((Int.tmod a1 (wrap64 (8 * (t130.length : Int)))) + (wrap64 (8 * (t130.length : Int))))) (wrap64 (8 * (t130.length : Int)))) + x12_2)) 8)) then (if (wrap64 (Int.tdiv (wrap64 ((Int.tmod (wrap64 ((Int.tmod a1 (wrap64 (8 * (t130.length : Int)))) + (wrap64 (8 * (t130.length : Int))))) (wrap64 (8 * (t130.length : Int)))) + x12_2)) 8)) < (x8_2.length : Int) then (if 0 ≤ (Int.tmod (wrap64 ((Int.tmod (wrap64 ((Int.tmod a1 (wrap64 (8 * (t130.length : Int)))) + (wrap64 (8 * (t130.length : Int))))) (wrap64 (8 * (t130.length : Int)))) + x12_2)) 8) then (sidesticklaw03_CrcBursts.l0 kj17 (x8_2.set ((wrap64 (Int.tdiv (wrap64 ((Int.tmod (wrap64 ((Int.tmod a1 (wrap64 (8 * (t130.length : Int)))) + (wrap64 (8 * (t130.length : Int))))) (wrap64 (8 * (t130.length : Int)))) + x12_2)) 8)) : Int).toNat (Go.bits .xor .u8 (rd x8_2 (wrap64 (Int.tdiv (wrap64 ((Int.tmod (wrap64 ((Int.tmod a1 (wrap64 (8 * (t130.length : Int)))) + (wrap64 (8 * (t130.length : Int))))) (wrap64 (8 * (t130.length : Int)))) + x12_2)) 8))) (shr .u8 128 (Int.tmod (wrap64 ((Int.tmod (wrap64 ((Int.tmod a1 (wrap64 (8 * (t130.length : Int)))) + (wrap64 (8 * (t130.length : Int))))) (wrap64 (8 * (t130.length : Int)))) + x12_2)) 8)))) (wrap64 (8 * (t130.length : Int))) (Int.tmod (wrap64 ((Int.tmod a1 (wrap64 (8 * (t130.length : Int)))) + (wrap64 (8 * (t130.length : Int))))) (wrap64 (8 * (t130.length : Int)))) (Go.bits .or .u16 a2 32768) (wrap64 (x12_2 + 1))) else (none)) else (none)) else (none)) else (sidesticklaw03_CrcBursts.l0 kj17 x8_2 (wrap64 (8 * (t130.length : Int))) (Int.tmod (wrap64 ((Int.tmod a1 (wrap64 (8 * (t130.length : Int)))) + (wrap64 (8 * (t130.length : Int))))) (wrap64 (8 * (t130.length : Int)))) (Go.bits .or .u16 a2 32768) (wrap64 (x12_2 + 1)))) else (none)) = some r := by rw [if_pos rfl] at H; exact H
                    clear H
                    have H := H1
                    clear H1
                    obtain ⟨ji21, hji21⟩ : ∃ j_ : Int, (wrap64 (15 - x12_2)) = j_ := ⟨_, rfl⟩
                    replace H : (if 0 ≤ (ji21) then (if (Go.bits .and .u16 (shr .u16 (Go.bits .or .u16 a2 32768) (ji21)) 1) = 1 then (if 0 ≤ (wrap64 (Int.tdiv (wrap64 ((Int.tmod (wrap64 ((Int.tmod a1 (wrap64 (8 * (t130.length : Int)))) + (wrap64 (8 * (t130.length : Int))))) (wrap64 (8 * (t130.length : Int)))) + x12_2)) 8)) then (if (wrap64 (Int.tdiv (wrap64 ((Int.tmod (wrap64 ((Int.tmod a1 (wrap64 (8 * (t130.length : Int)))) + (wrap64 (8 * (t130.length : Int))))) (wrap64 (8 * (t130.length : Int)))) + x12_2)) 8)) < (x8_2.length : Int) then (if 0 ≤ (Int.tmod (wrap64 ((Int.tmod (wrap64 ((Int.tmod a1 (wrap64 (8 * (t130.length : Int)))) + (wrap64 (8 * (t130.length : Int))))) (wrap64 (8 * (t130.length : Int)))) + x12_2)) 8) then (sidesticklaw03_CrcBursts.l0 kj17 (x8_2.set ((wrap64 (Int.tdiv (wrap64 ((Int.tmod (wrap64 ((Int.tmod a1 (wrap64 (8 * (t130.length : Int)))) + (wrap64 (8 * (t130.length : Int))))) (wrap64 (8 * (t130.length : Int)))) + x12_2)) 8)) : Int).toNat (Go.bits .xor .u8 (rd x8_2 (wrap64 (Int.tdiv (wrap64 ((Int.tmod (wrap64 ((Int.tmod a1 (wrap64 (8 * (t130.length : Int)))) + (wrap64 (8 * (t130.length : Int))))) (wrap64 (8 * (t130.length : Int)))) + x12_2)) 8))) (shr .u8 128 (Int.tmod (wrap64 ((Int.tmod (wrap64 ((Int.tmod a1 (wrap64 (8 * (t130.length : Int)))) + (wrap64 (8 * (t130.length : Int))))) (wrap64 (8 * (t130.length : Int)))) + x12_2)) 8)))) (wrap64 (8 * (t130.length : Int))) (Int.tmod (wrap64 ((Int.tmod a1 (wrap64 (8 * (t130.length : Int)))) + (wrap64 (8 * (t130.length : Int))))) (wrap64 (8 * (t130.length : Int)))) (Go.bits .or .u16 a2 32768) (wrap64 (x12_2 + 1))) else (none)) else (none)) else (none)) else (sidesticklaw03_CrcBursts.l0 kj17 x8_2 (wrap64 (8 * (t130.length : Int))) (Int.tmod (wrap64 ((Int.tmod a1 (wrap64 (8 * (t130.length : Int)))) + (wrap64 (8 * (t130.length : Int))))) (wrap64 (8 * (t130.length : Int)))) (Go.bits .or .u16 a2 32768) (wrap64 (x12_2 + 1)))) else (none)) = some r := by first | (rw [hji21] at H; exact H) | (simp only [hji21] at H ⊢; exact H)
                    have hji21w : (IntKind.i64.wrap (15 - x12_2)) = ji21 := (i64_w _).trans hji21
                    by_cases c22 : 0 ≤ (ji21)
                    · rw [if_pos c22] at H
                      have c22b0 := eq_true c22
                      have c22b1 : decide (0 ≤ (ji21)) = true := decide_eq_true c22
                      clear c22
                      obtain ⟨ji23, hji23⟩ : ∃ j_ : Int, (shr .u16 (Go.bits .or .u16 a2 32768) (ji21)) = j_ := ⟨_, rfl⟩
                      replace H : (if (Go.bits .and .u16 (ji23) 1) = 1 then (if 0 ≤ (wrap64 (Int.tdiv (wrap64 ((Int.tmod (wrap64 ((Int.tmod a1 (wrap64 (8 * (t130.length : Int)))) + (wrap64 (8 * (t130.length : Int))))) (wrap64 (8 * (t130.length : Int)))) + x12_2)) 8)) then (if (wrap64 (Int.tdiv (wrap64 ((Int.tmod (wrap64 ((Int.tmod a1 (wrap64 (8 * (t130.length : Int)))) + (wrap64 (8 * (t130.length : Int))))) (wrap64 (8 * (t130.length : Int)))) + x12_2)) 8)) < (x8_2.length : Int) then (if 0 ≤ (Int.tmod (wrap64 ((Int.tmod (wrap64 ((Int.tmod a1 (wrap64 (8 * (t130.length : Int)))) + (wrap64 (8 * (t130.length : Int))))) (wrap64 (8 * (t130.length : Int)))) + x12_2)) 8) then (sidesticklaw03_CrcBursts.l0 kj17 (x8_2.set ((wrap64 (Int.tdiv (wrap64 ((Int.tmod (wrap64 ((Int.tmod a1 (wrap64 (8 * (t130.length : Int)))) + (wrap64 (8 * (t130.length : Int))))) (wrap64 (8 * (t130.length : Int)))) + x12_2)) 8)) : Int).toNat (Go.bits .xor .u8 (rd x8_2 (wrap64 (Int.tdiv (wrap64 ((Int.tmod (wrap64 ((Int.tmod a1 (wrap64 (8 * (t130.length : Int)))) + (wrap64 (8 * (t130.length : Int))))) (wrap64 (8 * (t130.length : Int)))) + x12_2)) 8))) (shr .u8 128 (Int.tmod (wrap64 ((Int.tmod (wrap64 ((Int.tmod a1 (wrap64 (8 * (t130.length : Int)))) + (wrap64 (8 * (t130.length : Int))))) (wrap64 (8 * (t130.length : Int)))) + x12_2)) 8)))) (wrap64 (8 * (t130.length : Int))) (Int.tmod (wrap64 ((Int.tmod a1 (wrap64 (8 * (t130.length : Int)))) + (wrap64 (8 * (t130.length : Int))))) (wrap64 (8 * (t130.length : Int)))) (Go.bits .or .u16 a2 32768) (wrap64 (x12_2 + 1))) else (none)) else (none)) else (none)) else (sidesticklaw03_CrcBursts.l0 kj17 x8_2 (wrap64 (8 * (t130.length : Int))) (Int.tmod (wrap64 ((Int.tmod a1 (wrap64 (8 * (t130.length : Int)))) + (wrap64 (8 * (t130.length : Int))))) (wrap64 (8 * (t130.length : Int)))) (Go.bits .or .u16 a2 32768) (wrap64 (x12_2 + 1)))) = some r := by first | (rw [hji23] at H; exact H) | (simp only [hji23] at H ⊢; exact H)
                      have hji23_ : ((Go.bits .or .u16 a2 32768) / 2 ^ min (ji21).toNat 16) = ji23 := hji23
                      have hji23z : (ji21) ≤ 16 → ((Go.bits .or .u16 a2 32768) / 2 ^ (ji21).toNat) = ji23 := shr_small hji23
                      by_cases c24 : (Go.bits .and .u16 (ji23) 1) = 1
                      · rw [if_pos c24] at H
                        have c24b0 : ((Go.bits .and .u16 (ji23) 1) == 1) = true := beq_iff_eq.mpr c24
                        have c24b1 : ((Go.bits .and .u16 (ji23) 1) != 1) = false := bne_eq_false_iff_eq.mpr c24
                        clear c24
                        obtain ⟨ji25, hji25⟩ : ∃ j_ : Int, (wrap64 (Int.tdiv (wrap64 ((Int.tmod (wrap64 ((Int.tmod a1 (wrap64 (8 * (t130.length : Int)))) + (wrap64 (8 * (t130.length : Int))))) (wrap64 (8 * (t130.length : Int)))) + x12_2)) 8)) = j_ := ⟨_, rfl⟩
                        replace H : (if 0 ≤ (ji25) then (if (ji25) < (x8_2.length : Int) then (if 0 ≤ (Int.tmod (wrap64 ((Int.tmod (wrap64 ((Int.tmod a1 (wrap64 (8 * (t130.length : Int)))) + (wrap64 (8 * (t130.length : Int))))) (wrap64 (8 * (t130.length : Int)))) + x12_2)) 8) then (sidesticklaw03_CrcBursts.l0 kj17 (x8_2.set ((ji25) : Int).toNat (Go.bits .xor .u8 (rd x8_2 (ji25)) (shr .u8 128 (Int.tmod (wrap64 ((Int.tmod (wrap64 ((Int.tmod a1 (wrap64 (8 * (t130.length : Int)))) + (wrap64 (8 * (t130.length : Int))))) (wrap64 (8 * (t130.length : Int)))) + x12_2)) 8)))) (wrap64 (8 * (t130.length : Int))) (Int.tmod (wrap64 ((Int.tmod a1 (wrap64 (8 * (t130.length : Int)))) + (wrap64 (8 * (t130.length : Int))))) (wrap64 (8 * (t130.length : Int)))) (Go.bits .or .u16 a2 32768) (wrap64 (x12_2 + 1))) else (none)) else (none)) else (none)) = some r := by first | (rw [hji25] at H; exact H) | (simp only [hji25] at H ⊢; exact H)
                        have hji25w : (IntKind.i64.wrap (Int.tdiv (wrap64 ((Int.tmod (wrap64 ((Int.tmod a1 (wrap64 (8 * (t130.length : Int)))) + (wrap64 (8 * (t130.length : Int))))) (wrap64 (8 * (t130.length : Int)))) + x12_2)) 8)) = ji25 := (i64_w _).trans hji25
                        by_cases c26 : 0 ≤ (ji25)
                        · rw [if_pos c26] at H
                          have c26b0 : decide (0 ≤ (ji25)) = true := decide_eq_true c26
                          clear c26
                          by_cases c27 : (ji25) < (x8_2.length : Int)
                          · rw [if_pos c27] at H
                            have c27b0 : decide ((ji25) < (x8_2.length : Int)) = true := decide_eq_true c27
                            clear c27
                            obtain ⟨ji28, hji28⟩ : ∃ j_ : Int, (Int.tmod (wrap64 ((Int.tmod (wrap64 ((Int.tmod a1 (wrap64 (8 * (t130.length : Int)))) + (wrap64 (8 * (t130.length : Int))))) (wrap64 (8 * (t130.length : Int)))) + x12_2)) 8) = j_ := ⟨_, rfl⟩
                            replace H : (if 0 ≤ (ji28) then (sidesticklaw03_CrcBursts.l0 kj17 (x8_2.set ((ji25) : Int).toNat (Go.bits .xor .u8 (rd x8_2 (ji25)) (shr .u8 128 (ji28)))) (wrap64 (8 * (t130.length : Int))) (Int.tmod (wrap64 ((Int.tmod a1 (wrap64 (8 * (t130.length : Int)))) + (wrap64 (8 * (t130.length : Int))))) (wrap64 (8 * (t130.length : Int)))) (Go.bits .or .u16 a2 32768) (wrap64 (x12_2 + 1))) else (none)) = some r := by first | (rw [hji28] at H; exact H) | (simp only [hji28] at H ⊢; exact H)
                            by_cases c29 : 0 ≤ (ji28)
                            · rw [if_pos c29] at H
                              have c29b0 := eq_true c29
                              have c29b1 : decide (0 ≤ (ji28)) = true := decide_eq_true c29
                              clear c29
                              obtain ⟨ji30, hji30⟩ : ∃ j_ : Int, (shr .u8 128 (ji28)) = j_ := ⟨_, rfl⟩
                              replace H : (sidesticklaw03_CrcBursts.l0 kj17 (x8_2.set ((ji25) : Int).toNat (Go.bits .xor .u8 (rd x8_2 (ji25)) (ji30))) (wrap64 (8 * (t130.length : Int))) (Int.tmod (wrap64 ((Int.tmod a1 (wrap64 (8 * (t130.length : Int)))) + (wrap64 (8 * (t130.length : Int))))) (wrap64 (8 * (t130.length : Int)))) (Go.bits .or .u16 a2 32768) (wrap64 (x12_2 + 1))) = some r := by first | (rw [hji30] at H; exact H) | (simp only [hji30] at H ⊢; exact H)
                              have hji30_ : (128 / 2 ^ min (ji28).toNat 8) = ji30 := hji30
                              have hji30z : (ji28) ≤ 8 → (128 / 2 ^ (ji28).toNat) = ji30 := shr_small hji30
                              obtain ⟨y135, hy135⟩ : ∃ y_ : List Int, y_ = (x8_2.set ((ji25) : Int).toNat (Go.bits .xor .u8 (rd x8_2 (ji25)) (ji30))) := ⟨_, rfl⟩
                              replace H : (sidesticklaw03_CrcBursts.l0 kj17 y135 (wrap64 (8 * (t130.length : Int))) (Int.tmod (wrap64 ((Int.tmod a1 (wrap64 (8 * (t130.length : Int)))) + (wrap64 (8 * (t130.length : Int))))) (wrap64 (8 * (t130.length : Int)))) (Go.bits .or .u16 a2 32768) (wrap64 (x12_2 + 1))) = some r := by first | (rw [hy135]; with_reducible exact H) | (have H2_ := (Option.bind_some _ _).symm.trans H; rw [hy135]; with_reducible exact H2_) | (have H2_ := (Option.bind_some _ _).symm.trans H; with_reducible exact H2_) | with_reducible exact H | (rw [hy135]; exact H) | exact H
                              have Ny135 := Aside0.mk hy135
                              clear hy135
                              have H' := Aside0.mk H
                              clear H
                              (try rw [hl8_2] at hji25)
                              (try rw [hl8_2] at hji25w)
                              (try rw [hl8_2] at hji28)
                              try go_wp2
                              have n0_ := Aside0.mk (Kd.R_drew HO_8.out)
                              have n1_ := Aside0.mk (below_drew1 HB.out)
                              clear HO_8
                              clear HB
                              have HO_8 := n0_
                              have HB := n1_
                              clear n0_ n1_
                              have p134 : 0 ≤ ((ji25) : Int) := of_decide_eq_true (by first | (with_reducible assumption) | assumption)
                              have q134 : (ji25) < (x8_2.length : Int) := of_decide_eq_true (by first | (with_reducible assumption) | assumption)
                              obtain ⟨ad134, e134, hx134_0⟩ := Kd.at_int (Kd.R_reads' HO_8.out).2.2 (ji25) p134 q134
                              cases e134
                              replace p134 := eq_true p134
                              replace q134 := eq_true q134
                              have p31 : 0 ≤ ((ji25) : Int) := of_decide_eq_true (by first | (with_reducible assumption) | assumption)
                              have q31 : ((ji25) : Int) < ((x8_2.length : Int) : Int) := of_decide_eq_true (by first | (with_reducible assumption) | assumption)
                              obtain ⟨go31, co31, eo31, gb31, gl31, cl31, HG31⟩ := Kd.R_form HO_8.out (by omega)
                              (first | cases eo31 | (injection eo31 with ea_ en_ ec_; (first | subst ea_ | (injection ea_ with ea_; subst ea_)); subst ec_; clear en_))
                              have GB31 := Aside0.mk gb31
                              have GG31 := Aside0.mk HG31
                              clear gb31 gl31 HG31
                              (first | simp only [add_plain] at hx134_0 | skip)
                              obtain ⟨hx31_0, hf31_0⟩ := Kd.R_celln 0 HO_8.out ((ji25) : Int) p31 q31
                              replace p31 := eq_true p31
                              replace q31 := eq_true q31
                              have HP33 := Kd.R_putn HO_8.out ((ji25) : Int) (Go.bits .xor .u8 (rd x8_2 (ji25)) (ji30))
                              rw [← Ny135.out] at HP33
                              have HQ33 := Aside0.mk HP33
                              clear HP33
                              refine start_ (n := 20) (S := fun w' => w'.cell? ⟨go31, ((ji25)).toNat, none⟩ = some (.int .u8 (rd x8_2 (ji25)))) (ds := [19]) #[false, false, false, false, false, false, false, false, false, false, false, false, false, false, false, false, false, false, false, false] (by kernel_rfl) rfl rfl (hx134_0) (fun hHeld => ?_); refine with_tabW sidesticklaw03_CrcBursts.tab12 sidesticklaw03_CrcBursts.bits12 (fun HT_ HW_ => ?_)
                              generalize wc.drew = w32 at HO_8 HB GG31 HQ33 hf31_0 hx134_0 hx31_0 hHeld ⊢
                              refine pure_ (i := 0) (N := some 53) (v := ?_) (a' := ?_) #[true, false, false, false, false, false, false, false, false, false, false, false, false, false, false, false, false, false, false, false] rfl rfl (any_of HT_.out (by kernel_rfl)) (fun _ _ _ h => h) (Or.inl ⟨by rfl, ?_⟩) ?_ ?_
                              rotate_left
                              · intro w'
                                go_simp
                                with_reducible rfl
                              rotate_left
                              · simp only [Act.put, List.setIfInBounds_toArray, List.set_cons_zero, List.set_cons_succ, i64_w, i32_w]
                                rfl
                              refine pure_ (i := 1) (N := some 54) (v := ?_) (a' := ?_) #[true, true, false, false, false, false, false, false, false, false, false, false, false, false, false, false, false, false, false, false] rfl rfl (any_of HT_.out (by kernel_rfl)) (fun _ _ _ h => h) (Or.inl ⟨by rfl, ?_⟩) ?_ ?_
                              rotate_left
                              · intro w'
                                go_simp
                                with_reducible rfl
                              rotate_left
                              · simp only [Act.put, List.setIfInBounds_toArray, List.set_cons_zero, List.set_cons_succ, i64_w, i32_w]
                                rfl
                              refine pure_ (i := 2) (N := some 55) (v := ?_) (a' := ?_) #[true, true, true, false, false, false, false, false, false, false, false, false, false, false, false, false, false, false, false, false] rfl rfl (any_of HT_.out (by kernel_rfl)) (fun _ _ _ h => h) (Or.inl ⟨by rfl, ?_⟩) ?_ ?_
                              rotate_left
                              · intro w'
                                go_simp
                                with_reducible rfl
                              rotate_left
                              · simp only [Act.put, List.setIfInBounds_toArray, List.set_cons_zero, List.set_cons_succ, i64_w, i32_w]
                                rfl
                              refine pure_ (i := 3) (N := some 56) (v := ?_) (a' := ?_) #[true, true, true, true, false, false, false, false, false, false, false, false, false, false, false, false, false, false, false, false] rfl rfl (any_of HT_.out (by kernel_rfl)) (fun _ _ _ h => h) (Or.inl ⟨by rfl, ?_⟩) ?_ ?_
                              rotate_left
                              · intro w'
                                go_simp
                                with_reducible rfl
                              rotate_left
                              · simp only [Act.put, List.setIfInBounds_toArray, List.set_cons_zero, List.set_cons_succ, i64_w, i32_w]
                                rfl
                              refine pure_ (i := 4) (N := some 57) (v := ?_) (a' := ?_) #[true, true, true, true, true, false, false, false, false, false, false, false, false, false, false, false, false, false, false, false] rfl rfl (any_of HT_.out (by kernel_rfl)) (fun _ _ _ h => h) (Or.inl ⟨by rfl, ?_⟩) ?_ ?_
                              rotate_left
                              · intro w'
                                go_simp
                                with_reducible rfl
                              rotate_left
                              · simp only [Act.put, List.setIfInBounds_toArray, List.set_cons_zero, List.set_cons_succ, i64_w, i32_w]
                                rfl
                              refine pure_ (i := 5) (N := some 58) (v := ?_) (a' := ?_) #[true, true, true, true, true, true, false, false, false, false, false, false, false, false, false, false, false, false, false, false] rfl rfl (any_of HT_.out (by kernel_rfl)) (fun _ _ _ h => h) (Or.inl ⟨by rfl, ?_⟩) ?_ ?_
                              rotate_left
                              · intro w'
                                go_simp
                                with_reducible rfl
                              rotate_left
                              · simp only [Act.put, List.setIfInBounds_toArray, List.set_cons_zero, List.set_cons_succ, i64_w, i32_w]
                                rfl
                              refine pure_ (i := 6) (N := some 59) (v := ?_) (a' := ?_) #[true, true, true, true, true, true, true, false, false, false, false, false, false, false, false, false, false, false, false, false] rfl rfl (any_of HT_.out (by kernel_rfl)) (fun _ _ _ h => h) (Or.inl ⟨by rfl, ?_⟩) ?_ ?_
                              rotate_left
                              · intro w'
                                go_simp
                                with_reducible rfl
                              rotate_left
                              · simp only [Act.put, List.setIfInBounds_toArray, List.set_cons_zero, List.set_cons_succ, i64_w, i32_w]
                                rfl
                              refine pure_ (i := 7) (N := some 60) (v := ?_) (a' := ?_) #[true, true, true, true, true, true, true, true, false, false, false, false, false, false, false, false, false, false, false, false] rfl rfl (any_of HT_.out (by kernel_rfl)) (fun _ _ _ h => h) (Or.inl ⟨by rfl, ?_⟩) ?_ ?_
                              rotate_left
                              · intro w'
                                go_simp
                                with_reducible rfl
                              rotate_left
                              · simp only [Act.put, List.setIfInBounds_toArray, List.set_cons_zero, List.set_cons_succ, i64_w, i32_w]
                                rfl
                              refine pure_ (i := 8) (N := some 61) (v := ?_) (a' := ?_) #[true, true, true, true, true, true, true, true, true, false, false, false, false, false, false, false, false, false, false, false] rfl rfl (any_of HT_.out (by kernel_rfl)) (fun _ _ _ h => h) (Or.inl ⟨by rfl, ?_⟩) ?_ ?_
                              rotate_left
                              · intro w'
                                go_simp
                                with_reducible rfl
                              rotate_left
                              · simp only [Act.put, List.setIfInBounds_toArray, List.set_cons_zero, List.set_cons_succ, i64_w, i32_w]
                                rfl
                              refine pure_ (i := 9) (N := some 62) (v := ?_) (a' := ?_) #[true, true, true, true, true, true, true, true, true, true, false, false, false, false, false, false, false, false, false, false] rfl rfl (any_of HT_.out (by kernel_rfl)) (fun _ _ _ h => h) (Or.inl ⟨by rfl, ?_⟩) ?_ ?_
                              rotate_left
                              · intro w'
                                go_simp
                                with_reducible rfl
                              rotate_left
                              · simp only [Act.put, List.setIfInBounds_toArray, List.set_cons_zero, List.set_cons_succ, i64_w, i32_w]
                                rfl
                              refine pure_ (i := 10) (N := some 63) (v := ?_) (a' := ?_) #[true, true, true, true, true, true, true, true, true, true, true, false, false, false, false, false, false, false, false, false] rfl rfl (any_of HT_.out (by kernel_rfl)) (fun _ _ _ h => h) (Or.inl ⟨by rfl, ?_⟩) ?_ ?_
                              rotate_left
                              · intro w'
                                go_simp
                                with_reducible rfl
                              rotate_left
                              · simp only [Act.put, List.setIfInBounds_toArray, List.set_cons_zero, List.set_cons_succ, i64_w, i32_w]
                                rfl
                              refine pure_ (i := 12) (N := some 65) (v := ?_) (a' := ?_) #[true, true, true, true, true, true, true, true, true, true, true, false, true, false, false, false, false, false, false, false] rfl rfl (any_of HT_.out (by kernel_rfl)) (fun _ _ _ h => h) (Or.inl ⟨by rfl, ?_⟩) ?_ ?_
                              rotate_left
                              · intro w'
                                go_simp
                                with_reducible rfl
                              rotate_left
                              · simp only [Act.put, List.setIfInBounds_toArray, List.set_cons_zero, List.set_cons_succ, i64_w, i32_w]
                                rfl
                              refine pure_ (i := 13) (N := some 66) (v := ?_) (a' := ?_) #[true, true, true, true, true, true, true, true, true, true, true, false, true, true, false, false, false, false, false, false] rfl rfl (any_of HT_.out (by kernel_rfl)) (fun _ _ _ h => h) (Or.inl ⟨by rfl, ?_⟩) ?_ ?_
                              rotate_left
                              · intro w'
                                go_simp
                                with_reducible rfl
                              rotate_left
                              · simp only [Act.put, List.setIfInBounds_toArray, List.set_cons_zero, List.set_cons_succ, i64_w, i32_w]
                                rfl
                              refine pure_ (i := 14) (N := some 67) (v := ?_) (a' := ?_) #[true, true, true, true, true, true, true, true, true, true, true, false, true, true, true, false, false, false, false, false] rfl rfl (any_of HT_.out (by kernel_rfl)) (fun _ _ _ h => h) (Or.inl ⟨by rfl, ?_⟩) ?_ ?_
                              rotate_left
                              · intro w'
                                go_simp
                                with_reducible rfl
                              rotate_left
                              · simp only [Act.put, List.setIfInBounds_toArray, List.set_cons_zero, List.set_cons_succ, i64_w, i32_w]
                                rfl
                              refine pure_ (i := 15) (N := some 68) (v := ?_) (a' := ?_) #[true, true, true, true, true, true, true, true, true, true, true, false, true, true, true, true, false, false, false, false] rfl rfl (any_of HT_.out (by kernel_rfl)) (fun _ _ _ h => h) (Or.inl ⟨by rfl, ?_⟩) ?_ ?_
                              rotate_left
                              · intro w'
                                go_simp
                                with_reducible rfl
                              rotate_left
                              · simp only [Act.put, List.setIfInBounds_toArray, List.set_cons_zero, List.set_cons_succ, i64_w, i32_w]
                                rfl
                              refine pure_ (i := 16) (N := some 69) (v := ?_) (a' := ?_) #[true, true, true, true, true, true, true, true, true, true, true, false, true, true, true, true, true, false, false, false] rfl rfl (any_of HT_.out (by kernel_rfl)) (fun _ _ _ h => h) (Or.inl ⟨by rfl, ?_⟩) ?_ ?_
                              rotate_left
                              · intro w'
                                go_simp
                                with_reducible rfl
                              rotate_left
                              · simp only [Act.put, List.setIfInBounds_toArray, List.set_cons_zero, List.set_cons_succ, i64_w, i32_w]
                                rfl
                              refine take_ (i := 11) (N := some 64) (v := ?_) (a' := ?_) #[true, true, true, true, true, true, true, true, true, true, true, true, true, true, true, true, true, false, false, false] rfl rfl (take_ofW HT_.out HW_.out (by kernel_rfl)) (fun _ _ _ h => h) (Or.inl ⟨by rfl, ?_⟩) hHeld ?_ ?_
                              rotate_left
                              · intro w' s0
                                go_simp
                                with_reducible rfl
                              rotate_left
                              · simp only [Act.put, List.setIfInBounds_toArray, List.set_cons_zero, List.set_cons_succ, i64_w, i32_w]
                                rfl
                              refine pure_ (i := 17) (N := some 70) (v := ?_) (a' := ?_) #[true, true, true, true, true, true, true, true, true, true, true, true, true, true, true, true, true, true, false, false] rfl rfl (any_of HT_.out (by kernel_rfl)) (fun _ _ _ h => h) (Or.inl ⟨by rfl, ?_⟩) ?_ ?_
                              rotate_left
                              · intro w'
                                go_simp
                                with_reducible rfl
                              rotate_left
                              · simp only [Act.put, List.setIfInBounds_toArray, List.set_cons_zero, List.set_cons_succ, i64_w, i32_w]
                                rfl
                              refine pure_ (i := 18) (N := some 71) (v := ?_) (a' := ?_) #[true, true, true, true, true, true, true, true, true, true, true, true, true, true, true, true, true, true, true, false] rfl rfl (any_of HT_.out (by kernel_rfl)) (fun _ _ _ h => h) (Or.inl ⟨by rfl, ?_⟩) ?_ ?_
                              rotate_left
                              · intro w'
                                go_simp
                                with_reducible rfl
                              rotate_left
                              · simp only [Act.put, List.setIfInBounds_toArray, List.set_cons_zero, List.set_cons_succ, i64_w, i32_w]
                                rfl
                              refine last_ (i := 19) (N := none) #[true, true, true, true, true, true, true, true, true, true, true, true, true, true, true, true, true, true, true, true] rfl rfl (one_of HT_.out (by kernel_rfl)) (by decide) (fun K hK => ?_)
                              refine skip_ (w1 := ?_) (by rfl) rfl ?_ ?_
                              rotate_left
                              · go_simp
                                rfl
                              refine hK.out _ _ ?_
                              clear hK K
                              refine done_ (done_of HT_.out (by kernel_rfl)) ?_
                              try go_wp2
                              (try simp only [← hl8_2])
                              go_roundg kj17
                              case measure => have := HJ6.out; have := HK2.out; have := HJ17.out; omega
                              case rel => exact ⟨(y135), (wrap64 (x12_2 + 1)), (by first | rfl | (simp; done) | (simp [*]; done)), H', ⟨by have := HJ6.out; have := HK2.out; have := HJ17.out; omega⟩, ⟨by (try simp only [hl8_2]); (with_reducible repeat (first | apply Kd.R_alloc | apply Kd.R_drewN | apply Kd.R_drew)); exact HQ33.out⟩, ⟨by repeat (first | (with_reducible first | exact HB.out | apply below_alloc | apply pw_below_drewN | apply below_drew1 | refine below_set ?_ GB31.out) | exact HB.out)⟩⟩
                            · rw [if_neg c29] at H
                              exact absurd H (by simp)
                          · rw [if_neg c27] at H
                            exact absurd H (by simp)
                        · rw [if_neg c26] at H
                          exact absurd H (by simp)
                      · rw [if_neg c24] at H
                        have c24b0 : ((Go.bits .and .u16 (ji23) 1) == 1) = false := beq_eq_false_iff_ne.mpr c24
                        have c24b1 : ((Go.bits .and .u16 (ji23) 1) != 1) = true := bne_iff_ne.mpr c24
                        have H' := Aside0.mk H
                        clear H
                        go_wp2
                        (try simp only [← hl8_2])
                        go_roundg kj17
                        case measure => have := HJ6.out; have := HK2.out; have := HJ17.out; omega
                        case rel => exact ⟨(x8_2), (wrap64 (x12_2 + 1)), (by first | rfl | (simp; done) | (simp [*]; done)), H', ⟨by have := HJ6.out; have := HK2.out; have := HJ17.out; omega⟩, ⟨by (try simp only [hl8_2]); (with_reducible repeat (first | apply Kd.R_alloc | apply Kd.R_drewN | apply Kd.R_drew)); exact HO_8.out⟩, ⟨by repeat (first | (with_reducible first | exact HB.out | apply below_alloc | apply pw_below_drewN | apply below_drew1) | exact HB.out)⟩⟩
                    · rw [if_neg c22] at H
                      exact absurd H (by simp)
                  · replace c20 := Bool.eq_false_iff.mpr c20
                    subst c20
                    have H1 : ((crc_Sum.f kj17 x8_2).bind fun t136 => (some (t136 != 0))) = some r := by rw [if_neg (show ¬ (false = true) by decide)] at H; exact H
                    clear H
                    have H := H1
                    clear H1
                    replace H := Option.bind_eq_some_iff.mp H
                    obtain ⟨t136, A340, H⟩ := H
                    replace H : (some (t136 != 0)) = some r := H
                    have A34 := Aside0.mk A340
                    clear A340
                    obtain rfl := Option.some.inj H
                    go_wp2_with (first | ((with_reducible refine gate_callee (f := 17) rfl ?_); refine goesL_ (some 73) rfl rfl Try.func17 (by kernel_rfl) rfl #[.slice Ao17 x8_2.length co17] rfl (by (try simp only [List.map_toArray, List.map_cons, List.map_nil]); first | done | rfl | (simp only [List.length_drop, List.length_take]; rfl)) ?_; (with_reducible refine (crc_Sum.calls kj17 _ _ x8_2 t136 _ ?side1 ?side2 A34.out).mono ?_); (case side1 => repeat (first | exact (Kd.R_reads' HO_8.out).2.2 | (with_reducible refine Kd.C_alloc ?_ _) | (with_reducible refine Kd.C_drewN ?_ _) | (with_reducible refine Kd.C_drew ?_))); (case side2 => exact (Kd.R_reads' HO_8.out).2.1); rintro e w' ⟨rfl, ⟨nd, rfl⟩⟩; refine ⟨_, rfl, ?_⟩))
                    go_ret
                    exact ⟨by first | rfl | (simp [errW_none, errW_some] <;> rfl) | (simp [*, errW_none, errW_some] <;> rfl), by repeat (first | (with_reducible first | exact HB.out | apply below_alloc | apply pw_below_drewN | apply below_drew1) | exact HB.out)⟩

/-- THE ONE PURE STATEMENT of sidesticklaw03_CrcBursts: yours. -/
def sidesticklaw03_CrcBursts.Pure : Prop := ∀ (l0 : List Int) (a1 : Int) (a2 : Int), l0.length ≤ maxLen → l0.length * 1 ≤ 140737488351232 → (∀ x ∈ l0, (Lit.int .u8 x).wf = true) → (Lit.int .i64 a1).wf = true → (Lit.int .u16 a2).wf = true → ∃ k, sidesticklaw03_CrcBursts.f k l0 a1 a2 = some true
theorem sidesticklaw03_CrcBursts.walk (P : sidesticklaw03_CrcBursts.Pure) (a0 : Option Addr) (len0 cap0 : Nat) (z0 : List Int) (a1 : Int) (a2 : Int) (w : World) (w0 : (a0 = none ∧ len0 = 0 ∧ cap0 = 0 ∧ z0 = []) ∨ ∃ x, a0 = some x ∧ len0 ≤ cap0 ∧ cap0 ≤ maxLen ∧ z0.length = cap0 ∧ (∀ i, i < z0.length → w.cell? (x.add i) = some (.int .u8 (z0.getD i 0))) ∧ ∀ n ∈ z0, (Lit.int .u8 n).wf = true) (y0 : len0 * 1 ≤ 140737488351232) (w1 : (Lit.int .i64 a1).wf = true) (w2 : (Lit.int .u16 a2).wf = true) :
    Calls Try.prog 5 #[.slice a0 len0 cap0, .int .i64 a1, .int .u16 a2] w fun e w' => e = .returned (.bool true) ∧ Below w.heap.size w w' := by
  obtain ⟨l0, rfl, hr0, hm0, hw0, hc0⟩ := ReadsInt.ofRowC w0
  obtain ⟨k, h⟩ := P l0 a1 a2 hm0 y0 hw0 w1 w2
  refine (sidesticklaw03_CrcBursts.calls k _ _ l0 a1 a2 true w (Kd.C_of_reads (d := (0 : Int)) (h1 := fun _ => rfl) hr0) hc0 h).mono ?_
  rintro e w' ⟨rfl, hd⟩
  exact ⟨rfl, hd⟩

end Go.Proofs.Ytjmpoiafcdphbaa.PCrcBursts
