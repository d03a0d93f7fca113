/- The walks of FrameBursts (print.sh wrote the lines; bytes.IndexByte and slices.Clone are ours). -/
import Derived.Test.YtjmpoiafcdphbaaQFrameBurstsx0
import Derived.Test.YtjmpoiafcdphbaaQFrameBurstsx2
import Derived.Test.YtjmpoiafcdphbaaQFrameBurstsx3
namespace Go.Proofs.Ytjmpoiafcdphbaa.PFrameBursts
open Go.RowKit Go.Proofs.YtjmpoiafcdphbaaW.PrintWords Go.Proofs.YtjmpoiafcdphbaaW.PrintLast Go.Proofs.YtjmpoiafcdphbaaW.PrintMore
attribute [local go_sem] max2_int min2_int max_two min_two max_three min_three max_four min_four   -- for this text's walks alone
set_option linter.unusedVariables false
set_option linter.unusedSimpArgs false

/-! ### sidesticklaw06_FrameBursts: function 12 -/
mutual
def sidesticklaw06_FrameBursts.j0 : Nat → Int → Int → List Int → Bool → Option (Bool)
  | 0, _, _, _, _ => none
  | k + 1, x1, x2, x8, x37 => if x37 = true then (some false) else ((some (([] : List Int) : List Int)).bind fun y211 => (if y211.length + x8.length < 140737488355328 then (if (wrap64 (8 * (wrap64 ((x8.length : Int) - 3)))) = 0 then (none) else (sidesticklaw06_FrameBursts.l0 k x2 x8 (y211 ++ x8) (wrap64 (8 * (wrap64 ((x8.length : Int) - 3)))) (Int.tmod (wrap64 ((Int.tmod x1 (wrap64 (8 * (wrap64 ((x8.length : Int) - 3))))) + (wrap64 (8 * (wrap64 ((x8.length : Int) - 3)))))) (wrap64 (8 * (wrap64 ((x8.length : Int) - 3))))) (Go.bits .or .u16 x2 32768) 0)) else (none)))
def sidesticklaw06_FrameBursts.l0 : Nat → Int → List Int → List Int → Int → Int → Int → Int → Option (Bool)
  | 0, _, _, _, _, _, _, _ => none
  | k + 1, x2, x8, x10, x11, x12, x13, x14 => if x14 < 16 then (sidesticklaw06_FrameBursts.j2 k x2 x8 x10 x11 x12 x13 x14 (decide ((wrap64 (x12 + x14)) < x11))) else (sidesticklaw06_FrameBursts.j2 k x2 x8 x10 x11 x12 x13 x14 false)
def sidesticklaw06_FrameBursts.j2 : Nat → Int → List Int → List Int → Int → Int → Int → Int → Bool → Option (Bool)
  | 0, _, _, _, _, _, _, _, _ => none
  | k + 1, x2, x8, x10, x11, x12, x13, x14, x62 => if x62 = true then (if 0 ≤ (wrap64 (15 - x14)) then (if (Go.bits .and .u16 (shr .u16 x13 (wrap64 (15 - x14))) 1) = 1 then (if 0 ≤ (wrap64 (3 + (wrap64 (Int.tdiv (wrap64 (x12 + x14)) 8)))) then (if (wrap64 (3 + (wrap64 (Int.tdiv (wrap64 (x12 + x14)) 8)))) < (x8.length : Int) then (if 0 ≤ (Int.tmod (wrap64 (x12 + x14)) 8) then (sidesticklaw06_FrameBursts.l0 k x2 (x8.set ((wrap64 (3 + (wrap64 (Int.tdiv (wrap64 (x12 + x14)) 8)))) : Int).toNat (Go.bits .xor .u8 (rd x8 (wrap64 (3 + (wrap64 (Int.tdiv (wrap64 (x12 + x14)) 8))))) (shr .u8 128 (Int.tmod (wrap64 (x12 + x14)) 8)))) x10 x11 x12 x13 (wrap64 (x14 + 1))) else (none)) else (none)) else (none)) else (sidesticklaw06_FrameBursts.l0 k x2 x8 x10 x11 x12 x13 (wrap64 (x14 + 1)))) else (none)) else ((frame_Next.f k x8).bind fun bt219 => ((some (([] : List Int) : List Int)).bind fun y226 => (if y226.length + x10.length < 140737488355328 then ((some (y226 ++ x10 : List Int)).bind fun y229 => (if 1 < (y229.length : Int) then ((frame_Next.f k (y229.set (1 : Int).toNat (((((rd y229 1) + 1) % 256) + ((Go.bits .and .u16 x2 127) % 256)) % 256))).bind fun bt234 => ((some (([] : List Int) : List Int)).bind fun y241 => (if 3 ≤ (x10.length : Int) then ((some (x10.take 3 : List Int)).bind fun y244 => (if y241.length + y244.length < 140737488355328 then ((some (y241 ++ y244 : List Int)).bind fun y248 => (if 2 < (y248.length : Int) then ((frame_Next.f k (y248.set (2 : Int).toNat ((33 + ((Go.bits .and .u16 x2 127) % 256)) % 256))).bind fun bt252 => (if bt219.1 = 3 then (if bt219.2.1 = 1 then (if bt219.2.2.1 = 12 then (if (bt219.2.2.2.length : Int) = 0 then (if bt234.1 = 3 then (if bt234.2.2.1 = 10 then (if bt252.1 = 3 then (some (bt252.2.2.1 == 11)) else (some false)) else (some false)) else (some false)) else (some false)) else (some false)) else (some false)) else (some false))) else (none))) else (none))) else (none)))) else (none))) else (none))))
end
def sidesticklaw06_FrameBursts.f (k : Nat) (l0 : List Int) (a1 : Int) (a2 : Int) : Option (Bool) := (sidesticklaw06_shown.f k).bind fun t203 => ((sidesticklaw06_body.f l0).bind fun t204 => ((frame_Put.f k t204).bind fun bt207 => (if t203 = true then (if bt207.2 = 0 then (sidesticklaw06_FrameBursts.j0 k a1 a2 bt207.1 (decide ((bt207.1.length : Int) < 5))) else (sidesticklaw06_FrameBursts.j0 k a1 a2 bt207.1 true)) else (sidesticklaw06_FrameBursts.j0 k a1 a2 bt207.1 true))))
theorem sidesticklaw06_FrameBursts.mono_l : ∀ k, (∀ y0 y1 y2 y3, LeO (sidesticklaw06_FrameBursts.j0 k y0 y1 y2 y3) (sidesticklaw06_FrameBursts.j0 (k + 1) y0 y1 y2 y3)) ∧ (∀ y0 y1 y2 y3 y4 y5 y6, LeO (sidesticklaw06_FrameBursts.l0 k y0 y1 y2 y3 y4 y5 y6) (sidesticklaw06_FrameBursts.l0 (k + 1) y0 y1 y2 y3 y4 y5 y6)) ∧ (∀ y0 y1 y2 y3 y4 y5 y6 y7, LeO (sidesticklaw06_FrameBursts.j2 k y0 y1 y2 y3 y4 y5 y6 y7) (sidesticklaw06_FrameBursts.j2 (k + 1) y0 y1 y2 y3 y4 y5 y6 y7))
  | 0 => ⟨fun _ _ _ _ r h => by simp [sidesticklaw06_FrameBursts.j0] at h, fun _ _ _ _ _ _ _ r h => by simp [sidesticklaw06_FrameBursts.l0] at h, fun _ _ _ _ _ _ _ _ r h => by simp [sidesticklaw06_FrameBursts.j2] at h⟩
  | k + 1 => by
    obtain ⟨ih0, ih1, ih2⟩ := sidesticklaw06_FrameBursts.mono_l k
    refine ⟨?_, ?_, ?_⟩
    · intro y0 y1 y2 y3
      unfold sidesticklaw06_FrameBursts.j0
      repeat' first
      | (with_reducible exact ih0 _ _ _ _)
      | (with_reducible exact ih1 _ _ _ _ _ _ _)
      | (with_reducible exact ih2 _ _ _ _ _ _ _ _)
      | (with_reducible exact frame_Next.mono _ _)
      | (with_reducible exact frame_Put.mono _ _)
      | (with_reducible exact sidesticklaw06_shown.mono _)
      | (with_reducible exact LeO.refl _)
      | (with_reducible exact LeO.none _)
      | (with_reducible refine LeO.ite ?_ ?_)
      | (with_reducible refine LeO.bind ?_ (fun _ => ?_))
      | exact ih0 _ _ _ _
      | exact ih1 _ _ _ _ _ _ _
      | exact ih2 _ _ _ _ _ _ _ _
      | exact frame_Next.mono _ _
      | exact frame_Put.mono _ _
      | exact sidesticklaw06_shown.mono _
      | exact LeO.none _
      | refine LeO.ite ?_ ?_
      | refine LeO.bind ?_ (fun _ => ?_)
    · intro y0 y1 y2 y3 y4 y5 y6
      unfold sidesticklaw06_FrameBursts.l0
      repeat' first
      | (with_reducible exact ih0 _ _ _ _)
      | (with_reducible exact ih1 _ _ _ _ _ _ _)
      | (with_reducible exact ih2 _ _ _ _ _ _ _ _)
      | (with_reducible exact frame_Next.mono _ _)
      | (with_reducible exact frame_Put.mono _ _)
      | (with_reducible exact sidesticklaw06_shown.mono _)
      | (with_reducible exact LeO.refl _)
      | (with_reducible exact LeO.none _)
      | (with_reducible refine LeO.ite ?_ ?_)
      | (with_reducible refine LeO.bind ?_ (fun _ => ?_))
      | exact ih0 _ _ _ _
      | exact ih1 _ _ _ _ _ _ _
      | exact ih2 _ _ _ _ _ _ _ _
      | exact frame_Next.mono _ _
      | exact frame_Put.mono _ _
      | exact sidesticklaw06_shown.mono _
      | exact LeO.none _
      | refine LeO.ite ?_ ?_
      | refine LeO.bind ?_ (fun _ => ?_)
    · intro y0 y1 y2 y3 y4 y5 y6 y7
      unfold sidesticklaw06_FrameBursts.j2
      repeat' first
      | (with_reducible exact ih0 _ _ _ _)
      | (with_reducible exact ih1 _ _ _ _ _ _ _)
      | (with_reducible exact ih2 _ _ _ _ _ _ _ _)
      | (with_reducible exact frame_Next.mono _ _)
      | (with_reducible exact frame_Put.mono _ _)
      | (with_reducible exact sidesticklaw06_shown.mono _)
      | (with_reducible exact LeO.refl _)
      | (with_reducible exact LeO.none _)
      | (with_reducible refine LeO.ite ?_ ?_)
      | (with_reducible refine LeO.bind ?_ (fun _ => ?_))
      | exact ih0 _ _ _ _
      | exact ih1 _ _ _ _ _ _ _
      | exact ih2 _ _ _ _ _ _ _ _
      | exact frame_Next.mono _ _
      | exact frame_Put.mono _ _
      | exact sidesticklaw06_shown.mono _
      | exact LeO.none _
      | refine LeO.ite ?_ ?_
      | refine LeO.bind ?_ (fun _ => ?_)
theorem sidesticklaw06_FrameBursts.mono : ∀ a0 a1 a2 k, LeO (sidesticklaw06_FrameBursts.f k a0 a1 a2) (sidesticklaw06_FrameBursts.f (k + 1) a0 a1 a2) := by
  intro a0 a1 a2 k
  obtain ⟨ih0, ih1, ih2⟩ := sidesticklaw06_FrameBursts.mono_l k
  unfold sidesticklaw06_FrameBursts.f
  repeat' first
      | (with_reducible exact ih0 _ _ _ _)
      | (with_reducible exact ih1 _ _ _ _ _ _ _)
      | (with_reducible exact ih2 _ _ _ _ _ _ _ _)
      | (with_reducible exact frame_Next.mono _ _)
      | (with_reducible exact frame_Put.mono _ _)
      | (with_reducible exact sidesticklaw06_shown.mono _)
      | (with_reducible exact LeO.refl _)
      | (with_reducible exact LeO.none _)
      | (with_reducible refine LeO.ite ?_ ?_)
      | (with_reducible refine LeO.bind ?_ (fun _ => ?_))
      | exact ih0 _ _ _ _
      | exact ih1 _ _ _ _ _ _ _
      | exact ih2 _ _ _ _ _ _ _ _
      | exact frame_Next.mono _ _
      | exact frame_Put.mono _ _
      | exact sidesticklaw06_shown.mono _
      | exact LeO.none _
      | refine LeO.ite ?_ ?_
      | refine LeO.bind ?_ (fun _ => ?_)
def sidesticklaw06_FrameBursts.T13 : Bool × List (List Nat × List Nat) := (true, [([], []), ([], []), ([], []), ([1, 2], [1, 2]), ([3], [3]), ([4], [4]), ([], []), ([], []), ([], []), ([7, 8], [7, 8]), ([9], [9]), ([10], [10]), ([6, 11], [6, 11]), ([12], [12]), ([], []), ([], []), ([14, 15], [14, 15]), ([16], [16]), ([17], [17]), ([13, 18], [13, 18]), ([0, 5, 0, 1, 2, 3, 4, 5, 6, 7, 8, 9, 10, 11, 12, 13, 14, 15, 16, 17, 18, 19], [0, 5]), ([20, 19, 0, 1, 2, 3, 4, 5, 6, 7, 8, 9, 10, 11, 12, 13, 14, 15, 16, 17, 18, 19], [19, 20])])
def sidesticklaw06_FrameBursts.B13 : List Nat := [0, 0, 0, 6, 14, 30, 0, 0, 0, 384, 896, 1920, 4032, 8128, 0, 0, 49152, 114688, 245760, 524224, 1048575, 2097151]
theorem sidesticklaw06_FrameBursts.tab13 : rtab .any (opsOf Try.f12 13) = sidesticklaw06_FrameBursts.T13 := by kernel_rfl
theorem sidesticklaw06_FrameBursts.bits13 : waitsOk sidesticklaw06_FrameBursts.T13.2 sidesticklaw06_FrameBursts.B13 = true := by kernel_rfl
set_option maxHeartbeats 8000000 in
set_option maxRecDepth 100000 in
theorem sidesticklaw06_FrameBursts.calls (k : Nat) (A0 : Option Addr) (c0 : Nat) (l0 : List Int) (a1 : Int) (a2 : Int) (r : Bool) (w : World) (hr0 : Kd.C (Kd.int .u8) w A0 l0.length l0) (hc0 : l0.length ≤ c0) (h : sidesticklaw06_FrameBursts.f k l0 a1 a2 = some r) (ht : r = true) :
    Calls Try.prog 12 #[.slice A0 l0.length c0, .int .i64 a1, .int .u16 a2] w fun e w' => e = .returned (.bool r) ∧ Below w.heap.size w w' := by
  have HT := Aside0.mk ht
  clear ht
  have hu37 := Try.underlying37
  have HR0 := Aside0.mk hr0
  have HC0 := Aside0.mk hc0
  clear hr0 hc0
  have HB := Aside0.mk (Below.refl w.heap.size w)
  have H : ((sidesticklaw06_shown.f k).bind fun t203 => ((sidesticklaw06_body.f l0).bind fun t204 => ((frame_Put.f k t204).bind fun bt207 => (if t203 = true then (if bt207.2 = 0 then (sidesticklaw06_FrameBursts.j0 k a1 a2 bt207.1 (decide ((bt207.1.length : Int) < 5))) else (sidesticklaw06_FrameBursts.j0 k a1 a2 bt207.1 true)) else (sidesticklaw06_FrameBursts.j0 k a1 a2 bt207.1 true))))) = some r := h
  clear h
  replace H := Option.bind_eq_some_iff.mp H
  obtain ⟨t203, A40, H⟩ := H
  replace H : ((sidesticklaw06_body.f l0).bind fun t204 => ((frame_Put.f k t204).bind fun bt207 => (if t203 = true then (if bt207.2 = 0 then (sidesticklaw06_FrameBursts.j0 k a1 a2 bt207.1 (decide ((bt207.1.length : Int) < 5))) else (sidesticklaw06_FrameBursts.j0 k a1 a2 bt207.1 true)) else (sidesticklaw06_FrameBursts.j0 k a1 a2 bt207.1 true)))) = some r := H
  have A4 := Aside0.mk A40
  clear A40
  replace H := Option.bind_eq_some_iff.mp H
  obtain ⟨t204, A50, H⟩ := H
  replace H : ((frame_Put.f k t204).bind fun bt207 => (if t203 = true then (if bt207.2 = 0 then (sidesticklaw06_FrameBursts.j0 k a1 a2 bt207.1 (decide ((bt207.1.length : Int) < 5))) else (sidesticklaw06_FrameBursts.j0 k a1 a2 bt207.1 true)) else (sidesticklaw06_FrameBursts.j0 k a1 a2 bt207.1 true))) = some r := H
  have A5 := Aside0.mk A50
  clear A50
  replace H := Option.bind_eq_some_iff.mp H
  obtain ⟨⟨t207, t208⟩, A60, H⟩ := H
  replace H : (if t203 = true then (if t208 = 0 then (sidesticklaw06_FrameBursts.j0 k a1 a2 t207 (decide ((t207.length : Int) < 5))) else (sidesticklaw06_FrameBursts.j0 k a1 a2 t207 true)) else (sidesticklaw06_FrameBursts.j0 k a1 a2 t207 true)) = some r := H
  have A6 := Aside0.mk A60
  clear A60
  have HC7 := Aside0.mk H
  clear H
  go_enter Try.func12, Try.ntmps12
  go_upto_region 3 with (first | ((with_reducible refine gate_callee (f := 22) rfl ?_); refine goesL_ (some 20) rfl rfl Try.func22 (by kernel_rfl) rfl #[] rfl (by (try simp only [List.map_toArray, List.map_cons, List.map_nil]); first | done | rfl | (simp only [List.length_drop, List.length_take]; rfl)) ?_; (with_reducible refine (sidesticklaw06_shown.calls k  t203 _ A4.out).mono ?_); rintro e w8 ⟨rfl, hb⟩; refine ⟨_, rfl, ?_⟩; have n0_ := Aside0.mk (below_step (by repeat (first | (with_reducible first | exact HB.out | apply below_alloc | apply pw_below_drewN | apply below_drew1) | exact HB.out)) hb); clear HB; have HB := n0_; clear n0_; (try clear hb); (try clear hb2); (try clear hk); (try clear hi)) | ((with_reducible refine gate_callee (f := 29) rfl ?_); refine goesL_ (some 23) rfl rfl Try.func29 (by kernel_rfl) rfl #[.slice A0 l0.length c0] rfl (by (try simp only [List.map_toArray, List.map_cons, List.map_nil]); first | done | rfl | (simp only [List.length_drop, List.length_take]; rfl)) ?_; (with_reducible refine (sidesticklaw06_body.calls (fun k_ => k_ < w.heap.size) _ _ l0 t204 _ ?side1 A5.out).mono ?_); (case side1 => exact Kd.V_mk HC0.out (Kd.F_below (Kd.C_F (Kd.heap_int .u8) HR0.out) (by repeat (first | (with_reducible first | exact HB.out | apply below_alloc | apply pw_below_drewN | apply below_drew1) | exact HB.out)))); rintro e w9 ⟨v205, rfl, ho0, hb⟩; refine ⟨_, rfl, ?_⟩; have n0_ := Aside0.mk (Kd.V_lower (Kd.V_mono (ok' := fun k_ => True) ho0 (fun k_ hk_ => trivial)) (below_size (by repeat (first | (with_reducible first | exact HB.out | apply below_alloc | apply pw_below_drewN | apply below_drew1) | exact HB.out)))); have n1_ := Aside0.mk (below_step (by repeat (first | (with_reducible first | exact HB.out | apply below_alloc | apply pw_below_drewN | apply below_drew1) | exact HB.out)) hb); clear HB; have HO206 := n0_; have HB := n1_; clear n0_ n1_; (try clear hb); (try clear hb2); (try clear hk); (try clear hi); (try clear ho0); obtain ⟨Ao10, co10, eo10⟩ := Kd.V_slice HO206.out; subst eo10) | ((with_reducible refine gate_callee (f := 26) rfl ?_); refine goesL_ (some 24) rfl rfl Try.func26 (by kernel_rfl) rfl #[.slice Ao10 t204.length co10] rfl (by (try simp only [List.map_toArray, List.map_cons, List.map_nil]); first | done | rfl | (simp only [List.length_drop, List.length_take]; rfl)) ?_; (with_reducible refine (frame_Put.calls k _ _ t204 t207 t208 _ ?side1 ?side2 A6.out).mono ?_); (case side1 => repeat (first | exact (Kd.V_reads' HO206.out).2.2 | (with_reducible refine Kd.C_alloc ?_ _) | (with_reducible refine Kd.C_drewN ?_ _) | (with_reducible refine Kd.C_drew ?_))); (case side2 => exact (Kd.V_reads' HO206.out).2.1); rintro e w11 ⟨v209, rfl, ho0, hb⟩; refine ⟨_, rfl, ?_⟩; have n0_ := Aside0.mk (Kd.V_elder' (by (with_reducible repeat (first | apply Kd.V_alloc | apply Kd.V_drewN | apply Kd.V_drew)); exact HO206.out) (Kd.R_base ho0) hb); have n1_ := Aside0.mk (Kd.R_lower ho0 (below_size (by repeat (first | (with_reducible first | exact HB.out | apply below_alloc | apply pw_below_drewN | apply below_drew1) | exact HB.out)))); have n2_ := Aside0.mk (below_step (by repeat (first | (with_reducible first | exact HB.out | apply below_alloc | apply pw_below_drewN | apply below_drew1) | exact HB.out)) hb); clear HO206; clear HB; have HO206 := n0_; have HO210 := n1_; have HB := n2_; clear n0_ n1_ n2_; (try clear hb); (try clear hb2); (try clear hk); (try clear hi); (try clear ho0)))
  (try simp only [Act.put, List.setIfInBounds_toArray, List.set_cons_zero, List.set_cons_succ])
  go_cut [37] (fun v37 wc => ∃ (kq : Nat) (x37_6 : Bool), v37 = .bool x37_6 ∧ Aside0 (sidesticklaw06_FrameBursts.j0 kq a1 a2 t207 x37_6 = some r) ∧ Aside0 (kq ≤ k) ∧ Aside0 (Kd.R (Kd.int .u8) 5 wc w.heap.size (fun _ => True) v209 t207) ∧ Aside0 (Below w.heap.size w wc))
  case first =>
    have H := HC7.out
    clear HC7
    by_cases c12 : t203 = true
    · subst c12
      have H1 : (if t208 = 0 then (sidesticklaw06_FrameBursts.j0 k a1 a2 t207 (decide ((t207.length : Int) < 5))) else (sidesticklaw06_FrameBursts.j0 k a1 a2 t207 true)) = some r := by rw [if_pos rfl] at H; exact H
      clear H
      have H := H1
      clear H1
      by_cases c13 : t208 = 0
      · rw [if_pos c13] at H
        have c13b0 : (t208 == 0) = true := beq_iff_eq.mpr c13
        have c13b1 : (t208 != 0) = false := bne_eq_false_iff_eq.mpr c13
        clear c13
        (first | rw [c13b0] | (simp only [i64_w, i32_w]; rw [c13b0]) | skip)
        have H' := Aside0.mk H
        clear H
        obtain ⟨Ao14, co14, eo14⟩ := Kd.R_slice HO210.out
        subst eo14
        go_wp2
        go_meet
        case rel => exact ⟨_, (decide ((t207.length : Int) < 5)), (by first | rfl | (simp; done) | (simp [*]; done)), H', ⟨by first | omega | exact Nat.le_refl _⟩, ⟨by (with_reducible repeat (first | apply Kd.R_alloc | apply Kd.R_drewN | apply Kd.R_drew)); exact HO210.out⟩, ⟨by repeat (first | (with_reducible first | exact HB.out | apply below_alloc | apply pw_below_drewN | apply below_drew1) | exact HB.out)⟩⟩
      · rw [if_neg c13] at H
        have c13b0 : (t208 == 0) = false := beq_eq_false_iff_ne.mpr c13
        have c13b1 : (t208 != 0) = true := bne_iff_ne.mpr c13
        (first | rw [c13b0] | (simp only [i64_w, i32_w]; rw [c13b0]) | skip)
        have H' := Aside0.mk H
        clear H
        go_wp2
        go_meet
        case rel => exact ⟨_, (true), (by first | rfl | (simp; done) | (simp [*]; done)), H', ⟨by first | omega | exact Nat.le_refl _⟩, ⟨by (with_reducible repeat (first | apply Kd.R_alloc | apply Kd.R_drewN | apply Kd.R_drew)); exact HO210.out⟩, ⟨by repeat (first | (with_reducible first | exact HB.out | apply below_alloc | apply pw_below_drewN | apply below_drew1) | exact HB.out)⟩⟩
    · replace c12 := Bool.eq_false_iff.mpr c12
      subst c12
      have H1 : (sidesticklaw06_FrameBursts.j0 k a1 a2 t207 true) = some r := by rw [if_neg (show ¬ (false = true) by decide)] at H; exact H
      clear H
      have H := H1
      clear H1
      have H' := Aside0.mk H
      clear H
      go_wp2
      go_meet
      case rel => exact ⟨_, (true), (by first | rfl | (simp; done) | (simp [*]; done)), H', ⟨by first | omega | exact Nat.le_refl _⟩, ⟨by (with_reducible repeat (first | apply Kd.R_alloc | apply Kd.R_drewN | apply Kd.R_drew)); exact HO210.out⟩, ⟨by repeat (first | (with_reducible first | exact HB.out | apply below_alloc | apply pw_below_drewN | apply below_drew1) | exact HB.out)⟩⟩
  case rest =>
    clear HC7
    try clear c1
    try clear c2
    try clear p2
    try clear c12
    try clear c13
    try clear c13b0
    try clear c13b1
    obtain ⟨kq, x37_6, rfl, HA, HJ6, HO_8, HB⟩ := hcut
    cases kq with
    | zero => exact absurd HA.out (by simp [sidesticklaw06_FrameBursts.j0])
    | succ kj6 =>
      have H := HA.out
      clear HA
      simp only [sidesticklaw06_FrameBursts.j0] at H
      by_cases c15 : x37_6 = true
      · subst c15
        have H1 : (some false) = some r := by rw [if_pos rfl] at H; exact H
        clear H
        have H := H1
        clear H1
        obtain rfl := Option.some.inj H
        exact absurd HT.out (by simp)
      · replace c15 := Bool.eq_false_iff.mpr c15
        subst c15
        have H1 : ((some (([] : List Int) : List Int)).bind fun y211 => (if y211.length + t207.length < 140737488355328 then (if (wrap64 (8 * (wrap64 ((t207.length : Int) - 3)))) = 0 then (none) else (sidesticklaw06_FrameBursts.l0 kj6 a2 t207 (y211 ++ t207) (wrap64 (8 * (wrap64 ((t207.length : Int) - 3)))) (Int.tmod (wrap64 ((Int.tmod a1 (wrap64 (8 * (wrap64 ((t207.length : Int) - 3))))) + (wrap64 (8 * (wrap64 ((t207.length : Int) - 3)))))) (wrap64 (8 * (wrap64 ((t207.length : Int) - 3))))) (Go.bits .or .u16 a2 32768) 0)) else (none))) = some r := by rw [if_neg (show ¬ (false = true) by decide)] at H; exact H
        clear H
        have H := H1
        clear H1
        obtain ⟨y211, hy211⟩ : ∃ y_ : List Int, y_ = (([] : List Int)) := ⟨_, rfl⟩
        replace H : (if y211.length + t207.length < 140737488355328 then (if (wrap64 (8 * (wrap64 ((t207.length : Int) - 3)))) = 0 then (none) else (sidesticklaw06_FrameBursts.l0 kj6 a2 t207 (y211 ++ t207) (wrap64 (8 * (wrap64 ((t207.length : Int) - 3)))) (Int.tmod (wrap64 ((Int.tmod a1 (wrap64 (8 * (wrap64 ((t207.length : Int) - 3))))) + (wrap64 (8 * (wrap64 ((t207.length : Int) - 3)))))) (wrap64 (8 * (wrap64 ((t207.length : Int) - 3))))) (Go.bits .or .u16 a2 32768) 0)) else (none)) = some r := by first | (rw [hy211]; with_reducible exact H) | (have H2_ := (Option.bind_some _ _).symm.trans H; rw [hy211]; with_reducible exact H2_) | (have H2_ := (Option.bind_some _ _).symm.trans H; with_reducible exact H2_) | with_reducible exact H | (rw [hy211]; exact H) | exact H
        have Ny211 := Aside0.mk hy211
        clear hy211
        by_cases c16 : y211.length + t207.length < 140737488355328
        · rw [if_pos c16] at H
          have LMc16 := Aside0.mk c16
          clear c16
          obtain ⟨y214, hy214⟩ : ∃ y_ : List Int, y_ = (y211 ++ t207) := ⟨_, rfl⟩
          replace H : (if (wrap64 (8 * (wrap64 ((t207.length : Int) - 3)))) = 0 then (none) else (sidesticklaw06_FrameBursts.l0 kj6 a2 t207 y214 (wrap64 (8 * (wrap64 ((t207.length : Int) - 3)))) (Int.tmod (wrap64 ((Int.tmod a1 (wrap64 (8 * (wrap64 ((t207.length : Int) - 3))))) + (wrap64 (8 * (wrap64 ((t207.length : Int) - 3)))))) (wrap64 (8 * (wrap64 ((t207.length : Int) - 3))))) (Go.bits .or .u16 a2 32768) 0)) = some r := by first | (rw [hy214]; with_reducible exact H) | (have H2_ := (Option.bind_some _ _).symm.trans H; rw [hy214]; with_reducible exact H2_) | (have H2_ := (Option.bind_some _ _).symm.trans H; with_reducible exact H2_) | with_reducible exact H | (rw [hy214]; exact H) | exact H
          have Ny214 := Aside0.mk hy214
          clear hy214
          by_cases c17 : (wrap64 (8 * (wrap64 ((t207.length : Int) - 3)))) = 0
          · rw [if_pos c17] at H
            exact absurd H (by simp)
          · rw [if_neg c17] at H
            have c17b0 : ((wrap64 (8 * (wrap64 ((t207.length : Int) - 3)))) == 0) = false := beq_eq_false_iff_ne.mpr c17
            have c17b1 : ((wrap64 (8 * (wrap64 ((t207.length : Int) - 3)))) != 0) = true := bne_iff_ne.mpr c17
            have H' := Aside0.mk H
            clear H
            go_wp2_with (first | ((with_reducible refine gate_dst (N := 38) rfl ?_); (try (refine gate_guard (by rfl) ?_; dsimp only)); refine Kd.R_lit (Kd.int .u8) _ 5 ?hg (N := 38) ?hd (xs := ([] : List Int)) (inner := []) (ok := fun _ => True) (okp := fun _ => True) ?hr ?hp (fun _ hk => hk) trivial (Below.refl _ _) (Nat.le_refl _) (by simp) ?_; (case hd => rfl); (case hg => rfl); (case hr => first | (go_simp; done) | (go_simp; rfl)); (case hp => exact (Reps.none _ _)); intro v212 w18 ho19 hb hg_ hnew_; clear hg_ hnew_; (first | rw [← Ny211.out] at ho19 | (simp only [Int.reduceToNat] at ho19; rw [← Ny211.out] at ho19)); have n0_ := Aside0.mk (Kd.R_elder' (by (with_reducible repeat (first | apply Kd.R_alloc | apply Kd.R_drewN | apply Kd.R_drew)); exact HO_8.out) (Kd.R_base ho19) hb); have n1_ := Aside0.mk (Kd.R_lower (Kd.R_new' ho19 (Kd.R_lt (by (with_reducible repeat (first | apply Kd.R_alloc | apply Kd.R_drewN | apply Kd.R_drew)); exact HO_8.out))) (below_size (by repeat (first | (with_reducible first | exact HB.out | apply below_alloc | apply pw_below_drewN | apply below_drew1) | exact HB.out)))); have n2_ := Aside0.mk (below_step (by repeat (first | (with_reducible first | exact HB.out | apply below_alloc | apply pw_below_drewN | apply below_drew1) | exact HB.out)) hb); clear HO_8; clear HB; have HO_8 := n0_; have HO213 := n1_; have HB := n2_; clear n0_ n1_ n2_; clear hb ho19; obtain ⟨Ao21, co21, eo21⟩ := Kd.R_slice HO_8.out; subst eo21) | ((with_reducible refine gate_builtin (b := .append) (xs := #[.tmp 38, .tmp 39]) rfl ?_); (try (refine gate_guard (by rfl) ?_; dsimp only)); at_builtin; refine Kd.R_append_rows (Kd.int .u8) (w0 := w) w.heap.size rfl (.tmp 38) (.tmp 39) 22 5 (.int .u8 0) 1 rfl Try.underlying22 info5 rfl (by decide) (by omega) v212 y211 t207 _ _ _ (fun k_ => some k_ ≠ (.slice Ao21 t207.length co21 : Value).ownBlock) (fun _ => False) rfl rfl ?aO ?aR (fun _ _ h => h) (fun _ h => h.elim) ?aF ?aB ?aS ?aL ?_; (case aR => repeat (first | exact (Kd.R_reads' HO_8.out).2.2 | (with_reducible refine Kd.C_alloc ?_ _) | (with_reducible refine Kd.C_drewN ?_ _) | (with_reducible refine Kd.C_drew ?_))); (case aB => exact (by repeat (first | (with_reducible first | exact HB.out | apply below_alloc | apply pw_below_drewN | apply below_drew1) | exact HB.out))); (case aF => exact (fun k_ hk => Kd.fresh' (Kd.R_lt (by (with_reducible repeat (first | apply Kd.R_alloc | apply Kd.R_drewN | apply Kd.R_drew)); exact HO_8.out)) k_ hk)); (case aO => exact (by (with_reducible repeat (first | apply Kd.R_alloc | apply Kd.R_drewN | apply Kd.R_drew)); exact Kd.R_mono HO213.out (fun _ hk => hk.2))); (case aS => exact (below_size (by repeat (first | (with_reducible first | exact HB.out | apply below_alloc | apply pw_below_drewN | apply below_drew1) | exact HB.out)))); (case aL => have := LMc16.out; omega); intro v215 w20 ho hb hg hat; rw [← Ny214.out] at ho; have n0_ := Aside0.mk (Kd.R_after (ok := (fun _ => True)) (by (with_reducible repeat (first | apply Kd.R_alloc | apply Kd.R_drewN | apply Kd.R_drew)); exact HO_8.out) hg hat); have n1_ := Aside0.mk (hb); have n2_ := Aside0.mk (ho); clear HO_8; clear HB; clear HO213; have HO_8 := n0_; have HB := n1_; have HO216 := n2_; clear n0_ n1_ n2_; clear ho hb hg hat))
            go_loopg [14] kj6 (fun kq v14 w' => ∃ (x8_2 : List Int) (x14_2 : Int), v14 = .int .i64 x14_2 ∧ Aside0 (sidesticklaw06_FrameBursts.l0 kq a2 x8_2 y214 (wrap64 (8 * (wrap64 ((t207.length : Int) - 3)))) (Int.tmod (wrap64 ((Int.tmod a1 (wrap64 (8 * (wrap64 ((t207.length : Int) - 3))))) + (wrap64 (8 * (wrap64 ((t207.length : Int) - 3)))))) (wrap64 (8 * (wrap64 ((t207.length : Int) - 3))))) (Go.bits .or .u16 a2 32768) x14_2 = some r) ∧ Aside0 (kq ≤ kj6) ∧ Aside0 (Kd.R (Kd.int .u8) 5 w' w.heap.size (fun k_ => some k_ ≠ (v215 : Value).ownBlock) (.slice Ao21 t207.length co21) x8_2) ∧ Aside0 (Kd.R (Kd.int .u8) 5 w' w.heap.size (fun k_ => some k_ ≠ ((.slice Ao21 t207.length co21) : Value).ownBlock) v215 y214) ∧ Aside0 (Below w.heap.size w w'))
            case atStart => exact ⟨(t207), (0), (by first | rfl | (simp; done) | (simp [*]; done)), H', ⟨Nat.le_refl _⟩, ⟨by (with_reducible repeat (first | apply Kd.R_alloc | apply Kd.R_drewN | apply Kd.R_drew)); exact Kd.R_mono HO_8.out (fun _ hk => hk.2)⟩, ⟨by (with_reducible repeat (first | apply Kd.R_alloc | apply Kd.R_drewN | apply Kd.R_drew)); exact HO216.out⟩, ⟨by repeat (first | (with_reducible first | exact HB.out | apply below_alloc | apply pw_below_drewN | apply below_drew1) | exact HB.out)⟩⟩
            case round =>
              clear H'
              try clear c1
              try clear c2
              try clear p2
              try clear p6
              try clear c12
              try clear c13
              try clear c13b0
              try clear c13b1
              try clear c15
              try clear c16
              try clear c17
              try clear c17b0
              try clear c17b1
              try clear p2
              obtain ⟨x8_2, x14_2, rfl, HA, HK2, HO_8, HO_10, HB⟩ := hrel
              have hl8_2 := (Kd.R_reads' HO_8.out).1
              rw [hl8_2] at HO_8
              (try simp only [hl8_2])
              (try simp only [hl8_2] at HO_10)
              cases gk with
              | zero => exact absurd HA.out (by simp [sidesticklaw06_FrameBursts.l0])
              | succ k2 =>
                have H := HA.out
                clear HA
                simp only [sidesticklaw06_FrameBursts.l0] at H
                have HC22 := Aside0.mk H
                clear H
                go_upto_region 10 with (fail)
                go_cut [62] (fun v62 wc => ∃ (kq : Nat) (x62_21 : Bool), v62 = .bool x62_21 ∧ Aside0 (sidesticklaw06_FrameBursts.j2 kq a2 x8_2 y214 (wrap64 (8 * (wrap64 ((t207.length : Int) - 3)))) (Int.tmod (wrap64 ((Int.tmod a1 (wrap64 (8 * (wrap64 ((t207.length : Int) - 3))))) + (wrap64 (8 * (wrap64 ((t207.length : Int) - 3)))))) (wrap64 (8 * (wrap64 ((t207.length : Int) - 3))))) (Go.bits .or .u16 a2 32768) x14_2 x62_21 = some r) ∧ Aside0 (kq ≤ k2) ∧ Aside0 (Kd.R (Kd.int .u8) 5 wc w.heap.size (fun k_ => some k_ ≠ (v215 : Value).ownBlock) (.slice Ao21 x8_2.length co21) x8_2) ∧ Aside0 (Kd.R (Kd.int .u8) 5 wc w.heap.size (fun k_ => some k_ ≠ ((.slice Ao21 x8_2.length co21) : Value).ownBlock) v215 y214) ∧ Aside0 (Below w.heap.size w wc))
                case first =>
                  have H := HC22.out
                  clear HC22
                  by_cases c23 : x14_2 < 16
                  · rw [if_pos c23] at H
                    have c23b0 : decide (x14_2 < 16) = true := decide_eq_true c23
                    clear c23
                    (first | rw [c23b0] | (simp only [i64_w, i32_w]; rw [c23b0]) | skip)
                    have H' := Aside0.mk H
                    clear H
                    go_wp2
                    go_meet
                    case rel => exact ⟨_, (decide ((wrap64 ((Int.tmod (wrap64 ((Int.tmod a1 (wrap64 (8 * (wrap64 ((t207.length : Int) - 3))))) + (wrap64 (8 * (wrap64 ((t207.length : Int) - 3)))))) (wrap64 (8 * (wrap64 ((t207.length : Int) - 3))))) + x14_2)) < (wrap64 (8 * (wrap64 ((t207.length : Int) - 3)))))), (by first | rfl | (simp; done) | (simp [*]; done)), H', ⟨by have := HJ6.out; have := HK2.out; first | omega | exact Nat.le_refl _⟩, ⟨by (try simp only [hl8_2]); (with_reducible repeat (first | apply Kd.R_alloc | apply Kd.R_drewN | apply Kd.R_drew)); exact HO_8.out⟩, ⟨by (try simp only [hl8_2]); (with_reducible repeat (first | apply Kd.R_alloc | apply Kd.R_drewN | apply Kd.R_drew)); exact HO_10.out⟩, ⟨by repeat (first | (with_reducible first | exact HB.out | apply below_alloc | apply pw_below_drewN | apply below_drew1) | exact HB.out)⟩⟩
                  · rw [if_neg c23] at H
                    have c23b0 : decide (x14_2 < 16) = false := decide_eq_false c23
                    clear c23
                    (first | rw [c23b0] | (simp only [i64_w, i32_w]; rw [c23b0]) | skip)
                    have H' := Aside0.mk H
                    clear H
                    go_wp2
                    go_meet
                    case rel => exact ⟨_, (false), (by first | rfl | (simp; done) | (simp [*]; done)), H', ⟨by have := HJ6.out; have := HK2.out; first | omega | exact Nat.le_refl _⟩, ⟨by (try simp only [hl8_2]); (with_reducible repeat (first | apply Kd.R_alloc | apply Kd.R_drewN | apply Kd.R_drew)); exact HO_8.out⟩, ⟨by (try simp only [hl8_2]); (with_reducible repeat (first | apply Kd.R_alloc | apply Kd.R_drewN | apply Kd.R_drew)); exact HO_10.out⟩, ⟨by repeat (first | (with_reducible first | exact HB.out | apply below_alloc | apply pw_below_drewN | apply below_drew1) | exact HB.out)⟩⟩
                case rest =>
                  clear HC22
                  try clear c1
                  try clear c2
                  try clear p2
                  try clear p6
                  try clear c12
                  try clear c13
                  try clear c13b0
                  try clear c13b1
                  try clear c15
                  try clear c16
                  try clear c17
                  try clear c17b0
                  try clear c17b1
                  try clear c22
                  try clear c23
                  try clear c23b0
                  try clear p2
                  try clear p6
                  obtain ⟨kq, x62_21, rfl, HA, HJ21, HO_8, HO_10, HB⟩ := hcut
                  cases kq with
                  | zero => exact absurd HA.out (by simp [sidesticklaw06_FrameBursts.j2])
                  | succ kj21 =>
                    have H := HA.out
                    clear HA
                    simp only [sidesticklaw06_FrameBursts.j2] at H
                    by_cases c24 : x62_21 = true
                    · subst c24
                      have H1 : (if 0 ≤ (wrap64 (15 - x14_2)) then (if (Go.bits .and .u16 (shr .u16 (Go.bits .or .u16 a2 32768) (wrap64 (15 - x14_2))) 1) = 1 then (if 0 ≤ (wrap64 (3 + (wrap64 (Int.tdiv (wrap64 ((Int.tmod (wrap64 ((Int.tmod a1 (wrap64 (8 * (wrap64 ((t207.length : Int) - 3))))) + (wrap64 (8 * (wrap64 ((t207.length : Int) - 3)))))) (wrap64 (8 * (wrap64 ((t207.length : Int) - 3))))) + x14_2)) 8)))) then (if (wrap64 (3 + (wrap64 (Int.tdiv (wrap64 ((Int.tmod (wrap64 ((Int.tmod a1 (wrap64 (8 * (wrap64 ((t207.length : Int) - 3))))) + (wrap64 (8 * (wrap64 ((t207.length : Int) - 3)))))) (wrap64 (8 * (wrap64 ((t207.length : Int) - 3))))) + x14_2)) 8)))) < (x8_2.length : Int) then (if 0 ≤ (Int.tmod (wrap64 ((Int.tmod (wrap64 ((Int.tmod a1 (wrap64 (8 * (wrap64 ((t207.length : Int) - 3))))) + (wrap64 (8 * (wrap64 ((t207.length : Int) - 3)))))) (wrap64 (8 * (wrap64 ((t207.length : Int) - 3))))) + x14_2)) 8) then (sidesticklaw06_FrameBursts.l0 kj21 a2 (x8_2.set ((wrap64 (3 + (wrap64 (Int.tdiv (wrap64 ((Int.tmod (wrap64 ((Int.tmod a1 (wrap64 (8 * (wrap64 ((t207.length : Int) - 3))))) + (wrap64 (8 * (wrap64 ((t207.length : Int) - 3)))))) (wrap64 (8 * (wrap64 ((t207.length : Int) - 3))))) + x14_2)) 8)))) : Int).toNat (Go.bits .xor .u8 (rd x8_2 (wrap64 (3 + (wrap64 (Int.tdiv (wrap64 ((Int.tmod (wrap64 ((Int.tmod a1 (wrap64 (8 * (wrap64 ((t207.length : Int) - 3))))) + (wrap64 (8 * (wrap64 ((t207.length : Int) - 3)))))) (wrap64 (8 * (wrap64 ((t207.length : Int) - 3))))) + x14_2)) 8))))) (shr .u8 128 (Int.tmod (wrap64 ((Int.tmod (wrap64 ((Int.tmod a1 (wrap64 (8 * (wrap64 ((t207.length : Int) - 3))))) + (wrap64 (8 * (wrap64 ((t207.length : Int) - 3)))))) (wrap64 (8 * (wrap64 ((t207.length : Int) - 3))))) + x14_2)) 8)))) y214 (wrap64 (8 * (wrap64 ((t207.length : Int) - 3)))) (Int.tmod (wrap64 ((Int.tmod a1 (wrap64 (8 * (wrap64 ((t207.length : Int) - 3))))) + (wrap64 (8 * (wrap64 ((t207.length : Int) - 3)))))) (wrap64 (8 * (wrap64 ((t207.length : Int) - 3))))) (Go.bits .or .u16 a2 32768) (wrap64 (x14_2 + 1))) else (none)) else (none)) else (none)) else (sidesticklaw06_FrameBursts.l0 kj21 a2 x8_2 y214 (wrap64 (8 * (wrap64 ((t207.length : Int) - 3)))) (Int.tmod (wrap64 ((Int.tmod a1 (wrap64 (8 * (wrap64 ((t207.length : Int) - 3))))) + (wrap64 (8 * (wrap64 ((t207.length : Int) - 3)))))) (wrap64 (8 * (wrap64 ((t207.length : Int) - 3))))) (Go.bits .or .u16 a2 32768) (wrap64 (x14_2 + 1)))) else (none)) = some r := by rw [if_pos rfl] at H; exact H
                      clear H
                      have H := H1
                      clear H1
                      obtain ⟨ji25, hji25⟩ : ∃ j_ : Int, (wrap64 (15 - x14_2)) = j_ := ⟨_, rfl⟩
                      replace H : (if 0 ≤ (ji25) then (if (Go.bits .and .u16 (shr .u16 (Go.bits .or .u16 a2 32768) (ji25)) 1) = 1 then (if 0 ≤ (wrap64 (3 + (wrap64 (Int.tdiv (wrap64 ((Int.tmod (wrap64 ((Int.tmod a1 (wrap64 (8 * (wrap64 ((t207.length : Int) - 3))))) + (wrap64 (8 * (wrap64 ((t207.length : Int) - 3)))))) (wrap64 (8 * (wrap64 ((t207.length : Int) - 3))))) + x14_2)) 8)))) then (if (wrap64 (3 + (wrap64 (Int.tdiv (wrap64 ((Int.tmod (wrap64 ((Int.tmod a1 (wrap64 (8 * (wrap64 ((t207.length : Int) - 3))))) + (wrap64 (8 * (wrap64 ((t207.length : Int) - 3)))))) (wrap64 (8 * (wrap64 ((t207.length : Int) - 3))))) + x14_2)) 8)))) < (x8_2.length : Int) then (if 0 ≤ (Int.tmod (wrap64 ((Int.tmod (wrap64 ((Int.tmod a1 (wrap64 (8 * (wrap64 ((t207.length : Int) - 3))))) + (wrap64 (8 * (wrap64 ((t207.length : Int) - 3)))))) (wrap64 (8 * (wrap64 ((t207.length : Int) - 3))))) + x14_2)) 8) then (sidesticklaw06_FrameBursts.l0 kj21 a2 (x8_2.set ((wrap64 (3 + (wrap64 (Int.tdiv (wrap64 ((Int.tmod (wrap64 ((Int.tmod a1 (wrap64 (8 * (wrap64 ((t207.length : Int) - 3))))) + (wrap64 (8 * (wrap64 ((t207.length : Int) - 3)))))) (wrap64 (8 * (wrap64 ((t207.length : Int) - 3))))) + x14_2)) 8)))) : Int).toNat (Go.bits .xor .u8 (rd x8_2 (wrap64 (3 + (wrap64 (Int.tdiv (wrap64 ((Int.tmod (wrap64 ((Int.tmod a1 (wrap64 (8 * (wrap64 ((t207.length : Int) - 3))))) + (wrap64 (8 * (wrap64 ((t207.length : Int) - 3)))))) (wrap64 (8 * (wrap64 ((t207.length : Int) - 3))))) + x14_2)) 8))))) (shr .u8 128 (Int.tmod (wrap64 ((Int.tmod (wrap64 ((Int.tmod a1 (wrap64 (8 * (wrap64 ((t207.length : Int) - 3))))) + (wrap64 (8 * (wrap64 ((t207.length : Int) - 3)))))) (wrap64 (8 * (wrap64 ((t207.length : Int) - 3))))) + x14_2)) 8)))) y214 (wrap64 (8 * (wrap64 ((t207.length : Int) - 3)))) (Int.tmod (wrap64 ((Int.tmod a1 (wrap64 (8 * (wrap64 ((t207.length : Int) - 3))))) + (wrap64 (8 * (wrap64 ((t207.length : Int) - 3)))))) (wrap64 (8 * (wrap64 ((t207.length : Int) - 3))))) (Go.bits .or .u16 a2 32768) (wrap64 (x14_2 + 1))) else (none)) else (none)) else (none)) else (sidesticklaw06_FrameBursts.l0 kj21 a2 x8_2 y214 (wrap64 (8 * (wrap64 ((t207.length : Int) - 3)))) (Int.tmod (wrap64 ((Int.tmod a1 (wrap64 (8 * (wrap64 ((t207.length : Int) - 3))))) + (wrap64 (8 * (wrap64 ((t207.length : Int) - 3)))))) (wrap64 (8 * (wrap64 ((t207.length : Int) - 3))))) (Go.bits .or .u16 a2 32768) (wrap64 (x14_2 + 1)))) else (none)) = some r := by first | (rw [hji25] at H; exact H) | (simp only [hji25] at H ⊢; exact H)
                      have hji25w : (IntKind.i64.wrap (15 - x14_2)) = ji25 := (i64_w _).trans hji25
                      by_cases c26 : 0 ≤ (ji25)
                      · rw [if_pos c26] at H
                        have c26b0 := eq_true c26
                        have c26b1 : decide (0 ≤ (ji25)) = true := decide_eq_true c26
                        clear c26
                        obtain ⟨ji27, hji27⟩ : ∃ j_ : Int, (shr .u16 (Go.bits .or .u16 a2 32768) (ji25)) = j_ := ⟨_, rfl⟩
                        replace H : (if (Go.bits .and .u16 (ji27) 1) = 1 then (if 0 ≤ (wrap64 (3 + (wrap64 (Int.tdiv (wrap64 ((Int.tmod (wrap64 ((Int.tmod a1 (wrap64 (8 * (wrap64 ((t207.length : Int) - 3))))) + (wrap64 (8 * (wrap64 ((t207.length : Int) - 3)))))) (wrap64 (8 * (wrap64 ((t207.length : Int) - 3))))) + x14_2)) 8)))) then (if (wrap64 (3 + (wrap64 (Int.tdiv (wrap64 ((Int.tmod (wrap64 ((Int.tmod a1 (wrap64 (8 * (wrap64 ((t207.length : Int) - 3))))) + (wrap64 (8 * (wrap64 ((t207.length : Int) - 3)))))) (wrap64 (8 * (wrap64 ((t207.length : Int) - 3))))) + x14_2)) 8)))) < (x8_2.length : Int) then (if 0 ≤ (Int.tmod (wrap64 ((Int.tmod (wrap64 ((Int.tmod a1 (wrap64 (8 * (wrap64 ((t207.length : Int) - 3))))) + (wrap64 (8 * (wrap64 ((t207.length : Int) - 3)))))) (wrap64 (8 * (wrap64 ((t207.length : Int) - 3))))) + x14_2)) 8) then (sidesticklaw06_FrameBursts.l0 kj21 a2 (x8_2.set ((wrap64 (3 + (wrap64 (Int.tdiv (wrap64 ((Int.tmod (wrap64 ((Int.tmod a1 (wrap64 (8 * (wrap64 ((t207.length : Int) - 3))))) + (wrap64 (8 * (wrap64 ((t207.length : Int) - 3)))))) (wrap64 (8 * (wrap64 ((t207.length : Int) - 3))))) + x14_2)) 8)))) : Int).toNat (Go.bits .xor .u8 (rd x8_2 (wrap64 (3 + (wrap64 (Int.tdiv (wrap64 ((Int.tmod (wrap64 ((Int.tmod a1 (wrap64 (8 * (wrap64 ((t207.length : Int) - 3))))) + (wrap64 (8 * (wrap64 ((t207.length : Int) - 3)))))) (wrap64 (8 * (wrap64 ((t207.length : Int) - 3))))) + x14_2)) 8))))) (shr .u8 128 (Int.tmod (wrap64 ((Int.tmod (wrap64 ((Int.tmod a1 (wrap64 (8 * (wrap64 ((t207.length : Int) - 3))))) + (wrap64 (8 * (wrap64 ((t207.length : Int) - 3)))))) (wrap64 (8 * (wrap64 ((t207.length : Int) - 3))))) + x14_2)) 8)))) y214 (wrap64 (8 * (wrap64 ((t207.length : Int) - 3)))) (Int.tmod (wrap64 ((Int.tmod a1 (wrap64 (8 * (wrap64 ((t207.length : Int) - 3))))) + (wrap64 (8 * (wrap64 ((t207.length : Int) - 3)))))) (wrap64 (8 * (wrap64 ((t207.length : Int) - 3))))) (Go.bits .or .u16 a2 32768) (wrap64 (x14_2 + 1))) else (none)) else (none)) else (none)) else (sidesticklaw06_FrameBursts.l0 kj21 a2 x8_2 y214 (wrap64 (8 * (wrap64 ((t207.length : Int) - 3)))) (Int.tmod (wrap64 ((Int.tmod a1 (wrap64 (8 * (wrap64 ((t207.length : Int) - 3))))) + (wrap64 (8 * (wrap64 ((t207.length : Int) - 3)))))) (wrap64 (8 * (wrap64 ((t207.length : Int) - 3))))) (Go.bits .or .u16 a2 32768) (wrap64 (x14_2 + 1)))) = some r := by first | (rw [hji27] at H; exact H) | (simp only [hji27] at H ⊢; exact H)
                        have hji27_ : ((Go.bits .or .u16 a2 32768) / 2 ^ min (ji25).toNat 16) = ji27 := hji27
                        have hji27z : (ji25) ≤ 16 → ((Go.bits .or .u16 a2 32768) / 2 ^ (ji25).toNat) = ji27 := shr_small hji27
                        by_cases c28 : (Go.bits .and .u16 (ji27) 1) = 1
                        · rw [if_pos c28] at H
                          have c28b0 : ((Go.bits .and .u16 (ji27) 1) == 1) = true := beq_iff_eq.mpr c28
                          have c28b1 : ((Go.bits .and .u16 (ji27) 1) != 1) = false := bne_eq_false_iff_eq.mpr c28
                          clear c28
                          obtain ⟨ji29, hji29⟩ : ∃ j_ : Int, (wrap64 (3 + (wrap64 (Int.tdiv (wrap64 ((Int.tmod (wrap64 ((Int.tmod a1 (wrap64 (8 * (wrap64 ((t207.length : Int) - 3))))) + (wrap64 (8 * (wrap64 ((t207.length : Int) - 3)))))) (wrap64 (8 * (wrap64 ((t207.length : Int) - 3))))) + x14_2)) 8)))) = j_ := ⟨_, rfl⟩
                          replace H : (if 0 ≤ (ji29) then (if (ji29) < (x8_2.length : Int) then (if 0 ≤ (Int.tmod (wrap64 ((Int.tmod (wrap64 ((Int.tmod a1 (wrap64 (8 * (wrap64 ((t207.length : Int) - 3))))) + (wrap64 (8 * (wrap64 ((t207.length : Int) - 3)))))) (wrap64 (8 * (wrap64 ((t207.length : Int) - 3))))) + x14_2)) 8) then (sidesticklaw06_FrameBursts.l0 kj21 a2 (x8_2.set ((ji29) : Int).toNat (Go.bits .xor .u8 (rd x8_2 (ji29)) (shr .u8 128 (Int.tmod (wrap64 ((Int.tmod (wrap64 ((Int.tmod a1 (wrap64 (8 * (wrap64 ((t207.length : Int) - 3))))) + (wrap64 (8 * (wrap64 ((t207.length : Int) - 3)))))) (wrap64 (8 * (wrap64 ((t207.length : Int) - 3))))) + x14_2)) 8)))) y214 (wrap64 (8 * (wrap64 ((t207.length : Int) - 3)))) (Int.tmod (wrap64 ((Int.tmod a1 (wrap64 (8 * (wrap64 ((t207.length : Int) - 3))))) + (wrap64 (8 * (wrap64 ((t207.length : Int) - 3)))))) (wrap64 (8 * (wrap64 ((t207.length : Int) - 3))))) (Go.bits .or .u16 a2 32768) (wrap64 (x14_2 + 1))) else (none)) else (none)) else (none)) = some r := by first | (rw [hji29] at H; exact H) | (simp only [hji29] at H ⊢; exact H)
                          have hji29w : (IntKind.i64.wrap (3 + (wrap64 (Int.tdiv (wrap64 ((Int.tmod (wrap64 ((Int.tmod a1 (wrap64 (8 * (wrap64 ((t207.length : Int) - 3))))) + (wrap64 (8 * (wrap64 ((t207.length : Int) - 3)))))) (wrap64 (8 * (wrap64 ((t207.length : Int) - 3))))) + x14_2)) 8)))) = ji29 := (i64_w _).trans hji29
                          by_cases c30 : 0 ≤ (ji29)
                          · rw [if_pos c30] at H
                            have c30b0 : decide (0 ≤ (ji29)) = true := decide_eq_true c30
                            clear c30
                            by_cases c31 : (ji29) < (x8_2.length : Int)
                            · rw [if_pos c31] at H
                              have c31b0 : decide ((ji29) < (x8_2.length : Int)) = true := decide_eq_true c31
                              clear c31
                              obtain ⟨ji32, hji32⟩ : ∃ j_ : Int, (Int.tmod (wrap64 ((Int.tmod (wrap64 ((Int.tmod a1 (wrap64 (8 * (wrap64 ((t207.length : Int) - 3))))) + (wrap64 (8 * (wrap64 ((t207.length : Int) - 3)))))) (wrap64 (8 * (wrap64 ((t207.length : Int) - 3))))) + x14_2)) 8) = j_ := ⟨_, rfl⟩
                              replace H : (if 0 ≤ (ji32) then (sidesticklaw06_FrameBursts.l0 kj21 a2 (x8_2.set ((ji29) : Int).toNat (Go.bits .xor .u8 (rd x8_2 (ji29)) (shr .u8 128 (ji32)))) y214 (wrap64 (8 * (wrap64 ((t207.length : Int) - 3)))) (Int.tmod (wrap64 ((Int.tmod a1 (wrap64 (8 * (wrap64 ((t207.length : Int) - 3))))) + (wrap64 (8 * (wrap64 ((t207.length : Int) - 3)))))) (wrap64 (8 * (wrap64 ((t207.length : Int) - 3))))) (Go.bits .or .u16 a2 32768) (wrap64 (x14_2 + 1))) else (none)) = some r := by first | (rw [hji32] at H; exact H) | (simp only [hji32] at H ⊢; exact H)
                              by_cases c33 : 0 ≤ (ji32)
                              · rw [if_pos c33] at H
                                have c33b0 := eq_true c33
                                have c33b1 : decide (0 ≤ (ji32)) = true := decide_eq_true c33
                                clear c33
                                obtain ⟨ji34, hji34⟩ : ∃ j_ : Int, (shr .u8 128 (ji32)) = j_ := ⟨_, rfl⟩
                                replace H : (sidesticklaw06_FrameBursts.l0 kj21 a2 (x8_2.set ((ji29) : Int).toNat (Go.bits .xor .u8 (rd x8_2 (ji29)) (ji34))) y214 (wrap64 (8 * (wrap64 ((t207.length : Int) - 3)))) (Int.tmod (wrap64 ((Int.tmod a1 (wrap64 (8 * (wrap64 ((t207.length : Int) - 3))))) + (wrap64 (8 * (wrap64 ((t207.length : Int) - 3)))))) (wrap64 (8 * (wrap64 ((t207.length : Int) - 3))))) (Go.bits .or .u16 a2 32768) (wrap64 (x14_2 + 1))) = some r := by first | (rw [hji34] at H; exact H) | (simp only [hji34] at H ⊢; exact H)
                                have hji34_ : (128 / 2 ^ min (ji32).toNat 8) = ji34 := hji34
                                have hji34z : (ji32) ≤ 8 → (128 / 2 ^ (ji32).toNat) = ji34 := shr_small hji34
                                obtain ⟨y218, hy218⟩ : ∃ y_ : List Int, y_ = (x8_2.set ((ji29) : Int).toNat (Go.bits .xor .u8 (rd x8_2 (ji29)) (ji34))) := ⟨_, rfl⟩
                                replace H : (sidesticklaw06_FrameBursts.l0 kj21 a2 y218 y214 (wrap64 (8 * (wrap64 ((t207.length : Int) - 3)))) (Int.tmod (wrap64 ((Int.tmod a1 (wrap64 (8 * (wrap64 ((t207.length : Int) - 3))))) + (wrap64 (8 * (wrap64 ((t207.length : Int) - 3)))))) (wrap64 (8 * (wrap64 ((t207.length : Int) - 3))))) (Go.bits .or .u16 a2 32768) (wrap64 (x14_2 + 1))) = some r := by first | (rw [hy218]; with_reducible exact H) | (have H2_ := (Option.bind_some _ _).symm.trans H; rw [hy218]; with_reducible exact H2_) | (have H2_ := (Option.bind_some _ _).symm.trans H; with_reducible exact H2_) | with_reducible exact H | (rw [hy218]; exact H) | exact H
                                have Ny218 := Aside0.mk hy218
                                clear hy218
                                have H' := Aside0.mk H
                                clear H
                                (try rw [hl8_2] at hji29)
                                (try rw [hl8_2] at hji29w)
                                (try rw [hl8_2] at hji32)
                                try go_wp2
                                have n0_ := Aside0.mk (Kd.R_drew HO_8.out)
                                have n1_ := Aside0.mk (Kd.R_drew HO_10.out)
                                have n2_ := Aside0.mk (below_drew1 HB.out)
                                clear HO_8
                                clear HO_10
                                clear HB
                                have HO_8 := n0_
                                have HO_10 := n1_
                                have HB := n2_
                                clear n0_ n1_ n2_
                                have p217 : 0 ≤ ((ji29) : Int) := of_decide_eq_true (by first | (with_reducible assumption) | assumption)
                                have q217 : (ji29) < (x8_2.length : Int) := of_decide_eq_true (by first | (with_reducible assumption) | assumption)
                                obtain ⟨ad217, e217, hx217_0⟩ := Kd.at_int (Kd.R_reads' HO_8.out).2.2 (ji29) p217 q217
                                cases e217
                                replace p217 := eq_true p217
                                replace q217 := eq_true q217
                                have p35 : 0 ≤ ((ji29) : Int) := of_decide_eq_true (by first | (with_reducible assumption) | assumption)
                                have q35 : ((ji29) : Int) < ((x8_2.length : Int) : Int) := of_decide_eq_true (by first | (with_reducible assumption) | assumption)
                                obtain ⟨go35, co35, eo35, gb35, gl35, cl35, HG35⟩ := Kd.R_form HO_8.out (by omega)
                                (first | cases eo35 | (injection eo35 with ea_ en_ ec_; (first | subst ea_ | (injection ea_ with ea_; subst ea_)); subst ec_; clear en_))
                                have GB35 := Aside0.mk gb35
                                have GG35 := Aside0.mk HG35
                                clear gb35 gl35 HG35
                                (first | simp only [add_plain] at hx217_0 | skip)
                                obtain ⟨hx35_0, hf35_0⟩ := Kd.R_celln 0 HO_8.out ((ji29) : Int) p35 q35
                                replace p35 := eq_true p35
                                replace q35 := eq_true q35
                                have HP37 := Kd.R_putn HO_8.out ((ji29) : Int) (Go.bits .xor .u8 (rd x8_2 (ji29)) (ji34))
                                rw [← Ny218.out] at HP37
                                have HQ37 := Aside0.mk HP37
                                clear HP37
                                refine start_ (n := 22) (S := fun w' => w'.cell? ⟨go35, ((ji29)).toNat, none⟩ = some (.int .u8 (rd x8_2 (ji29)))) (ds := [21]) #[false, false, false, false, false, false, false, false, false, false, false, false, false, false, false, false, false, false, false, false, false, false] (by kernel_rfl) rfl rfl (hx217_0) (fun hHeld => ?_); refine with_tabW sidesticklaw06_FrameBursts.tab13 sidesticklaw06_FrameBursts.bits13 (fun HT_ HW_ => ?_)
                                generalize wc.drew = w36 at HO_8 HO_10 HB GG35 HQ37 hf35_0 hx217_0 hx35_0 hHeld ⊢
                                refine pure_ (i := 0) (N := some 71) (v := ?_) (a' := ?_) #[true, false, false, false, false, false, false, false, false, false, false, false, false, false, false, false, false, false, false, false, false, false] rfl rfl (any_of HT_.out (by kernel_rfl)) (fun _ _ _ h => h) (Or.inl ⟨by rfl, ?_⟩) ?_ ?_
                                rotate_left
                                · intro w'
                                  go_simp
                                  with_reducible rfl
                                rotate_left
                                · simp only [Act.put, List.setIfInBounds_toArray, List.set_cons_zero, List.set_cons_succ, i64_w, i32_w]
                                  rfl
                                refine pure_ (i := 1) (N := some 72) (v := ?_) (a' := ?_) #[true, true, false, false, false, false, false, false, false, false, false, false, false, false, false, false, false, false, false, false, false, false] rfl rfl (any_of HT_.out (by kernel_rfl)) (fun _ _ _ h => h) (Or.inl ⟨by rfl, ?_⟩) ?_ ?_
                                rotate_left
                                · intro w'
                                  go_simp
                                  with_reducible rfl
                                rotate_left
                                · simp only [Act.put, List.setIfInBounds_toArray, List.set_cons_zero, List.set_cons_succ, i64_w, i32_w]
                                  rfl
                                refine pure_ (i := 2) (N := some 73) (v := ?_) (a' := ?_) #[true, true, true, false, false, false, false, false, false, false, false, false, false, false, false, false, false, false, false, false, false, false] rfl rfl (any_of HT_.out (by kernel_rfl)) (fun _ _ _ h => h) (Or.inl ⟨by rfl, ?_⟩) ?_ ?_
                                rotate_left
                                · intro w'
                                  go_simp
                                  with_reducible rfl
                                rotate_left
                                · simp only [Act.put, List.setIfInBounds_toArray, List.set_cons_zero, List.set_cons_succ, i64_w, i32_w]
                                  rfl
                                refine pure_ (i := 3) (N := some 74) (v := ?_) (a' := ?_) #[true, true, true, true, false, false, false, false, false, false, false, false, false, false, false, false, false, false, false, false, false, false] rfl rfl (any_of HT_.out (by kernel_rfl)) (fun _ _ _ h => h) (Or.inl ⟨by rfl, ?_⟩) ?_ ?_
                                rotate_left
                                · intro w'
                                  go_simp
                                  with_reducible rfl
                                rotate_left
                                · simp only [Act.put, List.setIfInBounds_toArray, List.set_cons_zero, List.set_cons_succ, i64_w, i32_w]
                                  rfl
                                refine pure_ (i := 4) (N := some 75) (v := ?_) (a' := ?_) #[true, true, true, true, true, false, false, false, false, false, false, false, false, false, false, false, false, false, false, false, false, false] rfl rfl (any_of HT_.out (by kernel_rfl)) (fun _ _ _ h => h) (Or.inl ⟨by rfl, ?_⟩) ?_ ?_
                                rotate_left
                                · intro w'
                                  go_simp
                                  with_reducible rfl
                                rotate_left
                                · simp only [Act.put, List.setIfInBounds_toArray, List.set_cons_zero, List.set_cons_succ, i64_w, i32_w]
                                  rfl
                                refine pure_ (i := 5) (N := some 76) (v := ?_) (a' := ?_) #[true, true, true, true, true, true, false, false, false, false, false, false, false, false, false, false, false, false, false, false, false, false] rfl rfl (any_of HT_.out (by kernel_rfl)) (fun _ _ _ h => h) (Or.inl ⟨by rfl, ?_⟩) ?_ ?_
                                rotate_left
                                · intro w'
                                  go_simp
                                  with_reducible rfl
                                rotate_left
                                · simp only [Act.put, List.setIfInBounds_toArray, List.set_cons_zero, List.set_cons_succ, i64_w, i32_w]
                                  rfl
                                refine pure_ (i := 6) (N := some 77) (v := ?_) (a' := ?_) #[true, true, true, true, true, true, true, false, false, false, false, false, false, false, false, false, false, false, false, false, false, false] rfl rfl (any_of HT_.out (by kernel_rfl)) (fun _ _ _ h => h) (Or.inl ⟨by rfl, ?_⟩) ?_ ?_
                                rotate_left
                                · intro w'
                                  go_simp
                                  with_reducible rfl
                                rotate_left
                                · simp only [Act.put, List.setIfInBounds_toArray, List.set_cons_zero, List.set_cons_succ, i64_w, i32_w]
                                  rfl
                                refine pure_ (i := 7) (N := some 78) (v := ?_) (a' := ?_) #[true, true, true, true, true, true, true, true, false, false, false, false, false, false, false, false, false, false, false, false, false, false] rfl rfl (any_of HT_.out (by kernel_rfl)) (fun _ _ _ h => h) (Or.inl ⟨by rfl, ?_⟩) ?_ ?_
                                rotate_left
                                · intro w'
                                  go_simp
                                  with_reducible rfl
                                rotate_left
                                · simp only [Act.put, List.setIfInBounds_toArray, List.set_cons_zero, List.set_cons_succ, i64_w, i32_w]
                                  rfl
                                refine pure_ (i := 8) (N := some 79) (v := ?_) (a' := ?_) #[true, true, true, true, true, true, true, true, true, false, false, false, false, false, false, false, false, false, false, false, false, false] rfl rfl (any_of HT_.out (by kernel_rfl)) (fun _ _ _ h => h) (Or.inl ⟨by rfl, ?_⟩) ?_ ?_
                                rotate_left
                                · intro w'
                                  go_simp
                                  with_reducible rfl
                                rotate_left
                                · simp only [Act.put, List.setIfInBounds_toArray, List.set_cons_zero, List.set_cons_succ, i64_w, i32_w]
                                  rfl
                                refine pure_ (i := 9) (N := some 80) (v := ?_) (a' := ?_) #[true, true, true, true, true, true, true, true, true, true, false, false, false, false, false, false, false, false, false, false, false, false] rfl rfl (any_of HT_.out (by kernel_rfl)) (fun _ _ _ h => h) (Or.inl ⟨by rfl, ?_⟩) ?_ ?_
                                rotate_left
                                · intro w'
                                  go_simp
                                  with_reducible rfl
                                rotate_left
                                · simp only [Act.put, List.setIfInBounds_toArray, List.set_cons_zero, List.set_cons_succ, i64_w, i32_w]
                                  rfl
                                refine pure_ (i := 10) (N := some 81) (v := ?_) (a' := ?_) #[true, true, true, true, true, true, true, true, true, true, true, false, false, false, false, false, false, false, false, false, false, false] rfl rfl (any_of HT_.out (by kernel_rfl)) (fun _ _ _ h => h) (Or.inl ⟨by rfl, ?_⟩) ?_ ?_
                                rotate_left
                                · intro w'
                                  go_simp
                                  with_reducible rfl
                                rotate_left
                                · simp only [Act.put, List.setIfInBounds_toArray, List.set_cons_zero, List.set_cons_succ, i64_w, i32_w]
                                  rfl
                                refine pure_ (i := 11) (N := some 82) (v := ?_) (a' := ?_) #[true, true, true, true, true, true, true, true, true, true, true, true, false, false, false, false, false, false, false, false, false, false] rfl rfl (any_of HT_.out (by kernel_rfl)) (fun _ _ _ h => h) (Or.inl ⟨by rfl, ?_⟩) ?_ ?_
                                rotate_left
                                · intro w'
                                  go_simp
                                  with_reducible rfl
                                rotate_left
                                · simp only [Act.put, List.setIfInBounds_toArray, List.set_cons_zero, List.set_cons_succ, i64_w, i32_w]
                                  rfl
                                refine pure_ (i := 12) (N := some 83) (v := ?_) (a' := ?_) #[true, true, true, true, true, true, true, true, true, true, true, true, true, false, false, false, false, false, false, false, false, false] rfl rfl (any_of HT_.out (by kernel_rfl)) (fun _ _ _ h => h) (Or.inl ⟨by rfl, ?_⟩) ?_ ?_
                                rotate_left
                                · intro w'
                                  go_simp
                                  with_reducible rfl
                                rotate_left
                                · simp only [Act.put, List.setIfInBounds_toArray, List.set_cons_zero, List.set_cons_succ, i64_w, i32_w]
                                  rfl
                                refine pure_ (i := 14) (N := some 85) (v := ?_) (a' := ?_) #[true, true, true, true, true, true, true, true, true, true, true, true, true, false, true, false, false, false, false, false, false, false] rfl rfl (any_of HT_.out (by kernel_rfl)) (fun _ _ _ h => h) (Or.inl ⟨by rfl, ?_⟩) ?_ ?_
                                rotate_left
                                · intro w'
                                  go_simp
                                  with_reducible rfl
                                rotate_left
                                · simp only [Act.put, List.setIfInBounds_toArray, List.set_cons_zero, List.set_cons_succ, i64_w, i32_w]
                                  rfl
                                refine pure_ (i := 15) (N := some 86) (v := ?_) (a' := ?_) #[true, true, true, true, true, true, true, true, true, true, true, true, true, false, true, true, false, false, false, false, false, false] rfl rfl (any_of HT_.out (by kernel_rfl)) (fun _ _ _ h => h) (Or.inl ⟨by rfl, ?_⟩) ?_ ?_
                                rotate_left
                                · intro w'
                                  go_simp
                                  with_reducible rfl
                                rotate_left
                                · simp only [Act.put, List.setIfInBounds_toArray, List.set_cons_zero, List.set_cons_succ, i64_w, i32_w]
                                  rfl
                                refine pure_ (i := 16) (N := some 87) (v := ?_) (a' := ?_) #[true, true, true, true, true, true, true, true, true, true, true, true, true, false, true, true, true, false, false, false, false, false] rfl rfl (any_of HT_.out (by kernel_rfl)) (fun _ _ _ h => h) (Or.inl ⟨by rfl, ?_⟩) ?_ ?_
                                rotate_left
                                · intro w'
                                  go_simp
                                  with_reducible rfl
                                rotate_left
                                · simp only [Act.put, List.setIfInBounds_toArray, List.set_cons_zero, List.set_cons_succ, i64_w, i32_w]
                                  rfl
                                refine pure_ (i := 17) (N := some 88) (v := ?_) (a' := ?_) #[true, true, true, true, true, true, true, true, true, true, true, true, true, false, true, true, true, true, false, false, false, false] rfl rfl (any_of HT_.out (by kernel_rfl)) (fun _ _ _ h => h) (Or.inl ⟨by rfl, ?_⟩) ?_ ?_
                                rotate_left
                                · intro w'
                                  go_simp
                                  with_reducible rfl
                                rotate_left
                                · simp only [Act.put, List.setIfInBounds_toArray, List.set_cons_zero, List.set_cons_succ, i64_w, i32_w]
                                  rfl
                                refine pure_ (i := 18) (N := some 89) (v := ?_) (a' := ?_) #[true, true, true, true, true, true, true, true, true, true, true, true, true, false, true, true, true, true, true, false, false, false] rfl rfl (any_of HT_.out (by kernel_rfl)) (fun _ _ _ h => h) (Or.inl ⟨by rfl, ?_⟩) ?_ ?_
                                rotate_left
                                · intro w'
                                  go_simp
                                  with_reducible rfl
                                rotate_left
                                · simp only [Act.put, List.setIfInBounds_toArray, List.set_cons_zero, List.set_cons_succ, i64_w, i32_w]
                                  rfl
                                refine take_ (i := 13) (N := some 84) (v := ?_) (a' := ?_) #[true, true, true, true, true, true, true, true, true, true, true, true, true, true, true, true, true, true, true, false, false, false] rfl rfl (take_ofW HT_.out HW_.out (by kernel_rfl)) (fun _ _ _ h => h) (Or.inl ⟨by rfl, ?_⟩) hHeld ?_ ?_
                                rotate_left
                                · intro w' s0
                                  go_simp
                                  with_reducible rfl
                                rotate_left
                                · simp only [Act.put, List.setIfInBounds_toArray, List.set_cons_zero, List.set_cons_succ, i64_w, i32_w]
                                  rfl
                                refine pure_ (i := 19) (N := some 90) (v := ?_) (a' := ?_) #[true, true, true, true, true, true, true, true, true, true, true, true, true, true, true, true, true, true, true, true, false, false] rfl rfl (any_of HT_.out (by kernel_rfl)) (fun _ _ _ h => h) (Or.inl ⟨by rfl, ?_⟩) ?_ ?_
                                rotate_left
                                · intro w'
                                  go_simp
                                  with_reducible rfl
                                rotate_left
                                · simp only [Act.put, List.setIfInBounds_toArray, List.set_cons_zero, List.set_cons_succ, i64_w, i32_w]
                                  rfl
                                refine pure_ (i := 20) (N := some 91) (v := ?_) (a' := ?_) #[true, true, true, true, true, true, true, true, true, true, true, true, true, true, true, true, true, true, true, true, true, false] rfl rfl (any_of HT_.out (by kernel_rfl)) (fun _ _ _ h => h) (Or.inl ⟨by rfl, ?_⟩) ?_ ?_
                                rotate_left
                                · intro w'
                                  go_simp
                                  with_reducible rfl
                                rotate_left
                                · simp only [Act.put, List.setIfInBounds_toArray, List.set_cons_zero, List.set_cons_succ, i64_w, i32_w]
                                  rfl
                                refine last_ (i := 21) (N := none) #[true, true, true, true, true, true, true, true, true, true, true, true, true, true, true, true, true, true, true, true, true, true] rfl rfl (one_of HT_.out (by kernel_rfl)) (by decide) (fun K hK => ?_)
                                refine skip_ (w1 := ?_) (by rfl) rfl ?_ ?_
                                rotate_left
                                · go_simp
                                  rfl
                                refine hK.out _ _ ?_
                                clear hK K
                                refine done_ (done_of HT_.out (by kernel_rfl)) ?_
                                try go_wp2
                                (try simp only [← hl8_2])
                                go_roundg kj21
                                case measure => have := HJ6.out; have := HK2.out; have := HJ21.out; omega
                                case rel => exact ⟨(y218), (wrap64 (x14_2 + 1)), (by first | rfl | (simp; done) | (simp [*]; done)), H', ⟨by have := HJ6.out; have := HK2.out; have := HJ21.out; omega⟩, ⟨by (try simp only [hl8_2]); (with_reducible repeat (first | apply Kd.R_alloc | apply Kd.R_drewN | apply Kd.R_drew)); exact HQ37.out⟩, ⟨by (try simp only [hl8_2]); (with_reducible repeat (first | apply Kd.R_alloc | apply Kd.R_drewN | apply Kd.R_drew)); exact Kd.R_mono (Kd.R_far (p := ⟨go35, ((ji29) : Int).toNat, none⟩) (Kd.R_mono HO_10.out (fun k_ hk => (⟨hk, fun e_ => hk (by rw [e_]; rfl)⟩ : _ ∧ k_ ≠ go35))) (fun _ hk => hk.2) (.int .u8 (Go.bits .xor .u8 (rd x8_2 (ji29)) (ji34)))) (fun _ hk => hk.1)⟩, ⟨by repeat (first | (with_reducible first | exact HB.out | apply below_alloc | apply pw_below_drewN | apply below_drew1 | refine below_set ?_ GB35.out) | exact HB.out)⟩⟩
                              · rw [if_neg c33] at H
                                exact absurd H (by simp)
                            · rw [if_neg c31] at H
                              exact absurd H (by simp)
                          · rw [if_neg c30] at H
                            exact absurd H (by simp)
                        · rw [if_neg c28] at H
                          have c28b0 : ((Go.bits .and .u16 (ji27) 1) == 1) = false := beq_eq_false_iff_ne.mpr c28
                          have c28b1 : ((Go.bits .and .u16 (ji27) 1) != 1) = true := bne_iff_ne.mpr c28
                          have H' := Aside0.mk H
                          clear H
                          go_wp2
                          (try simp only [← hl8_2])
                          go_roundg kj21
                          case measure => have := HJ6.out; have := HK2.out; have := HJ21.out; omega
                          case rel => exact ⟨(x8_2), (wrap64 (x14_2 + 1)), (by first | rfl | (simp; done) | (simp [*]; done)), H', ⟨by have := HJ6.out; have := HK2.out; have := HJ21.out; omega⟩, ⟨by (try simp only [hl8_2]); (with_reducible repeat (first | apply Kd.R_alloc | apply Kd.R_drewN | apply Kd.R_drew)); exact HO_8.out⟩, ⟨by (try simp only [hl8_2]); (with_reducible repeat (first | apply Kd.R_alloc | apply Kd.R_drewN | apply Kd.R_drew)); exact HO_10.out⟩, ⟨by repeat (first | (with_reducible first | exact HB.out | apply below_alloc | apply pw_below_drewN | apply below_drew1) | exact HB.out)⟩⟩
                      · rw [if_neg c26] at H
                        exact absurd H (by simp)
                    · replace c24 := Bool.eq_false_iff.mpr c24
                      subst c24
                      have H1 : ((frame_Next.f kj21 x8_2).bind fun bt219 => ((some (([] : List Int) : List Int)).bind fun y226 => (if y226.length + y214.length < 140737488355328 then ((some (y226 ++ y214 : List Int)).bind fun y229 => (if 1 < (y229.length : Int) then ((frame_Next.f kj21 (y229.set (1 : Int).toNat (((((rd y229 1) + 1) % 256) + ((Go.bits .and .u16 a2 127) % 256)) % 256))).bind fun bt234 => ((some (([] : List Int) : List Int)).bind fun y241 => (if 3 ≤ (y214.length : Int) then ((some (y214.take 3 : List Int)).bind fun y244 => (if y241.length + y244.length < 140737488355328 then ((some (y241 ++ y244 : List Int)).bind fun y248 => (if 2 < (y248.length : Int) then ((frame_Next.f kj21 (y248.set (2 : Int).toNat ((33 + ((Go.bits .and .u16 a2 127) % 256)) % 256))).bind fun bt252 => (if bt219.1 = 3 then (if bt219.2.1 = 1 then (if bt219.2.2.1 = 12 then (if (bt219.2.2.2.length : Int) = 0 then (if bt234.1 = 3 then (if bt234.2.2.1 = 10 then (if bt252.1 = 3 then (some (bt252.2.2.1 == 11)) else (some false)) else (some false)) else (some false)) else (some false)) else (some false)) else (some false)) else (some false))) else (none))) else (none))) else (none)))) else (none))) else (none)))) = some r := by rw [if_neg (show ¬ (false = true) by decide)] at H; exact H
                      clear H
                      have H := H1
                      clear H1
                      replace H := Option.bind_eq_some_iff.mp H
                      obtain ⟨⟨t219, t220, t221, t222⟩, A380, H⟩ := H
                      replace H : ((some (([] : List Int) : List Int)).bind fun y226 => (if y226.length + y214.length < 140737488355328 then ((some (y226 ++ y214 : List Int)).bind fun y229 => (if 1 < (y229.length : Int) then ((frame_Next.f kj21 (y229.set (1 : Int).toNat (((((rd y229 1) + 1) % 256) + ((Go.bits .and .u16 a2 127) % 256)) % 256))).bind fun bt234 => ((some (([] : List Int) : List Int)).bind fun y241 => (if 3 ≤ (y214.length : Int) then ((some (y214.take 3 : List Int)).bind fun y244 => (if y241.length + y244.length < 140737488355328 then ((some (y241 ++ y244 : List Int)).bind fun y248 => (if 2 < (y248.length : Int) then ((frame_Next.f kj21 (y248.set (2 : Int).toNat ((33 + ((Go.bits .and .u16 a2 127) % 256)) % 256))).bind fun bt252 => (if t219 = 3 then (if t220 = 1 then (if t221 = 12 then (if (t222.length : Int) = 0 then (if bt234.1 = 3 then (if bt234.2.2.1 = 10 then (if bt252.1 = 3 then (some (bt252.2.2.1 == 11)) else (some false)) else (some false)) else (some false)) else (some false)) else (some false)) else (some false)) else (some false))) else (none))) else (none))) else (none)))) else (none))) else (none))) = some r := H
                      have A38 := Aside0.mk A380
                      clear A380
                      obtain ⟨y226, hy226⟩ : ∃ y_ : List Int, y_ = (([] : List Int)) := ⟨_, rfl⟩
                      replace H : (if y226.length + y214.length < 140737488355328 then ((some (y226 ++ y214 : List Int)).bind fun y229 => (if 1 < (y229.length : Int) then ((frame_Next.f kj21 (y229.set (1 : Int).toNat (((((rd y229 1) + 1) % 256) + ((Go.bits .and .u16 a2 127) % 256)) % 256))).bind fun bt234 => ((some (([] : List Int) : List Int)).bind fun y241 => (if 3 ≤ (y214.length : Int) then ((some (y214.take 3 : List Int)).bind fun y244 => (if y241.length + y244.length < 140737488355328 then ((some (y241 ++ y244 : List Int)).bind fun y248 => (if 2 < (y248.length : Int) then ((frame_Next.f kj21 (y248.set (2 : Int).toNat ((33 + ((Go.bits .and .u16 a2 127) % 256)) % 256))).bind fun bt252 => (if t219 = 3 then (if t220 = 1 then (if t221 = 12 then (if (t222.length : Int) = 0 then (if bt234.1 = 3 then (if bt234.2.2.1 = 10 then (if bt252.1 = 3 then (some (bt252.2.2.1 == 11)) else (some false)) else (some false)) else (some false)) else (some false)) else (some false)) else (some false)) else (some false))) else (none))) else (none))) else (none)))) else (none))) else (none)) = some r := by first | (rw [hy226]; with_reducible exact H) | (have H2_ := (Option.bind_some _ _).symm.trans H; rw [hy226]; with_reducible exact H2_) | (have H2_ := (Option.bind_some _ _).symm.trans H; with_reducible exact H2_) | with_reducible exact H | (rw [hy226]; exact H) | exact H
                      have Ny226 := Aside0.mk hy226
                      clear hy226
                      by_cases c39 : y226.length + y214.length < 140737488355328
                      · rw [if_pos c39] at H
                        have LMc39 := Aside0.mk c39
                        clear c39
                        obtain ⟨y229, hy229⟩ : ∃ y_ : List Int, y_ = (y226 ++ y214) := ⟨_, rfl⟩
                        replace H : (if 1 < (y229.length : Int) then ((frame_Next.f kj21 (y229.set (1 : Int).toNat (((((rd y229 1) + 1) % 256) + ((Go.bits .and .u16 a2 127) % 256)) % 256))).bind fun bt234 => ((some (([] : List Int) : List Int)).bind fun y241 => (if 3 ≤ (y214.length : Int) then ((some (y214.take 3 : List Int)).bind fun y244 => (if y241.length + y244.length < 140737488355328 then ((some (y241 ++ y244 : List Int)).bind fun y248 => (if 2 < (y248.length : Int) then ((frame_Next.f kj21 (y248.set (2 : Int).toNat ((33 + ((Go.bits .and .u16 a2 127) % 256)) % 256))).bind fun bt252 => (if t219 = 3 then (if t220 = 1 then (if t221 = 12 then (if (t222.length : Int) = 0 then (if bt234.1 = 3 then (if bt234.2.2.1 = 10 then (if bt252.1 = 3 then (some (bt252.2.2.1 == 11)) else (some false)) else (some false)) else (some false)) else (some false)) else (some false)) else (some false)) else (some false))) else (none))) else (none))) else (none)))) else (none)) = some r := by first | (rw [hy229]; with_reducible exact H) | (have H2_ := (Option.bind_some _ _).symm.trans H; rw [hy229]; with_reducible exact H2_) | (have H2_ := (Option.bind_some _ _).symm.trans H; with_reducible exact H2_) | with_reducible exact H | (rw [hy229]; exact H) | exact H
                        have Ny229 := Aside0.mk hy229
                        clear hy229
                        by_cases c40 : 1 < (y229.length : Int)
                        · rw [if_pos c40] at H
                          have c40b0 : decide (1 < (y229.length : Int)) = true := decide_eq_true c40
                          have c40b1 : decide (1 < y229.length) = true := decide_eq_true (by omega)
                          clear c40
                          obtain ⟨y233, hy233⟩ : ∃ y_ : List Int, y_ = (y229.set (1 : Int).toNat (((((rd y229 1) + 1) % 256) + ((Go.bits .and .u16 a2 127) % 256)) % 256)) := ⟨_, rfl⟩
                          replace H : ((frame_Next.f kj21 y233).bind fun bt234 => ((some (([] : List Int) : List Int)).bind fun y241 => (if 3 ≤ (y214.length : Int) then ((some (y214.take 3 : List Int)).bind fun y244 => (if y241.length + y244.length < 140737488355328 then ((some (y241 ++ y244 : List Int)).bind fun y248 => (if 2 < (y248.length : Int) then ((frame_Next.f kj21 (y248.set (2 : Int).toNat ((33 + ((Go.bits .and .u16 a2 127) % 256)) % 256))).bind fun bt252 => (if t219 = 3 then (if t220 = 1 then (if t221 = 12 then (if (t222.length : Int) = 0 then (if bt234.1 = 3 then (if bt234.2.2.1 = 10 then (if bt252.1 = 3 then (some (bt252.2.2.1 == 11)) else (some false)) else (some false)) else (some false)) else (some false)) else (some false)) else (some false)) else (some false))) else (none))) else (none))) else (none)))) = some r := by first | (rw [hy233]; with_reducible exact H) | (have H2_ := (Option.bind_some _ _).symm.trans H; rw [hy233]; with_reducible exact H2_) | (have H2_ := (Option.bind_some _ _).symm.trans H; with_reducible exact H2_) | with_reducible exact H | (rw [hy233]; exact H) | exact H
                          have Ny233 := Aside0.mk hy233
                          clear hy233
                          replace H := Option.bind_eq_some_iff.mp H
                          obtain ⟨⟨t234, t235, t236, t237⟩, A420, H⟩ := H
                          replace H : ((some (([] : List Int) : List Int)).bind fun y241 => (if 3 ≤ (y214.length : Int) then ((some (y214.take 3 : List Int)).bind fun y244 => (if y241.length + y244.length < 140737488355328 then ((some (y241 ++ y244 : List Int)).bind fun y248 => (if 2 < (y248.length : Int) then ((frame_Next.f kj21 (y248.set (2 : Int).toNat ((33 + ((Go.bits .and .u16 a2 127) % 256)) % 256))).bind fun bt252 => (if t219 = 3 then (if t220 = 1 then (if t221 = 12 then (if (t222.length : Int) = 0 then (if t234 = 3 then (if t236 = 10 then (if bt252.1 = 3 then (some (bt252.2.2.1 == 11)) else (some false)) else (some false)) else (some false)) else (some false)) else (some false)) else (some false)) else (some false))) else (none))) else (none))) else (none))) = some r := H
                          have A42 := Aside0.mk A420
                          clear A420
                          obtain ⟨y241, hy241⟩ : ∃ y_ : List Int, y_ = (([] : List Int)) := ⟨_, rfl⟩
                          replace H : (if 3 ≤ (y214.length : Int) then ((some (y214.take 3 : List Int)).bind fun y244 => (if y241.length + y244.length < 140737488355328 then ((some (y241 ++ y244 : List Int)).bind fun y248 => (if 2 < (y248.length : Int) then ((frame_Next.f kj21 (y248.set (2 : Int).toNat ((33 + ((Go.bits .and .u16 a2 127) % 256)) % 256))).bind fun bt252 => (if t219 = 3 then (if t220 = 1 then (if t221 = 12 then (if (t222.length : Int) = 0 then (if t234 = 3 then (if t236 = 10 then (if bt252.1 = 3 then (some (bt252.2.2.1 == 11)) else (some false)) else (some false)) else (some false)) else (some false)) else (some false)) else (some false)) else (some false))) else (none))) else (none))) else (none)) = some r := by first | (rw [hy241]; with_reducible exact H) | (have H2_ := (Option.bind_some _ _).symm.trans H; rw [hy241]; with_reducible exact H2_) | (have H2_ := (Option.bind_some _ _).symm.trans H; with_reducible exact H2_) | with_reducible exact H | (rw [hy241]; exact H) | exact H
                          have Ny241 := Aside0.mk hy241
                          clear hy241
                          by_cases c43 : 3 ≤ (y214.length : Int)
                          · rw [if_pos c43] at H
                            have c43b0 := eq_true c43
                            have c43b1 : decide (3 ≤ (y214.length : Int)) = true := decide_eq_true c43
                            clear c43
                            obtain ⟨y244, hy244⟩ : ∃ y_ : List Int, y_ = (y214.take 3) := ⟨_, rfl⟩
                            replace H : (if y241.length + y244.length < 140737488355328 then ((some (y241 ++ y244 : List Int)).bind fun y248 => (if 2 < (y248.length : Int) then ((frame_Next.f kj21 (y248.set (2 : Int).toNat ((33 + ((Go.bits .and .u16 a2 127) % 256)) % 256))).bind fun bt252 => (if t219 = 3 then (if t220 = 1 then (if t221 = 12 then (if (t222.length : Int) = 0 then (if t234 = 3 then (if t236 = 10 then (if bt252.1 = 3 then (some (bt252.2.2.1 == 11)) else (some false)) else (some false)) else (some false)) else (some false)) else (some false)) else (some false)) else (some false))) else (none))) else (none)) = some r := by first | (rw [hy244]; with_reducible exact H) | (have H2_ := (Option.bind_some _ _).symm.trans H; rw [hy244]; with_reducible exact H2_) | (have H2_ := (Option.bind_some _ _).symm.trans H; with_reducible exact H2_) | with_reducible exact H | (rw [hy244]; exact H) | exact H
                            have Ny244 := Aside0.mk hy244
                            clear hy244
                            by_cases c44 : y241.length + y244.length < 140737488355328
                            · rw [if_pos c44] at H
                              have LMc44 := Aside0.mk c44
                              clear c44
                              obtain ⟨y248, hy248⟩ : ∃ y_ : List Int, y_ = (y241 ++ y244) := ⟨_, rfl⟩
                              replace H : (if 2 < (y248.length : Int) then ((frame_Next.f kj21 (y248.set (2 : Int).toNat ((33 + ((Go.bits .and .u16 a2 127) % 256)) % 256))).bind fun bt252 => (if t219 = 3 then (if t220 = 1 then (if t221 = 12 then (if (t222.length : Int) = 0 then (if t234 = 3 then (if t236 = 10 then (if bt252.1 = 3 then (some (bt252.2.2.1 == 11)) else (some false)) else (some false)) else (some false)) else (some false)) else (some false)) else (some false)) else (some false))) else (none)) = some r := by first | (rw [hy248]; with_reducible exact H) | (have H2_ := (Option.bind_some _ _).symm.trans H; rw [hy248]; with_reducible exact H2_) | (have H2_ := (Option.bind_some _ _).symm.trans H; with_reducible exact H2_) | with_reducible exact H | (rw [hy248]; exact H) | exact H
                              have Ny248 := Aside0.mk hy248
                              clear hy248
                              by_cases c45 : 2 < (y248.length : Int)
                              · rw [if_pos c45] at H
                                have c45b0 : decide (2 < (y248.length : Int)) = true := decide_eq_true c45
                                have c45b1 : decide (2 < y248.length) = true := decide_eq_true (by omega)
                                clear c45
                                obtain ⟨y251, hy251⟩ : ∃ y_ : List Int, y_ = (y248.set (2 : Int).toNat ((33 + ((Go.bits .and .u16 a2 127) % 256)) % 256)) := ⟨_, rfl⟩
                                replace H : ((frame_Next.f kj21 y251).bind fun bt252 => (if t219 = 3 then (if t220 = 1 then (if t221 = 12 then (if (t222.length : Int) = 0 then (if t234 = 3 then (if t236 = 10 then (if bt252.1 = 3 then (some (bt252.2.2.1 == 11)) else (some false)) else (some false)) else (some false)) else (some false)) else (some false)) else (some false)) else (some false))) = some r := by first | (rw [hy251]; with_reducible exact H) | (have H2_ := (Option.bind_some _ _).symm.trans H; rw [hy251]; with_reducible exact H2_) | (have H2_ := (Option.bind_some _ _).symm.trans H; with_reducible exact H2_) | with_reducible exact H | (rw [hy251]; exact H) | exact H
                                have Ny251 := Aside0.mk hy251
                                clear hy251
                                replace H := Option.bind_eq_some_iff.mp H
                                obtain ⟨⟨t252, t253, t254, t255⟩, A470, H⟩ := H
                                replace H : (if t219 = 3 then (if t220 = 1 then (if t221 = 12 then (if (t222.length : Int) = 0 then (if t234 = 3 then (if t236 = 10 then (if t252 = 3 then (some (t254 == 11)) else (some false)) else (some false)) else (some false)) else (some false)) else (some false)) else (some false)) else (some false)) = some r := H
                                have A47 := Aside0.mk A470
                                clear A470
                                by_cases c48 : t219 = 3
                                · rw [if_pos c48] at H
                                  have c48b0 : (t219 == 3) = true := beq_iff_eq.mpr c48
                                  have c48b1 : (t219 != 3) = false := bne_eq_false_iff_eq.mpr c48
                                  clear c48
                                  by_cases c49 : t220 = 1
                                  · rw [if_pos c49] at H
                                    have c49b0 : (t220 == 1) = true := beq_iff_eq.mpr c49
                                    have c49b1 : (t220 != 1) = false := bne_eq_false_iff_eq.mpr c49
                                    clear c49
                                    by_cases c50 : t221 = 12
                                    · rw [if_pos c50] at H
                                      have c50b0 : (t221 == 12) = true := beq_iff_eq.mpr c50
                                      have c50b1 : (t221 != 12) = false := bne_eq_false_iff_eq.mpr c50
                                      clear c50
                                      by_cases c51 : (t222.length : Int) = 0
                                      · rw [if_pos c51] at H
                                        have c51b0 : ((t222.length : Int) == 0) = true := beq_iff_eq.mpr c51
                                        have c51b1 : ((t222.length : Int) != 0) = false := bne_eq_false_iff_eq.mpr c51
                                        clear c51
                                        by_cases c52 : t234 = 3
                                        · rw [if_pos c52] at H
                                          have c52b0 : (t234 == 3) = true := beq_iff_eq.mpr c52
                                          have c52b1 : (t234 != 3) = false := bne_eq_false_iff_eq.mpr c52
                                          clear c52
                                          by_cases c53 : t236 = 10
                                          · rw [if_pos c53] at H
                                            have c53b0 : (t236 == 10) = true := beq_iff_eq.mpr c53
                                            have c53b1 : (t236 != 10) = false := bne_eq_false_iff_eq.mpr c53
                                            clear c53
                                            by_cases c54 : t252 = 3
                                            · rw [if_pos c54] at H
                                              have c54b0 : (t252 == 3) = true := beq_iff_eq.mpr c54
                                              have c54b1 : (t252 != 3) = false := bne_eq_false_iff_eq.mpr c54
                                              clear c54
                                              obtain rfl := Option.some.inj H
                                              go_wp2_with (first | ((with_reducible refine gate_callee (f := 24) rfl ?_); refine goesL_ (some 93) rfl rfl Try.func24 (by kernel_rfl) rfl #[.slice Ao21 x8_2.length co21] rfl (by (try simp only [List.map_toArray, List.map_cons, List.map_nil]); first | done | rfl | (simp only [List.length_drop, List.length_take]; rfl)) ?_; (with_reducible refine (frame_Next.calls kj21 _ _ x8_2 t219 t220 t221 t222 _ ?side1 ?side2 A38.out).mono ?_); (case side1 => repeat (first | exact (Kd.R_reads' HO_8.out).2.2 | (with_reducible refine Kd.C_alloc ?_ _) | (with_reducible refine Kd.C_drewN ?_ _) | (with_reducible refine Kd.C_drew ?_))); (case side2 => exact (Kd.R_reads' HO_8.out).2.1); rintro e w55 ⟨v223, rfl, ho0, hb⟩; refine ⟨_, rfl, ?_⟩; have n0_ := Aside0.mk (Kd.R_elder' (by (with_reducible repeat (first | apply Kd.R_alloc | apply Kd.R_drewN | apply Kd.R_drew)); exact HO_8.out) (Kd.R_base ho0) hb); have n1_ := Aside0.mk (Kd.R_elder' (by (with_reducible repeat (first | apply Kd.R_alloc | apply Kd.R_drewN | apply Kd.R_drew)); exact HO_10.out) (Kd.R_base ho0) hb); have n2_ := Aside0.mk (Kd.R_lower (Kd.R_new' (Kd.R_new' ho0 (Kd.R_lt (by (with_reducible repeat (first | apply Kd.R_alloc | apply Kd.R_drewN | apply Kd.R_drew)); exact HO_8.out))) (Kd.R_lt (by (with_reducible repeat (first | apply Kd.R_alloc | apply Kd.R_drewN | apply Kd.R_drew)); exact HO_10.out))) (below_size (by repeat (first | (with_reducible first | exact HB.out | apply below_alloc | apply pw_below_drewN | apply below_drew1) | exact HB.out)))); have n3_ := Aside0.mk (below_step (by repeat (first | (with_reducible first | exact HB.out | apply below_alloc | apply pw_below_drewN | apply below_drew1) | exact HB.out)) hb); clear HO_8; clear HO_10; clear HB; have HO_8 := n0_; have HO_10 := n1_; have HO224 := n2_; have HB := n3_; clear n0_ n1_ n2_ n3_; (try clear hb); (try clear hb2); (try clear hk); (try clear hi); (try clear ho0)) | ((with_reducible refine gate_dst (N := 15) rfl ?_); (try (refine gate_guard (by rfl) ?_; dsimp only)); refine box_event ?hg (N := 15) ?hd (cs := #[.int .i64 0, .int .i64 0, .int .i64 0, .slice none 0 0]) (t := 37) ?hr ?_; (case hd => rfl); (case hg => rfl); (case hr => first | (go_simp; done) | (go_simp; rfl)); intro gb225 hg w56 hbox hb; have n0_ := Aside0.mk (Kd.R_below (by (with_reducible repeat (first | apply Kd.R_alloc | apply Kd.R_drewN | apply Kd.R_drew)); exact HO_8.out) hb); have n1_ := Aside0.mk (Kd.R_below (by (with_reducible repeat (first | apply Kd.R_alloc | apply Kd.R_drewN | apply Kd.R_drew)); exact HO_10.out) hb); have n2_ := Aside0.mk (Kd.R_below (by (with_reducible repeat (first | apply Kd.R_alloc | apply Kd.R_drewN | apply Kd.R_drew)); exact HO224.out) hb); have n3_ := Aside0.mk (below_step (by repeat (first | (with_reducible first | exact HB.out | apply below_alloc | apply pw_below_drewN | apply below_drew1) | exact HB.out)) hb); have n4_ := Aside0.mk (hbox); have n5_ := Aside0.mk ((by rw [hg]; exact (below_size (by repeat (first | (with_reducible first | exact HB.out | apply below_alloc | apply pw_below_drewN | apply below_drew1) | exact HB.out))) : w.heap.size ≤ gb225)); have n6_ := Aside0.mk ((by rw [hg]; exact (below_size (by repeat (first | (with_reducible first | exact HB.out | apply below_alloc | apply pw_below_drewN | apply below_drew1) | exact HB.out))) : w.heap.size ≤ gb225)); clear HO_8; clear HO_10; clear HO224; clear HB; have HO_8 := n0_; have HO_10 := n1_; have HO224 := n2_; have HB := n3_; have BK225 := n4_; have GW225 := n5_; have GE225 := n6_; clear n0_ n1_ n2_ n3_ n4_ n5_ n6_; clear hb hbox hg; have hcz57_0 : w56.cell? ⟨gb225, 0, none⟩ = some (.int .i64 0) := (blk_cell BK225.out 0).trans rfl; have hcz57_1 : w56.cell? ⟨gb225, 1, none⟩ = some (.int .i64 0) := (blk_cell BK225.out 1).trans rfl; have hcz57_2 : w56.cell? ⟨gb225, 2, none⟩ = some (.int .i64 0) := (blk_cell BK225.out 2).trans rfl; have hcz57_3 : w56.cell? ⟨gb225, 3, none⟩ = some (.slice none 0 0) := (blk_cell BK225.out 3).trans rfl; have hfz57_0 := blk_frozen BK225.out 0; have hfz57_1 := blk_frozen BK225.out 1; have hfz57_2 := blk_frozen BK225.out 2; have hfz57_3 := blk_frozen BK225.out 3; obtain ⟨Ao58, co58, eo58⟩ := Kd.R_slice HO224.out; subst eo58) | ((with_reducible refine gate_dst (N := 94) rfl ?_); (try (refine gate_guard (by rfl) ?_; dsimp only)); refine Kd.R_lit (Kd.int .u8) _ 5 ?hg (N := 94) ?hd (xs := ([] : List Int)) (inner := []) (ok := fun _ => True) (okp := fun _ => True) ?hr ?hp (fun _ hk => hk) trivial (Below.refl _ _) (Nat.le_refl _) (by simp) ?_; (case hd => rfl); (case hg => rfl); (case hr => first | (go_simp; done) | (go_simp; rfl)); (case hp => exact (Reps.none _ _)); intro v227 w59 ho60 hb hg_ hnew_; clear hg_ hnew_; (first | rw [← Ny226.out] at ho60 | (simp only [Int.reduceToNat] at ho60; rw [← Ny226.out] at ho60)); have n0_ := Aside0.mk (Kd.R_elder' (by (with_reducible repeat (first | apply Kd.R_alloc | apply Kd.R_drewN | apply Kd.R_drew)); exact (Kd.R_mono (Kd.R_far (p := ⟨gb225, 3, none⟩) (Kd.R_far (p := ⟨gb225, 2, none⟩) (Kd.R_far (p := ⟨gb225, 1, none⟩) (Kd.R_far (p := ⟨gb225, 0, none⟩) (Kd.R_types HO_8.out BK225.out (by decide)) (fun _ hk => hk.2) (.int .i64 t219)) (fun _ hk => hk.2) (.int .i64 t220)) (fun _ hk => hk.2) (.int .i64 t221)) (fun _ hk => hk.2) (.slice Ao58 t222.length co58)) (fun _ h_ => h_.1))) (Kd.R_base ho60) hb); have n1_ := Aside0.mk (Kd.R_elder' (by (with_reducible repeat (first | apply Kd.R_alloc | apply Kd.R_drewN | apply Kd.R_drew)); exact (Kd.R_mono (Kd.R_far (p := ⟨gb225, 3, none⟩) (Kd.R_far (p := ⟨gb225, 2, none⟩) (Kd.R_far (p := ⟨gb225, 1, none⟩) (Kd.R_far (p := ⟨gb225, 0, none⟩) (Kd.R_types HO_10.out BK225.out (by decide)) (fun _ hk => hk.2) (.int .i64 t219)) (fun _ hk => hk.2) (.int .i64 t220)) (fun _ hk => hk.2) (.int .i64 t221)) (fun _ hk => hk.2) (.slice Ao58 t222.length co58)) (fun _ h_ => h_.1))) (Kd.R_base ho60) hb); have n2_ := Aside0.mk (Kd.R_elder' (by (with_reducible repeat (first | apply Kd.R_alloc | apply Kd.R_drewN | apply Kd.R_drew)); exact (Kd.R_mono (Kd.R_far (p := ⟨gb225, 3, none⟩) (Kd.R_far (p := ⟨gb225, 2, none⟩) (Kd.R_far (p := ⟨gb225, 1, none⟩) (Kd.R_far (p := ⟨gb225, 0, none⟩) (Kd.R_types HO224.out BK225.out (by decide)) (fun _ hk => hk.2) (.int .i64 t219)) (fun _ hk => hk.2) (.int .i64 t220)) (fun _ hk => hk.2) (.int .i64 t221)) (fun _ hk => hk.2) (.slice Ao58 t222.length co58)) (fun _ h_ => h_.1))) (Kd.R_base ho60) hb); have n3_ := Aside0.mk (Kd.R_lower (Kd.R_new' (Kd.R_new' (Kd.R_new' ho60 (Kd.R_lt (by (with_reducible repeat (first | apply Kd.R_alloc | apply Kd.R_drewN | apply Kd.R_drew)); exact (Kd.R_mono (Kd.R_far (p := ⟨gb225, 3, none⟩) (Kd.R_far (p := ⟨gb225, 2, none⟩) (Kd.R_far (p := ⟨gb225, 1, none⟩) (Kd.R_far (p := ⟨gb225, 0, none⟩) (Kd.R_types HO_8.out BK225.out (by decide)) (fun _ hk => hk.2) (.int .i64 t219)) (fun _ hk => hk.2) (.int .i64 t220)) (fun _ hk => hk.2) (.int .i64 t221)) (fun _ hk => hk.2) (.slice Ao58 t222.length co58)) (fun _ h_ => h_.1))))) (Kd.R_lt (by (with_reducible repeat (first | apply Kd.R_alloc | apply Kd.R_drewN | apply Kd.R_drew)); exact (Kd.R_mono (Kd.R_far (p := ⟨gb225, 3, none⟩) (Kd.R_far (p := ⟨gb225, 2, none⟩) (Kd.R_far (p := ⟨gb225, 1, none⟩) (Kd.R_far (p := ⟨gb225, 0, none⟩) (Kd.R_types HO_10.out BK225.out (by decide)) (fun _ hk => hk.2) (.int .i64 t219)) (fun _ hk => hk.2) (.int .i64 t220)) (fun _ hk => hk.2) (.int .i64 t221)) (fun _ hk => hk.2) (.slice Ao58 t222.length co58)) (fun _ h_ => h_.1))))) (Kd.R_lt (by (with_reducible repeat (first | apply Kd.R_alloc | apply Kd.R_drewN | apply Kd.R_drew)); exact (Kd.R_mono (Kd.R_far (p := ⟨gb225, 3, none⟩) (Kd.R_far (p := ⟨gb225, 2, none⟩) (Kd.R_far (p := ⟨gb225, 1, none⟩) (Kd.R_far (p := ⟨gb225, 0, none⟩) (Kd.R_types HO224.out BK225.out (by decide)) (fun _ hk => hk.2) (.int .i64 t219)) (fun _ hk => hk.2) (.int .i64 t220)) (fun _ hk => hk.2) (.int .i64 t221)) (fun _ hk => hk.2) (.slice Ao58 t222.length co58)) (fun _ h_ => h_.1))))) (below_size (by repeat (first | (with_reducible first | exact HB.out | apply below_alloc | apply pw_below_drewN | apply below_drew1 | refine below_set ?_ GE225.out) | exact HB.out)))); have n4_ := Aside0.mk (blk_below (g := gb225) (o := .cells #[.int .i64 t219, .int .i64 t220, .int .i64 t221, .slice Ao58 t222.length co58] 37 (0, 0)) (by (with_reducible repeat (first | refine blk_drewN ?_ _ | refine blk_drew ?_ | refine blk_alloc ?_ _)); refine blk_put (cs := #[.int .i64 t219, .int .i64 t220, .int .i64 t221, .slice none 0 0]) ?_ 3 _ rfl; (with_reducible repeat (first | refine blk_drewN ?_ _ | refine blk_drew ?_ | refine blk_alloc ?_ _)); refine blk_put (cs := #[.int .i64 t219, .int .i64 t220, .int .i64 0, .slice none 0 0]) ?_ 2 _ rfl; (with_reducible repeat (first | refine blk_drewN ?_ _ | refine blk_drew ?_ | refine blk_alloc ?_ _)); refine blk_put (cs := #[.int .i64 t219, .int .i64 0, .int .i64 0, .slice none 0 0]) ?_ 1 _ rfl; (with_reducible repeat (first | refine blk_drewN ?_ _ | refine blk_drew ?_ | refine blk_alloc ?_ _)); refine blk_put (cs := #[.int .i64 0, .int .i64 0, .int .i64 0, .slice none 0 0]) ?_ 0 _ rfl; (with_reducible repeat (first | refine blk_drewN ?_ _ | refine blk_drew ?_ | refine blk_alloc ?_ _)); exact BK225.out) hb); have n5_ := Aside0.mk (below_step (by repeat (first | (with_reducible first | exact HB.out | apply below_alloc | apply pw_below_drewN | apply below_drew1 | refine below_set ?_ GE225.out) | exact HB.out)) hb); clear HO_8; clear HO_10; clear HO224; clear BK225; clear HB; have HO_8 := n0_; have HO_10 := n1_; have HO224 := n2_; have HO228 := n3_; have BK225 := n4_; have HB := n5_; clear n0_ n1_ n2_ n3_ n4_ n5_; clear hb ho60; obtain ⟨Ao62, co62, eo62⟩ := Kd.R_slice HO_10.out; subst eo62) | ((with_reducible refine gate_builtin (b := .append) (xs := #[.tmp 94, .tmp 95]) rfl ?_); (try (refine gate_guard (by rfl) ?_; dsimp only)); at_builtin; refine Kd.R_append_rows (Kd.int .u8) (w0 := w) w.heap.size rfl (.tmp 94) (.tmp 95) 22 5 (.int .u8 0) 1 rfl Try.underlying22 info5 rfl (by decide) (by omega) v227 y226 y214 _ _ _ (fun k_ => some k_ ≠ (.slice Ao21 x8_2.length co21 : Value).ownBlock ∧ some k_ ≠ (.slice Ao62 y214.length co62 : Value).ownBlock ∧ some k_ ≠ (.slice Ao58 t222.length co58 : Value).ownBlock) (fun _ => False) rfl rfl ?aO ?aR (fun _ _ h => h) (fun _ h => h.elim) ?aF ?aB ?aS ?aL ?_; (case aR => repeat (first | exact (Kd.R_reads' HO_10.out).2.2 | (with_reducible refine Kd.C_alloc ?_ _) | (with_reducible refine Kd.C_drewN ?_ _) | (with_reducible refine Kd.C_drew ?_))); (case aB => exact (by repeat (first | (with_reducible first | exact HB.out | apply below_alloc | apply pw_below_drewN | apply below_drew1 | refine below_set ?_ GE225.out) | exact HB.out))); (case aF => exact (fun k_ hk => ⟨Kd.fresh' (Kd.R_lt (by (with_reducible repeat (first | apply Kd.R_alloc | apply Kd.R_drewN | apply Kd.R_drew)); exact HO_8.out)) k_ hk, Kd.fresh' (Kd.R_lt (by (with_reducible repeat (first | apply Kd.R_alloc | apply Kd.R_drewN | apply Kd.R_drew)); exact HO_10.out)) k_ hk, Kd.fresh' (Kd.R_lt (by (with_reducible repeat (first | apply Kd.R_alloc | apply Kd.R_drewN | apply Kd.R_drew)); exact HO224.out)) k_ hk⟩)); (case aO => exact (by (with_reducible repeat (first | apply Kd.R_alloc | apply Kd.R_drewN | apply Kd.R_drew)); exact Kd.R_mono HO228.out (fun _ hk => ⟨hk.1.1.2, ⟨hk.1.2, hk.2⟩⟩))); (case aS => exact (below_size (by repeat (first | (with_reducible first | exact HB.out | apply below_alloc | apply pw_below_drewN | apply below_drew1 | refine below_set ?_ GE225.out) | exact HB.out)))); (case aL => have := LMc39.out; omega); intro v230 w61 ho hb hg hat; rw [← Ny229.out] at ho; have n0_ := Aside0.mk (Kd.R_after (ok := (fun k_ => some k_ ≠ (.slice Ao62 y214.length co62 : Value).ownBlock ∧ some k_ ≠ (.slice Ao58 t222.length co58 : Value).ownBlock)) (by (with_reducible repeat (first | apply Kd.R_alloc | apply Kd.R_drewN | apply Kd.R_drew)); exact HO_8.out) hg hat); have n1_ := Aside0.mk (Kd.R_after (ok := (fun k_ => some k_ ≠ (.slice Ao21 x8_2.length co21 : Value).ownBlock ∧ some k_ ≠ (.slice Ao58 t222.length co58 : Value).ownBlock)) (by (with_reducible repeat (first | apply Kd.R_alloc | apply Kd.R_drewN | apply Kd.R_drew)); exact HO_10.out) hg hat); have n2_ := Aside0.mk (Kd.R_after (ok := (fun k_ => some k_ ≠ (.slice Ao21 x8_2.length co21 : Value).ownBlock ∧ some k_ ≠ (.slice Ao62 y214.length co62 : Value).ownBlock)) (by (with_reducible repeat (first | apply Kd.R_alloc | apply Kd.R_drewN | apply Kd.R_drew)); exact Kd.R_mono HO224.out (fun _ hk => ⟨⟨hk.1.1.2, hk.1.2⟩, hk.2⟩)) hg hat); have n3_ := Aside0.mk (blk_grown (g := gb225) (o := .cells #[.int .i64 t219, .int .i64 t220, .int .i64 t221, .slice Ao58 t222.length co58] 37 (0, 0)) (by (with_reducible repeat (first | refine blk_drewN ?_ _ | refine blk_drew ?_ | refine blk_alloc ?_ _)); exact BK225.out) hg (Kd.R_ne HO228.out BK225.out (by decide))); have n4_ := Aside0.mk (hb); have n5_ := Aside0.mk (ho); clear HO_8; clear HO_10; clear HO224; clear BK225; clear HB; clear HO228; have HO_8 := n0_; have HO_10 := n1_; have HO224 := n2_; have BK225 := n3_; have HB := n4_; have HO231 := n5_; clear n0_ n1_ n2_ n3_ n4_ n5_; clear ho hb hg hat; obtain ⟨Ao63, co63, eo63⟩ := Kd.R_slice HO231.out; subst eo63; have p232 : 0 ≤ (1 : Int) := (by omega); have q232 : 1 < (y229.length : Int) := of_decide_eq_true (by first | (with_reducible assumption) | assumption); obtain ⟨ad232, e232, hx232_0⟩ := Kd.at_int (Kd.R_reads' HO231.out).2.2 1 p232 q232; cases e232; (try simp only [show (1 : Int).toNat = 1 from rfl, Nat.reduceMul, Nat.reduceEqDiff, Go.Addr.add, ↓reduceIte] at hx232_0); have qi232 : (1 < y229.length) = True := eq_true (by omega); (try rw [show ((1 : Int)).toNat = 1 from rfl] at hx232_0); replace p232 := eq_true p232; replace q232 := eq_true q232; have p41 : 0 ≤ (1 : Int) := (by omega); have q41 : (1 : Int) < ((y229.length : Int) : Int) := of_decide_eq_true (by first | (with_reducible assumption) | assumption); have qi41 : (1 < y229.length) = True := eq_true (by omega); obtain ⟨go41, co41, eo41, gb41, gl41, cl41, HG41⟩ := Kd.R_form HO231.out (by omega); (first | cases eo41 | (injection eo41 with ea_ en_ ec_; (first | subst ea_ | (injection ea_ with ea_; subst ea_)); subst ec_; clear en_)); have GB41 := Aside0.mk gb41; have GG41 := Aside0.mk HG41; clear gb41 gl41 HG41; (first | simp only [add_plain] at hx232_0 | skip); obtain ⟨hx41_0, hf41_0⟩ := Kd.R_celln 0 HO231.out (1 : Int) p41 q41; (try rw [show ((1 : Int)).toNat = 1 from rfl] at hx41_0); (try simp only [Nat.reduceMul, Nat.zero_mul, Nat.zero_add, Nat.reduceAdd] at hx41_0); (try rw [show ((1 : Int)).toNat = 1 from rfl] at hf41_0); (try simp only [Nat.reduceMul, Nat.zero_mul, Nat.zero_add, Nat.reduceAdd] at hf41_0); replace p41 := eq_true p41; replace q41 := eq_true q41; obtain ⟨hy64_, hz64_⟩ := Kd.R_celln 0 HO231.out (1 : Int) (by omega) (of_decide_eq_true (by first | (with_reducible assumption) | assumption)); (try simp only [Int.reduceToNat, Int.toNat_zero, Int.toNat_ofNat, Nat.reduceMul, Nat.zero_mul, Nat.zero_add] at hy64_ hz64_); (try rw [show ((1 : Int)).toNat = 1 from rfl] at hy64_); (try rw [show ((1 : Int)).toNat = 1 from rfl] at hz64_); have HP64 := Kd.R_putg HO231.out (1 : Int) (((((rd y229 1) + 1) % 256) + ((Go.bits .and .u16 a2 127) % 256)) % 256)) | ((with_reducible refine gate_store (t := 5) (p := 106) rfl ?_); refine store_event (t := 5) (p := 106) (v := ?vo_w65) (w1 := (w61.setCell ⟨go41, (1 : Int).toNat, none⟩ (.int .u8 (((((rd y229 1) + 1) % 256) + ((Go.bits .and .u16 a2 127) % 256)) % 256)))) ?hg ?ho ?hn ?hr ?_; (case ho => rfl); (case hg => rfl); (case hn => rfl); (case hr => first | (go_simp; done) | (go_simp; rfl)); intro w65 hw; have hg : w61.grownBy w65 (some go41) := (by rw [hw]; exact HP64.2); have hp_ : Kd.R (Kd.int .u8) 5 w65 w.heap.size (fun k_ => some k_ ≠ (.slice Ao21 x8_2.length co21 : Value).ownBlock ∧ some k_ ≠ (.slice Ao62 y214.length co62 : Value).ownBlock ∧ some k_ ≠ (.slice Ao58 t222.length co58 : Value).ownBlock) (.slice (some ⟨go41, 0, none⟩) y229.length co63) y233 := (by rw [hw, Ny233.out]; exact HP64.1); clear HP64; have n0_ := Aside0.mk (Kd.R_after (v := (.slice (some ⟨go41, 0, none⟩) y229.length co63)) (v1 := (.slice (some ⟨go41, 0, none⟩) y229.length co63)) (ok := (fun k_ => some k_ ≠ (.slice Ao62 y214.length co62 : Value).ownBlock ∧ some k_ ≠ (.slice Ao58 t222.length co58 : Value).ownBlock)) (by (with_reducible repeat (first | apply Kd.R_alloc | apply Kd.R_drewN | apply Kd.R_drew)); exact HO_8.out) hg (.inl rfl)); have n1_ := Aside0.mk (Kd.R_after (v := (.slice (some ⟨go41, 0, none⟩) y229.length co63)) (v1 := (.slice (some ⟨go41, 0, none⟩) y229.length co63)) (ok := (fun k_ => some k_ ≠ (.slice Ao21 x8_2.length co21 : Value).ownBlock ∧ some k_ ≠ (.slice Ao58 t222.length co58 : Value).ownBlock)) (by (with_reducible repeat (first | apply Kd.R_alloc | apply Kd.R_drewN | apply Kd.R_drew)); exact HO_10.out) hg (.inl rfl)); have n2_ := Aside0.mk (Kd.R_after (v := (.slice (some ⟨go41, 0, none⟩) y229.length co63)) (v1 := (.slice (some ⟨go41, 0, none⟩) y229.length co63)) (ok := (fun k_ => some k_ ≠ (.slice Ao21 x8_2.length co21 : Value).ownBlock ∧ some k_ ≠ (.slice Ao62 y214.length co62 : Value).ownBlock)) (by (with_reducible repeat (first | apply Kd.R_alloc | apply Kd.R_drewN | apply Kd.R_drew)); exact HO224.out) hg (.inl rfl)); have n3_ := Aside0.mk (blk_grown (g := gb225) (o := .cells #[.int .i64 t219, .int .i64 t220, .int .i64 t221, .slice Ao58 t222.length co58] 37 (0, 0)) (by (with_reducible repeat (first | refine blk_drewN ?_ _ | refine blk_drew ?_ | refine blk_alloc ?_ _)); exact BK225.out) hg (Kd.R_ne HO231.out BK225.out (by decide))); have n4_ := Aside0.mk (hp_); have n5_ := Aside0.mk ((by rw [hw]; exact below_set (HB.out) GB41.out : Below w.heap.size w w65)); clear HO_8; clear HO_10; clear HO224; clear BK225; clear HO231; clear HB; have HO_8 := n0_; have HO_10 := n1_; have HO224 := n2_; have BK225 := n3_; have HO231 := n4_; have HB := n5_; clear n0_ n1_ n2_ n3_ n4_ n5_; clear hg hw hp_) | ((with_reducible refine gate_callee (f := 24) rfl ?_); refine goesL_ (some 108) rfl rfl Try.func24 (by kernel_rfl) rfl #[.slice (some ⟨go41, 0, none⟩) y233.length co63] rfl (by (try simp only [List.map_toArray, List.map_cons, List.map_nil]); first | done | (rw [show y233.length = y229.length from (Kd.R_reads' HO231.out).1.symm] <;> rfl) | rfl | (simp only [List.length_drop, List.length_take]; rfl)) ?_; (with_reducible refine (frame_Next.calls kj21 _ _ y233 t234 t235 t236 t237 _ ?side1 ?side2 A42.out).mono ?_); (case side1 => repeat (first | exact (Kd.R_reads' HO231.out).2.2 | (with_reducible refine Kd.C_alloc ?_ _) | (with_reducible refine Kd.C_drewN ?_ _) | (with_reducible refine Kd.C_drew ?_))); (case side2 => rw [show y233.length = y229.length from (Kd.R_reads' HO231.out).1.symm]; exact (Kd.R_reads' HO231.out).2.1); rintro e w66 ⟨v238, rfl, ho0, hb⟩; refine ⟨_, rfl, ?_⟩; have n0_ := Aside0.mk (Kd.R_elder' (by (with_reducible repeat (first | apply Kd.R_alloc | apply Kd.R_drewN | apply Kd.R_drew)); exact HO_8.out) (Kd.R_base ho0) hb); have n1_ := Aside0.mk (Kd.R_elder' (by (with_reducible repeat (first | apply Kd.R_alloc | apply Kd.R_drewN | apply Kd.R_drew)); exact HO_10.out) (Kd.R_base ho0) hb); have n2_ := Aside0.mk (Kd.R_elder' (by (with_reducible repeat (first | apply Kd.R_alloc | apply Kd.R_drewN | apply Kd.R_drew)); exact HO224.out) (Kd.R_base ho0) hb); have n3_ := Aside0.mk (Kd.R_elder' (by (with_reducible repeat (first | apply Kd.R_alloc | apply Kd.R_drewN | apply Kd.R_drew)); exact HO231.out) (Kd.R_base ho0) hb); have n4_ := Aside0.mk (Kd.R_lower (Kd.R_new' (Kd.R_new' (Kd.R_new' (Kd.R_new' ho0 (Kd.R_lt (by (with_reducible repeat (first | apply Kd.R_alloc | apply Kd.R_drewN | apply Kd.R_drew)); exact HO_8.out))) (Kd.R_lt (by (with_reducible repeat (first | apply Kd.R_alloc | apply Kd.R_drewN | apply Kd.R_drew)); exact HO_10.out))) (Kd.R_lt (by (with_reducible repeat (first | apply Kd.R_alloc | apply Kd.R_drewN | apply Kd.R_drew)); exact HO224.out))) (Kd.R_lt (by (with_reducible repeat (first | apply Kd.R_alloc | apply Kd.R_drewN | apply Kd.R_drew)); exact HO231.out))) (below_size (by repeat (first | (with_reducible first | exact HB.out | apply below_alloc | apply pw_below_drewN | apply below_drew1 | refine below_set ?_ GE225.out) | exact HB.out)))); have n5_ := Aside0.mk (blk_below (g := gb225) (o := .cells #[.int .i64 t219, .int .i64 t220, .int .i64 t221, .slice Ao58 t222.length co58] 37 (0, 0)) (by (with_reducible repeat (first | refine blk_drewN ?_ _ | refine blk_drew ?_ | refine blk_alloc ?_ _)); exact BK225.out) hb); have n6_ := Aside0.mk (below_step (by repeat (first | (with_reducible first | exact HB.out | apply below_alloc | apply pw_below_drewN | apply below_drew1 | refine below_set ?_ GE225.out) | exact HB.out)) hb); clear HO_8; clear HO_10; clear HO224; clear HO231; clear BK225; clear HB; have HO_8 := n0_; have HO_10 := n1_; have HO224 := n2_; have HO231 := n3_; have HO239 := n4_; have BK225 := n5_; have HB := n6_; clear n0_ n1_ n2_ n3_ n4_ n5_ n6_; (try clear hb); (try clear hb2); (try clear hk); (try clear hi); (try clear ho0)) | ((with_reducible refine gate_dst (N := 17) rfl ?_); (try (refine gate_guard (by rfl) ?_; dsimp only)); refine box_event ?hg (N := 17) ?hd (cs := #[.int .i64 0, .int .i64 0, .int .i64 0, .slice none 0 0]) (t := 37) ?hr ?_; (case hd => rfl); (case hg => rfl); (case hr => first | (go_simp; done) | (go_simp; rfl)); intro gb240 hg w67 hbox hb; have n0_ := Aside0.mk (Kd.R_below (by (with_reducible repeat (first | apply Kd.R_alloc | apply Kd.R_drewN | apply Kd.R_drew)); exact HO_8.out) hb); have n1_ := Aside0.mk (Kd.R_below (by (with_reducible repeat (first | apply Kd.R_alloc | apply Kd.R_drewN | apply Kd.R_drew)); exact HO_10.out) hb); have n2_ := Aside0.mk (Kd.R_below (by (with_reducible repeat (first | apply Kd.R_alloc | apply Kd.R_drewN | apply Kd.R_drew)); exact HO224.out) hb); have n3_ := Aside0.mk (Kd.R_below (by (with_reducible repeat (first | apply Kd.R_alloc | apply Kd.R_drewN | apply Kd.R_drew)); exact HO231.out) hb); have n4_ := Aside0.mk (Kd.R_below (by (with_reducible repeat (first | apply Kd.R_alloc | apply Kd.R_drewN | apply Kd.R_drew)); exact HO239.out) hb); have n5_ := Aside0.mk (blk_below (g := gb225) (o := .cells #[.int .i64 t219, .int .i64 t220, .int .i64 t221, .slice Ao58 t222.length co58] 37 (0, 0)) (by (with_reducible repeat (first | refine blk_drewN ?_ _ | refine blk_drew ?_ | refine blk_alloc ?_ _)); exact BK225.out) hb); have n6_ := Aside0.mk (below_step (by repeat (first | (with_reducible first | exact HB.out | apply below_alloc | apply pw_below_drewN | apply below_drew1 | refine below_set ?_ GE225.out) | exact HB.out)) hb); have n7_ := Aside0.mk (hbox); have n8_ := Aside0.mk ((by rw [hg]; exact (below_size (by repeat (first | (with_reducible first | exact HB.out | apply below_alloc | apply pw_below_drewN | apply below_drew1 | refine below_set ?_ GE225.out) | exact HB.out))) : w.heap.size ≤ gb240)); have n9_ := Aside0.mk ((by rw [hg]; exact (below_size (by repeat (first | (with_reducible first | exact HB.out | apply below_alloc | apply pw_below_drewN | apply below_drew1 | refine below_set ?_ GE225.out) | exact HB.out))) : w.heap.size ≤ gb240)); have n10_ := Aside0.mk ((by rw [hg]; exact Nat.ne_of_lt (blk_lt (g := gb225) (o := .cells #[.int .i64 t219, .int .i64 t220, .int .i64 t221, .slice Ao58 t222.length co58] 37 (0, 0)) (by (with_reducible repeat (first | refine blk_drewN ?_ _ | refine blk_drew ?_ | refine blk_alloc ?_ _)); exact BK225.out)) : gb225 ≠ gb240)); have n11_ := Aside0.mk ((by rw [hg]; exact Nat.ne_of_gt (blk_lt (g := gb225) (o := .cells #[.int .i64 t219, .int .i64 t220, .int .i64 t221, .slice Ao58 t222.length co58] 37 (0, 0)) (by (with_reducible repeat (first | refine blk_drewN ?_ _ | refine blk_drew ?_ | refine blk_alloc ?_ _)); exact BK225.out)) : gb240 ≠ gb225)); clear HO_8; clear HO_10; clear HO224; clear HO231; clear HO239; clear BK225; clear HB; have HO_8 := n0_; have HO_10 := n1_; have HO224 := n2_; have HO231 := n3_; have HO239 := n4_; have BK225 := n5_; have HB := n6_; have BK240 := n7_; have GW240 := n8_; have GE240 := n9_; have NB225_240 := n10_; have NB240_225 := n11_; clear n0_ n1_ n2_ n3_ n4_ n5_ n6_ n7_ n8_ n9_ n10_ n11_; clear hb hbox hg; have hnb68 := NB240_225.out; have hnc68 := NB225_240.out; have hcz69_0 : w67.cell? ⟨gb240, 0, none⟩ = some (.int .i64 0) := (blk_cell BK240.out 0).trans rfl; have hcz69_1 : w67.cell? ⟨gb240, 1, none⟩ = some (.int .i64 0) := (blk_cell BK240.out 1).trans rfl; have hcz69_2 : w67.cell? ⟨gb240, 2, none⟩ = some (.int .i64 0) := (blk_cell BK240.out 2).trans rfl; have hcz69_3 : w67.cell? ⟨gb240, 3, none⟩ = some (.slice none 0 0) := (blk_cell BK240.out 3).trans rfl; have hfz69_0 := blk_frozen BK240.out 0; have hfz69_1 := blk_frozen BK240.out 1; have hfz69_2 := blk_frozen BK240.out 2; have hfz69_3 := blk_frozen BK240.out 3; obtain ⟨Ao70, co70, eo70⟩ := Kd.R_slice HO239.out; subst eo70) | ((with_reducible refine gate_dst (N := 109) rfl ?_); (try (refine gate_guard (by rfl) ?_; dsimp only)); refine Kd.R_lit (Kd.int .u8) _ 5 ?hg (N := 109) ?hd (xs := ([] : List Int)) (inner := []) (ok := fun _ => True) (okp := fun _ => True) ?hr ?hp (fun _ hk => hk) trivial (Below.refl _ _) (Nat.le_refl _) (by simp) ?_; (case hd => rfl); (case hg => rfl); (case hr => first | (go_simp; done) | (go_simp; rfl)); (case hp => exact (Reps.none _ _)); intro v242 w71 ho72 hb hg_ hnew_; clear hg_ hnew_; (first | rw [← Ny241.out] at ho72 | (simp only [Int.reduceToNat] at ho72; rw [← Ny241.out] at ho72)); have n0_ := Aside0.mk (Kd.R_elder' (by (with_reducible repeat (first | apply Kd.R_alloc | apply Kd.R_drewN | apply Kd.R_drew)); exact (Kd.R_mono (Kd.R_far (p := ⟨gb240, 3, none⟩) (Kd.R_far (p := ⟨gb240, 2, none⟩) (Kd.R_far (p := ⟨gb240, 1, none⟩) (Kd.R_far (p := ⟨gb240, 0, none⟩) (Kd.R_types HO_8.out BK240.out (by decide)) (fun _ hk => hk.2) (.int .i64 t234)) (fun _ hk => hk.2) (.int .i64 t235)) (fun _ hk => hk.2) (.int .i64 t236)) (fun _ hk => hk.2) (.slice Ao70 t237.length co70)) (fun _ h_ => h_.1))) (Kd.R_base ho72) hb); have n1_ := Aside0.mk (Kd.R_elder' (by (with_reducible repeat (first | apply Kd.R_alloc | apply Kd.R_drewN | apply Kd.R_drew)); exact (Kd.R_mono (Kd.R_far (p := ⟨gb240, 3, none⟩) (Kd.R_far (p := ⟨gb240, 2, none⟩) (Kd.R_far (p := ⟨gb240, 1, none⟩) (Kd.R_far (p := ⟨gb240, 0, none⟩) (Kd.R_types HO_10.out BK240.out (by decide)) (fun _ hk => hk.2) (.int .i64 t234)) (fun _ hk => hk.2) (.int .i64 t235)) (fun _ hk => hk.2) (.int .i64 t236)) (fun _ hk => hk.2) (.slice Ao70 t237.length co70)) (fun _ h_ => h_.1))) (Kd.R_base ho72) hb); have n2_ := Aside0.mk (Kd.R_elder' (by (with_reducible repeat (first | apply Kd.R_alloc | apply Kd.R_drewN | apply Kd.R_drew)); exact (Kd.R_mono (Kd.R_far (p := ⟨gb240, 3, none⟩) (Kd.R_far (p := ⟨gb240, 2, none⟩) (Kd.R_far (p := ⟨gb240, 1, none⟩) (Kd.R_far (p := ⟨gb240, 0, none⟩) (Kd.R_types HO224.out BK240.out (by decide)) (fun _ hk => hk.2) (.int .i64 t234)) (fun _ hk => hk.2) (.int .i64 t235)) (fun _ hk => hk.2) (.int .i64 t236)) (fun _ hk => hk.2) (.slice Ao70 t237.length co70)) (fun _ h_ => h_.1))) (Kd.R_base ho72) hb); have n3_ := Aside0.mk (Kd.R_elder' (by (with_reducible repeat (first | apply Kd.R_alloc | apply Kd.R_drewN | apply Kd.R_drew)); exact (Kd.R_mono (Kd.R_far (p := ⟨gb240, 3, none⟩) (Kd.R_far (p := ⟨gb240, 2, none⟩) (Kd.R_far (p := ⟨gb240, 1, none⟩) (Kd.R_far (p := ⟨gb240, 0, none⟩) (Kd.R_types HO231.out BK240.out (by decide)) (fun _ hk => hk.2) (.int .i64 t234)) (fun _ hk => hk.2) (.int .i64 t235)) (fun _ hk => hk.2) (.int .i64 t236)) (fun _ hk => hk.2) (.slice Ao70 t237.length co70)) (fun _ h_ => h_.1))) (Kd.R_base ho72) hb); have n4_ := Aside0.mk (Kd.R_elder' (by (with_reducible repeat (first | apply Kd.R_alloc | apply Kd.R_drewN | apply Kd.R_drew)); exact (Kd.R_mono (Kd.R_far (p := ⟨gb240, 3, none⟩) (Kd.R_far (p := ⟨gb240, 2, none⟩) (Kd.R_far (p := ⟨gb240, 1, none⟩) (Kd.R_far (p := ⟨gb240, 0, none⟩) (Kd.R_types HO239.out BK240.out (by decide)) (fun _ hk => hk.2) (.int .i64 t234)) (fun _ hk => hk.2) (.int .i64 t235)) (fun _ hk => hk.2) (.int .i64 t236)) (fun _ hk => hk.2) (.slice Ao70 t237.length co70)) (fun _ h_ => h_.1))) (Kd.R_base ho72) hb); have n5_ := Aside0.mk (Kd.R_lower (Kd.R_new' (Kd.R_new' (Kd.R_new' (Kd.R_new' (Kd.R_new' ho72 (Kd.R_lt (by (with_reducible repeat (first | apply Kd.R_alloc | apply Kd.R_drewN | apply Kd.R_drew)); exact (Kd.R_mono (Kd.R_far (p := ⟨gb240, 3, none⟩) (Kd.R_far (p := ⟨gb240, 2, none⟩) (Kd.R_far (p := ⟨gb240, 1, none⟩) (Kd.R_far (p := ⟨gb240, 0, none⟩) (Kd.R_types HO_8.out BK240.out (by decide)) (fun _ hk => hk.2) (.int .i64 t234)) (fun _ hk => hk.2) (.int .i64 t235)) (fun _ hk => hk.2) (.int .i64 t236)) (fun _ hk => hk.2) (.slice Ao70 t237.length co70)) (fun _ h_ => h_.1))))) (Kd.R_lt (by (with_reducible repeat (first | apply Kd.R_alloc | apply Kd.R_drewN | apply Kd.R_drew)); exact (Kd.R_mono (Kd.R_far (p := ⟨gb240, 3, none⟩) (Kd.R_far (p := ⟨gb240, 2, none⟩) (Kd.R_far (p := ⟨gb240, 1, none⟩) (Kd.R_far (p := ⟨gb240, 0, none⟩) (Kd.R_types HO_10.out BK240.out (by decide)) (fun _ hk => hk.2) (.int .i64 t234)) (fun _ hk => hk.2) (.int .i64 t235)) (fun _ hk => hk.2) (.int .i64 t236)) (fun _ hk => hk.2) (.slice Ao70 t237.length co70)) (fun _ h_ => h_.1))))) (Kd.R_lt (by (with_reducible repeat (first | apply Kd.R_alloc | apply Kd.R_drewN | apply Kd.R_drew)); exact (Kd.R_mono (Kd.R_far (p := ⟨gb240, 3, none⟩) (Kd.R_far (p := ⟨gb240, 2, none⟩) (Kd.R_far (p := ⟨gb240, 1, none⟩) (Kd.R_far (p := ⟨gb240, 0, none⟩) (Kd.R_types HO224.out BK240.out (by decide)) (fun _ hk => hk.2) (.int .i64 t234)) (fun _ hk => hk.2) (.int .i64 t235)) (fun _ hk => hk.2) (.int .i64 t236)) (fun _ hk => hk.2) (.slice Ao70 t237.length co70)) (fun _ h_ => h_.1))))) (Kd.R_lt (by (with_reducible repeat (first | apply Kd.R_alloc | apply Kd.R_drewN | apply Kd.R_drew)); exact (Kd.R_mono (Kd.R_far (p := ⟨gb240, 3, none⟩) (Kd.R_far (p := ⟨gb240, 2, none⟩) (Kd.R_far (p := ⟨gb240, 1, none⟩) (Kd.R_far (p := ⟨gb240, 0, none⟩) (Kd.R_types HO231.out BK240.out (by decide)) (fun _ hk => hk.2) (.int .i64 t234)) (fun _ hk => hk.2) (.int .i64 t235)) (fun _ hk => hk.2) (.int .i64 t236)) (fun _ hk => hk.2) (.slice Ao70 t237.length co70)) (fun _ h_ => h_.1))))) (Kd.R_lt (by (with_reducible repeat (first | apply Kd.R_alloc | apply Kd.R_drewN | apply Kd.R_drew)); exact (Kd.R_mono (Kd.R_far (p := ⟨gb240, 3, none⟩) (Kd.R_far (p := ⟨gb240, 2, none⟩) (Kd.R_far (p := ⟨gb240, 1, none⟩) (Kd.R_far (p := ⟨gb240, 0, none⟩) (Kd.R_types HO239.out BK240.out (by decide)) (fun _ hk => hk.2) (.int .i64 t234)) (fun _ hk => hk.2) (.int .i64 t235)) (fun _ hk => hk.2) (.int .i64 t236)) (fun _ hk => hk.2) (.slice Ao70 t237.length co70)) (fun _ h_ => h_.1))))) (below_size (by repeat (first | (with_reducible first | exact HB.out | apply below_alloc | apply pw_below_drewN | apply below_drew1 | refine below_set ?_ GE225.out | refine below_set ?_ GE240.out) | exact HB.out)))); have n6_ := Aside0.mk (blk_below (g := gb225) (o := .cells #[.int .i64 t219, .int .i64 t220, .int .i64 t221, .slice Ao58 t222.length co58] 37 (0, 0)) (by (with_reducible repeat (first | refine blk_drewN ?_ _ | refine blk_drew ?_ | refine blk_alloc ?_ _)); refine blk_far ?_ NB225_240.out _; (with_reducible repeat (first | refine blk_drewN ?_ _ | refine blk_drew ?_ | refine blk_alloc ?_ _)); refine blk_far ?_ NB225_240.out _; (with_reducible repeat (first | refine blk_drewN ?_ _ | refine blk_drew ?_ | refine blk_alloc ?_ _)); refine blk_far ?_ NB225_240.out _; (with_reducible repeat (first | refine blk_drewN ?_ _ | refine blk_drew ?_ | refine blk_alloc ?_ _)); refine blk_far ?_ NB225_240.out _; (with_reducible repeat (first | refine blk_drewN ?_ _ | refine blk_drew ?_ | refine blk_alloc ?_ _)); exact BK225.out) hb); have n7_ := Aside0.mk (blk_below (g := gb240) (o := .cells #[.int .i64 t234, .int .i64 t235, .int .i64 t236, .slice Ao70 t237.length co70] 37 (0, 0)) (by (with_reducible repeat (first | refine blk_drewN ?_ _ | refine blk_drew ?_ | refine blk_alloc ?_ _)); refine blk_put (cs := #[.int .i64 t234, .int .i64 t235, .int .i64 t236, .slice none 0 0]) ?_ 3 _ rfl; (with_reducible repeat (first | refine blk_drewN ?_ _ | refine blk_drew ?_ | refine blk_alloc ?_ _)); refine blk_put (cs := #[.int .i64 t234, .int .i64 t235, .int .i64 0, .slice none 0 0]) ?_ 2 _ rfl; (with_reducible repeat (first | refine blk_drewN ?_ _ | refine blk_drew ?_ | refine blk_alloc ?_ _)); refine blk_put (cs := #[.int .i64 t234, .int .i64 0, .int .i64 0, .slice none 0 0]) ?_ 1 _ rfl; (with_reducible repeat (first | refine blk_drewN ?_ _ | refine blk_drew ?_ | refine blk_alloc ?_ _)); refine blk_put (cs := #[.int .i64 0, .int .i64 0, .int .i64 0, .slice none 0 0]) ?_ 0 _ rfl; (with_reducible repeat (first | refine blk_drewN ?_ _ | refine blk_drew ?_ | refine blk_alloc ?_ _)); exact BK240.out) hb); have n8_ := Aside0.mk (below_step (by repeat (first | (with_reducible first | exact HB.out | apply below_alloc | apply pw_below_drewN | apply below_drew1 | refine below_set ?_ GE225.out | refine below_set ?_ GE240.out) | exact HB.out)) hb); clear HO_8; clear HO_10; clear HO224; clear HO231; clear HO239; clear BK225; clear BK240; clear HB; have HO_8 := n0_; have HO_10 := n1_; have HO224 := n2_; have HO231 := n3_; have HO239 := n4_; have HO243 := n5_; have BK225 := n6_; have BK240 := n7_; have HB := n8_; clear n0_ n1_ n2_ n3_ n4_ n5_ n6_ n7_ n8_; clear hb ho72; have q73 : (3 : Int) ≤ ((y214.length : Int) : Int) := of_decide_eq_true (by first | (with_reducible assumption) | assumption); obtain ⟨i073, hi073, _, hsz73, _⟩ := info_parts info5; have hroom73 : y214.length ≤ co62 := (Kd.R_reads' HO_10.out).2.1; have hC73 : Kd.C (Kd.int .u8) _ Ao62 y214.length y214 := (Kd.R_reads' HO_10.out).2.2; have hcut73 := cut_to (P := Try.prog) 22 5 .i64 Try.underlying22 hi073 Ao62 y214.length co62 3 (by omega) q73 hroom73; have hr73 := Kd.C_take (m := 3) hC73 (by omega); have hy73 : y244.length = (3 : Int).toNat := (by rw [Ny244.out, List.length_take]; omega); rw [← Ny244.out] at hr73; rw [← hy73] at hcut73; have HR247 := Aside0.mk hr73; have HC247 := Aside0.mk (show y244.length ≤ co62 from by omega); clear hr73 hC73 hroom73 hi073 hsz73; have KY73 := Aside0.mk hy73; clear hy73; have KL73 := Aside0.mk (show 3 ≤ y214.length from by omega); replace q73 := eq_true q73) | ((with_reducible refine gate_builtin (b := .append) (xs := #[.tmp 109, .tmp 111]) rfl ?_); (try (refine gate_guard (by rfl) ?_; dsimp only)); at_builtin; refine Kd.R_append_rows (Kd.int .u8) (w0 := w) w.heap.size rfl (.tmp 109) (.tmp 111) 22 5 (.int .u8 0) 1 rfl Try.underlying22 info5 rfl (by decide) (by omega) v242 y241 y244 _ _ _ (fun k_ => some k_ ≠ (.slice Ao21 x8_2.length co21 : Value).ownBlock ∧ some k_ ≠ (.slice Ao62 y214.length co62 : Value).ownBlock ∧ some k_ ≠ (.slice Ao58 t222.length co58 : Value).ownBlock ∧ some k_ ≠ (.slice (some ⟨go41, 0, none⟩) y229.length co63 : Value).ownBlock ∧ some k_ ≠ (.slice Ao70 t237.length co70 : Value).ownBlock) (fun _ => False) rfl rfl ?aO ?aR (fun _ _ h => h) (fun _ h => h.elim) ?aF ?aB ?aS ?aL ?_; (case aR => repeat (first | exact (by repeat (first | (with_reducible exact HR247.out) | (with_reducible refine Kd.C_alloc ?_ _) | (with_reducible refine Kd.C_drewN ?_ _) | (with_reducible refine Kd.C_drew ?_) | exact HR247.out)) | (with_reducible refine Kd.C_alloc ?_ _) | (with_reducible refine Kd.C_drewN ?_ _) | (with_reducible refine Kd.C_drew ?_))); (case aB => exact (by repeat (first | (with_reducible first | exact HB.out | apply below_alloc | apply pw_below_drewN | apply below_drew1 | refine below_set ?_ GE225.out | refine below_set ?_ GE240.out) | exact HB.out))); (case aF => exact (fun k_ hk => ⟨Kd.fresh' (Kd.R_lt (by (with_reducible repeat (first | apply Kd.R_alloc | apply Kd.R_drewN | apply Kd.R_drew)); exact HO_8.out)) k_ hk, Kd.fresh' (Kd.R_lt (by (with_reducible repeat (first | apply Kd.R_alloc | apply Kd.R_drewN | apply Kd.R_drew)); exact HO_10.out)) k_ hk, Kd.fresh' (Kd.R_lt (by (with_reducible repeat (first | apply Kd.R_alloc | apply Kd.R_drewN | apply Kd.R_drew)); exact HO224.out)) k_ hk, Kd.fresh' (Kd.R_lt (by (with_reducible repeat (first | apply Kd.R_alloc | apply Kd.R_drewN | apply Kd.R_drew)); exact HO231.out)) k_ hk, Kd.fresh' (Kd.R_lt (by (with_reducible repeat (first | apply Kd.R_alloc | apply Kd.R_drewN | apply Kd.R_drew)); exact HO239.out)) k_ hk⟩)); (case aO => exact (by (with_reducible repeat (first | apply Kd.R_alloc | apply Kd.R_drewN | apply Kd.R_drew)); exact Kd.R_mono HO243.out (fun _ hk => ⟨hk.1.1.1.1.2, ⟨hk.1.1.1.2, ⟨hk.1.1.2, ⟨hk.1.2, hk.2⟩⟩⟩⟩))); (case aS => exact (below_size (by repeat (first | (with_reducible first | exact HB.out | apply below_alloc | apply pw_below_drewN | apply below_drew1 | refine below_set ?_ GE225.out | refine below_set ?_ GE240.out) | exact HB.out)))); (case aL => have := LMc44.out; omega); intro v249 w74 ho hb hg hat; rw [← Ny248.out] at ho; have n0_ := Aside0.mk (Kd.R_after (ok := (fun k_ => some k_ ≠ (.slice Ao62 y214.length co62 : Value).ownBlock ∧ some k_ ≠ (.slice Ao58 t222.length co58 : Value).ownBlock ∧ some k_ ≠ (.slice (some ⟨go41, 0, none⟩) y229.length co63 : Value).ownBlock ∧ some k_ ≠ (.slice Ao70 t237.length co70 : Value).ownBlock)) (by (with_reducible repeat (first | apply Kd.R_alloc | apply Kd.R_drewN | apply Kd.R_drew)); exact Kd.R_mono HO_8.out (fun _ hk => ⟨⟨hk.1.1.1.1, ⟨hk.1.1.1.2, ⟨hk.1.1.2, hk.1.2⟩⟩⟩, hk.2⟩)) hg hat); have n1_ := Aside0.mk (Kd.R_after (ok := (fun k_ => some k_ ≠ (.slice Ao21 x8_2.length co21 : Value).ownBlock ∧ some k_ ≠ (.slice Ao58 t222.length co58 : Value).ownBlock ∧ some k_ ≠ (.slice (some ⟨go41, 0, none⟩) y229.length co63 : Value).ownBlock ∧ some k_ ≠ (.slice Ao70 t237.length co70 : Value).ownBlock)) (by (with_reducible repeat (first | apply Kd.R_alloc | apply Kd.R_drewN | apply Kd.R_drew)); exact Kd.R_mono HO_10.out (fun _ hk => ⟨⟨hk.1.1.1.1, ⟨hk.1.1.1.2, ⟨hk.1.1.2, hk.1.2⟩⟩⟩, hk.2⟩)) hg hat); have n2_ := Aside0.mk (Kd.R_after (ok := (fun k_ => some k_ ≠ (.slice Ao21 x8_2.length co21 : Value).ownBlock ∧ some k_ ≠ (.slice Ao62 y214.length co62 : Value).ownBlock ∧ some k_ ≠ (.slice (some ⟨go41, 0, none⟩) y229.length co63 : Value).ownBlock ∧ some k_ ≠ (.slice Ao70 t237.length co70 : Value).ownBlock)) (by (with_reducible repeat (first | apply Kd.R_alloc | apply Kd.R_drewN | apply Kd.R_drew)); exact Kd.R_mono HO224.out (fun _ hk => ⟨⟨hk.1.1.1.1, ⟨hk.1.1.1.2, ⟨hk.1.1.2, hk.1.2⟩⟩⟩, hk.2⟩)) hg hat); have n3_ := Aside0.mk (blk_grown (g := gb225) (o := .cells #[.int .i64 t219, .int .i64 t220, .int .i64 t221, .slice Ao58 t222.length co58] 37 (0, 0)) (by (with_reducible repeat (first | refine blk_drewN ?_ _ | refine blk_drew ?_ | refine blk_alloc ?_ _)); exact BK225.out) hg (Kd.R_ne HO243.out BK225.out (by decide))); have n4_ := Aside0.mk (Kd.R_after (ok := (fun k_ => some k_ ≠ (.slice Ao21 x8_2.length co21 : Value).ownBlock ∧ some k_ ≠ (.slice Ao62 y214.length co62 : Value).ownBlock ∧ some k_ ≠ (.slice Ao58 t222.length co58 : Value).ownBlock ∧ some k_ ≠ (.slice Ao70 t237.length co70 : Value).ownBlock)) (by (with_reducible repeat (first | apply Kd.R_alloc | apply Kd.R_drewN | apply Kd.R_drew)); exact Kd.R_mono HO231.out (fun _ hk => ⟨⟨hk.1.1.1, ⟨hk.1.1.2.1, ⟨hk.1.1.2.2, hk.1.2⟩⟩⟩, hk.2⟩)) hg hat); have n5_ := Aside0.mk (Kd.R_after (ok := (fun k_ => some k_ ≠ (.slice Ao21 x8_2.length co21 : Value).ownBlock ∧ some k_ ≠ (.slice Ao62 y214.length co62 : Value).ownBlock ∧ some k_ ≠ (.slice Ao58 t222.length co58 : Value).ownBlock ∧ some k_ ≠ (.slice (some ⟨go41, 0, none⟩) y229.length co63 : Value).ownBlock)) (by (with_reducible repeat (first | apply Kd.R_alloc | apply Kd.R_drewN | apply Kd.R_drew)); exact Kd.R_mono HO239.out (fun _ hk => ⟨⟨hk.1.1.1.1.2, ⟨hk.1.1.1.2, ⟨hk.1.1.2, hk.1.2⟩⟩⟩, hk.2⟩)) hg hat); have n6_ := Aside0.mk (blk_grown (g := gb240) (o := .cells #[.int .i64 t234, .int .i64 t235, .int .i64 t236, .slice Ao70 t237.length co70] 37 (0, 0)) (by (with_reducible repeat (first | refine blk_drewN ?_ _ | refine blk_drew ?_ | refine blk_alloc ?_ _)); exact BK240.out) hg (Kd.R_ne HO243.out BK240.out (by decide))); have n7_ := Aside0.mk (hb); have n8_ := Aside0.mk ((show Kd.C (Kd.int .u8) w74 Ao62 y244.length y244 from by rw [Ny244.out]; exact Kd.C_take (m := 3) ((Kd.R_reads' (Kd.R_after (ok := (fun k_ => some k_ ≠ (.slice Ao21 x8_2.length co21 : Value).ownBlock ∧ some k_ ≠ (.slice Ao58 t222.length co58 : Value).ownBlock ∧ some k_ ≠ (.slice (some ⟨go41, 0, none⟩) y229.length co63 : Value).ownBlock ∧ some k_ ≠ (.slice Ao70 t237.length co70 : Value).ownBlock)) (by (with_reducible repeat (first | apply Kd.R_alloc | apply Kd.R_drewN | apply Kd.R_drew)); exact Kd.R_mono HO_10.out (fun _ hk => ⟨⟨hk.1.1.1.1, ⟨hk.1.1.1.2, ⟨hk.1.1.2, hk.1.2⟩⟩⟩, hk.2⟩)) hg hat)).2.2) KL73.out)); have n9_ := Aside0.mk (ho); clear HO_8; clear HO_10; clear HO224; clear BK225; clear HO231; clear HO239; clear BK240; clear HB; clear HR247; clear HO243; have HO_8 := n0_; have HO_10 := n1_; have HO224 := n2_; have BK225 := n3_; have HO231 := n4_; have HO239 := n5_; have BK240 := n6_; have HB := n7_; have HR247 := n8_; have HO250 := n9_; clear n0_ n1_ n2_ n3_ n4_ n5_ n6_ n7_ n8_ n9_; clear ho hb hg hat; have p46 : 0 ≤ (2 : Int) := (by omega); have q46 : (2 : Int) < ((y248.length : Int) : Int) := of_decide_eq_true (by first | (with_reducible assumption) | assumption); have qi46 : (2 < y248.length) = True := eq_true (by omega); obtain ⟨go46, co46, eo46, gb46, gl46, cl46, HG46⟩ := Kd.R_form HO250.out (by omega); (first | cases eo46 | (injection eo46 with ea_ en_ ec_; (first | subst ea_ | (injection ea_ with ea_; subst ea_)); subst ec_; clear en_)); have GB46 := Aside0.mk gb46; have GG46 := Aside0.mk HG46; clear gb46 gl46 HG46; obtain ⟨hx46_0, hf46_0⟩ := Kd.R_celln 0 HO250.out (2 : Int) p46 q46; (try rw [show ((2 : Int)).toNat = 2 from rfl] at hx46_0); (try simp only [Nat.reduceMul, Nat.zero_mul, Nat.zero_add, Nat.reduceAdd] at hx46_0); (try rw [show ((2 : Int)).toNat = 2 from rfl] at hf46_0); (try simp only [Nat.reduceMul, Nat.zero_mul, Nat.zero_add, Nat.reduceAdd] at hf46_0); replace p46 := eq_true p46; replace q46 := eq_true q46; obtain ⟨hy75_, hz75_⟩ := Kd.R_celln 0 HO250.out (2 : Int) (by omega) (of_decide_eq_true (by first | (with_reducible assumption) | assumption)); (try simp only [Int.reduceToNat, Int.toNat_zero, Int.toNat_ofNat, Nat.reduceMul, Nat.zero_mul, Nat.zero_add] at hy75_ hz75_); (try rw [show ((2 : Int)).toNat = 2 from rfl] at hy75_); (try rw [show ((2 : Int)).toNat = 2 from rfl] at hz75_); have HP75 := Kd.R_putg HO250.out (2 : Int) ((33 + ((Go.bits .and .u16 a2 127) % 256)) % 256)) | ((with_reducible refine gate_store (t := 5) (p := 118) rfl ?_); refine store_event (t := 5) (p := 118) (v := ?vo_w76) (w1 := (w74.setCell ⟨go46, (2 : Int).toNat, none⟩ (.int .u8 ((33 + ((Go.bits .and .u16 a2 127) % 256)) % 256)))) ?hg ?ho ?hn ?hr ?_; (case ho => rfl); (case hg => rfl); (case hn => rfl); (case hr => first | (go_simp; done) | (go_simp; rfl)); intro w76 hw; have hg : w74.grownBy w76 (some go46) := (by rw [hw]; exact HP75.2); have hp_ : Kd.R (Kd.int .u8) 5 w76 w.heap.size (fun k_ => some k_ ≠ (.slice Ao21 x8_2.length co21 : Value).ownBlock ∧ some k_ ≠ (.slice Ao62 y214.length co62 : Value).ownBlock ∧ some k_ ≠ (.slice Ao58 t222.length co58 : Value).ownBlock ∧ some k_ ≠ (.slice (some ⟨go41, 0, none⟩) y229.length co63 : Value).ownBlock ∧ some k_ ≠ (.slice Ao70 t237.length co70 : Value).ownBlock) (.slice (some ⟨go46, 0, none⟩) y248.length co46) y251 := (by rw [hw, Ny251.out]; exact HP75.1); clear HP75; have n0_ := Aside0.mk (Kd.R_after (v := (.slice (some ⟨go46, 0, none⟩) y248.length co46)) (v1 := (.slice (some ⟨go46, 0, none⟩) y248.length co46)) (ok := (fun k_ => some k_ ≠ (.slice Ao62 y214.length co62 : Value).ownBlock ∧ some k_ ≠ (.slice Ao58 t222.length co58 : Value).ownBlock ∧ some k_ ≠ (.slice (some ⟨go41, 0, none⟩) y229.length co63 : Value).ownBlock ∧ some k_ ≠ (.slice Ao70 t237.length co70 : Value).ownBlock)) (by (with_reducible repeat (first | apply Kd.R_alloc | apply Kd.R_drewN | apply Kd.R_drew)); exact HO_8.out) hg (.inl rfl)); have n1_ := Aside0.mk (Kd.R_after (v := (.slice (some ⟨go46, 0, none⟩) y248.length co46)) (v1 := (.slice (some ⟨go46, 0, none⟩) y248.length co46)) (ok := (fun k_ => some k_ ≠ (.slice Ao21 x8_2.length co21 : Value).ownBlock ∧ some k_ ≠ (.slice Ao58 t222.length co58 : Value).ownBlock ∧ some k_ ≠ (.slice (some ⟨go41, 0, none⟩) y229.length co63 : Value).ownBlock ∧ some k_ ≠ (.slice Ao70 t237.length co70 : Value).ownBlock)) (by (with_reducible repeat (first | apply Kd.R_alloc | apply Kd.R_drewN | apply Kd.R_drew)); exact HO_10.out) hg (.inl rfl)); have n2_ := Aside0.mk (Kd.R_after (v := (.slice (some ⟨go46, 0, none⟩) y248.length co46)) (v1 := (.slice (some ⟨go46, 0, none⟩) y248.length co46)) (ok := (fun k_ => some k_ ≠ (.slice Ao21 x8_2.length co21 : Value).ownBlock ∧ some k_ ≠ (.slice Ao62 y214.length co62 : Value).ownBlock ∧ some k_ ≠ (.slice (some ⟨go41, 0, none⟩) y229.length co63 : Value).ownBlock ∧ some k_ ≠ (.slice Ao70 t237.length co70 : Value).ownBlock)) (by (with_reducible repeat (first | apply Kd.R_alloc | apply Kd.R_drewN | apply Kd.R_drew)); exact HO224.out) hg (.inl rfl)); have n3_ := Aside0.mk (blk_grown (g := gb225) (o := .cells #[.int .i64 t219, .int .i64 t220, .int .i64 t221, .slice Ao58 t222.length co58] 37 (0, 0)) (by (with_reducible repeat (first | refine blk_drewN ?_ _ | refine blk_drew ?_ | refine blk_alloc ?_ _)); exact BK225.out) hg (Kd.R_ne HO250.out BK225.out (by decide))); have n4_ := Aside0.mk (Kd.R_after (v := (.slice (some ⟨go46, 0, none⟩) y248.length co46)) (v1 := (.slice (some ⟨go46, 0, none⟩) y248.length co46)) (ok := (fun k_ => some k_ ≠ (.slice Ao21 x8_2.length co21 : Value).ownBlock ∧ some k_ ≠ (.slice Ao62 y214.length co62 : Value).ownBlock ∧ some k_ ≠ (.slice Ao58 t222.length co58 : Value).ownBlock ∧ some k_ ≠ (.slice Ao70 t237.length co70 : Value).ownBlock)) (by (with_reducible repeat (first | apply Kd.R_alloc | apply Kd.R_drewN | apply Kd.R_drew)); exact HO231.out) hg (.inl rfl)); have n5_ := Aside0.mk (Kd.R_after (v := (.slice (some ⟨go46, 0, none⟩) y248.length co46)) (v1 := (.slice (some ⟨go46, 0, none⟩) y248.length co46)) (ok := (fun k_ => some k_ ≠ (.slice Ao21 x8_2.length co21 : Value).ownBlock ∧ some k_ ≠ (.slice Ao62 y214.length co62 : Value).ownBlock ∧ some k_ ≠ (.slice Ao58 t222.length co58 : Value).ownBlock ∧ some k_ ≠ (.slice (some ⟨go41, 0, none⟩) y229.length co63 : Value).ownBlock)) (by (with_reducible repeat (first | apply Kd.R_alloc | apply Kd.R_drewN | apply Kd.R_drew)); exact HO239.out) hg (.inl rfl)); have n6_ := Aside0.mk (blk_grown (g := gb240) (o := .cells #[.int .i64 t234, .int .i64 t235, .int .i64 t236, .slice Ao70 t237.length co70] 37 (0, 0)) (by (with_reducible repeat (first | refine blk_drewN ?_ _ | refine blk_drew ?_ | refine blk_alloc ?_ _)); exact BK240.out) hg (Kd.R_ne HO250.out BK240.out (by decide))); have n7_ := Aside0.mk (hp_); have n8_ := Aside0.mk ((by rw [hw]; exact below_set (HB.out) GB46.out : Below w.heap.size w w76)); have n9_ := Aside0.mk ((show Kd.C (Kd.int .u8) w76 Ao62 y244.length y244 from by rw [Ny244.out]; exact Kd.C_take (m := 3) ((Kd.R_reads' (Kd.R_after (v := (.slice (some ⟨go46, 0, none⟩) y248.length co46)) (v1 := (.slice (some ⟨go46, 0, none⟩) y248.length co46)) (ok := (fun k_ => some k_ ≠ (.slice Ao21 x8_2.length co21 : Value).ownBlock ∧ some k_ ≠ (.slice Ao58 t222.length co58 : Value).ownBlock ∧ some k_ ≠ (.slice (some ⟨go41, 0, none⟩) y229.length co63 : Value).ownBlock ∧ some k_ ≠ (.slice Ao70 t237.length co70 : Value).ownBlock)) (by (with_reducible repeat (first | apply Kd.R_alloc | apply Kd.R_drewN | apply Kd.R_drew)); exact HO_10.out) hg (.inl rfl))).2.2) KL73.out)); clear HO_8; clear HO_10; clear HO224; clear BK225; clear HO231; clear HO239; clear BK240; clear HO250; clear HB; clear HR247; have HO_8 := n0_; have HO_10 := n1_; have HO224 := n2_; have BK225 := n3_; have HO231 := n4_; have HO239 := n5_; have BK240 := n6_; have HO250 := n7_; have HB := n8_; have HR247 := n9_; clear n0_ n1_ n2_ n3_ n4_ n5_ n6_ n7_ n8_ n9_; clear hg hw hp_) | ((with_reducible refine gate_callee (f := 24) rfl ?_); refine goesL_ (some 120) rfl rfl Try.func24 (by kernel_rfl) rfl #[.slice (some ⟨go46, 0, none⟩) y251.length co46] rfl (by (try simp only [List.map_toArray, List.map_cons, List.map_nil]); first | done | (rw [show y251.length = y248.length from (Kd.R_reads' HO250.out).1.symm] <;> rfl) | rfl | (simp only [List.length_drop, List.length_take]; rfl)) ?_; (with_reducible refine (frame_Next.calls kj21 _ _ y251 t252 t253 t254 t255 _ ?side1 ?side2 A47.out).mono ?_); (case side1 => repeat (first | exact (Kd.R_reads' HO250.out).2.2 | (with_reducible refine Kd.C_alloc ?_ _) | (with_reducible refine Kd.C_drewN ?_ _) | (with_reducible refine Kd.C_drew ?_))); (case side2 => rw [show y251.length = y248.length from (Kd.R_reads' HO250.out).1.symm]; exact (Kd.R_reads' HO250.out).2.1); rintro e w77 ⟨v256, rfl, ho0, hb⟩; refine ⟨_, rfl, ?_⟩; have n0_ := Aside0.mk (Kd.R_elder' (by (with_reducible repeat (first | apply Kd.R_alloc | apply Kd.R_drewN | apply Kd.R_drew)); exact HO_8.out) (Kd.R_base ho0) hb); have n1_ := Aside0.mk (Kd.R_elder' (by (with_reducible repeat (first | apply Kd.R_alloc | apply Kd.R_drewN | apply Kd.R_drew)); exact HO_10.out) (Kd.R_base ho0) hb); have n2_ := Aside0.mk (Kd.R_elder' (by (with_reducible repeat (first | apply Kd.R_alloc | apply Kd.R_drewN | apply Kd.R_drew)); exact HO224.out) (Kd.R_base ho0) hb); have n3_ := Aside0.mk (Kd.R_elder' (by (with_reducible repeat (first | apply Kd.R_alloc | apply Kd.R_drewN | apply Kd.R_drew)); exact HO231.out) (Kd.R_base ho0) hb); have n4_ := Aside0.mk (Kd.R_elder' (by (with_reducible repeat (first | apply Kd.R_alloc | apply Kd.R_drewN | apply Kd.R_drew)); exact HO239.out) (Kd.R_base ho0) hb); have n5_ := Aside0.mk (Kd.R_elder' (by (with_reducible repeat (first | apply Kd.R_alloc | apply Kd.R_drewN | apply Kd.R_drew)); exact HO250.out) (Kd.R_base ho0) hb); have n6_ := Aside0.mk (Kd.R_lower (Kd.R_new' (Kd.R_new' (Kd.R_new' (Kd.R_new' (Kd.R_new' (Kd.R_new' ho0 (Kd.R_lt (by (with_reducible repeat (first | apply Kd.R_alloc | apply Kd.R_drewN | apply Kd.R_drew)); exact HO_8.out))) (Kd.R_lt (by (with_reducible repeat (first | apply Kd.R_alloc | apply Kd.R_drewN | apply Kd.R_drew)); exact HO_10.out))) (Kd.R_lt (by (with_reducible repeat (first | apply Kd.R_alloc | apply Kd.R_drewN | apply Kd.R_drew)); exact HO224.out))) (Kd.R_lt (by (with_reducible repeat (first | apply Kd.R_alloc | apply Kd.R_drewN | apply Kd.R_drew)); exact HO231.out))) (Kd.R_lt (by (with_reducible repeat (first | apply Kd.R_alloc | apply Kd.R_drewN | apply Kd.R_drew)); exact HO239.out))) (Kd.R_lt (by (with_reducible repeat (first | apply Kd.R_alloc | apply Kd.R_drewN | apply Kd.R_drew)); exact HO250.out))) (below_size (by repeat (first | (with_reducible first | exact HB.out | apply below_alloc | apply pw_below_drewN | apply below_drew1 | refine below_set ?_ GE225.out | refine below_set ?_ GE240.out) | exact HB.out)))); have n7_ := Aside0.mk (blk_below (g := gb225) (o := .cells #[.int .i64 t219, .int .i64 t220, .int .i64 t221, .slice Ao58 t222.length co58] 37 (0, 0)) (by (with_reducible repeat (first | refine blk_drewN ?_ _ | refine blk_drew ?_ | refine blk_alloc ?_ _)); exact BK225.out) hb); have n8_ := Aside0.mk (blk_below (g := gb240) (o := .cells #[.int .i64 t234, .int .i64 t235, .int .i64 t236, .slice Ao70 t237.length co70] 37 (0, 0)) (by (with_reducible repeat (first | refine blk_drewN ?_ _ | refine blk_drew ?_ | refine blk_alloc ?_ _)); exact BK240.out) hb); have n9_ := Aside0.mk (Kd.C_below (by repeat (first | (with_reducible exact HR247.out) | (with_reducible refine Kd.C_alloc ?_ _) | (with_reducible refine Kd.C_drewN ?_ _) | (with_reducible refine Kd.C_drew ?_) | exact HR247.out)) hb); have n10_ := Aside0.mk (below_step (by repeat (first | (with_reducible first | exact HB.out | apply below_alloc | apply pw_below_drewN | apply below_drew1 | refine below_set ?_ GE225.out | refine below_set ?_ GE240.out) | exact HB.out)) hb); clear HO_8; clear HO_10; clear HO224; clear HO231; clear HO239; clear HO250; clear BK225; clear BK240; clear HR247; clear HB; have HO_8 := n0_; have HO_10 := n1_; have HO224 := n2_; have HO231 := n3_; have HO239 := n4_; have HO250 := n5_; have HO257 := n6_; have BK225 := n7_; have BK240 := n8_; have HR247 := n9_; have HB := n10_; clear n0_ n1_ n2_ n3_ n4_ n5_ n6_ n7_ n8_ n9_ n10_; (try clear hb); (try clear hb2); (try clear hk); (try clear hi); (try clear ho0)) | ((with_reducible refine gate_dst (N := 19) rfl ?_); (try (refine gate_guard (by rfl) ?_; dsimp only)); refine box_event ?hg (N := 19) ?hd (cs := #[.int .i64 0, .int .i64 0, .int .i64 0, .slice none 0 0]) (t := 37) ?hr ?_; (case hd => rfl); (case hg => rfl); (case hr => first | (go_simp; done) | (go_simp; rfl)); intro gb258 hg w78 hbox hb; have n0_ := Aside0.mk (Kd.R_below (by (with_reducible repeat (first | apply Kd.R_alloc | apply Kd.R_drewN | apply Kd.R_drew)); exact HO_8.out) hb); have n1_ := Aside0.mk (Kd.R_below (by (with_reducible repeat (first | apply Kd.R_alloc | apply Kd.R_drewN | apply Kd.R_drew)); exact HO_10.out) hb); have n2_ := Aside0.mk (Kd.R_below (by (with_reducible repeat (first | apply Kd.R_alloc | apply Kd.R_drewN | apply Kd.R_drew)); exact HO224.out) hb); have n3_ := Aside0.mk (Kd.R_below (by (with_reducible repeat (first | apply Kd.R_alloc | apply Kd.R_drewN | apply Kd.R_drew)); exact HO231.out) hb); have n4_ := Aside0.mk (Kd.R_below (by (with_reducible repeat (first | apply Kd.R_alloc | apply Kd.R_drewN | apply Kd.R_drew)); exact HO239.out) hb); have n5_ := Aside0.mk (Kd.R_below (by (with_reducible repeat (first | apply Kd.R_alloc | apply Kd.R_drewN | apply Kd.R_drew)); exact HO250.out) hb); have n6_ := Aside0.mk (Kd.R_below (by (with_reducible repeat (first | apply Kd.R_alloc | apply Kd.R_drewN | apply Kd.R_drew)); exact HO257.out) hb); have n7_ := Aside0.mk (blk_below (g := gb225) (o := .cells #[.int .i64 t219, .int .i64 t220, .int .i64 t221, .slice Ao58 t222.length co58] 37 (0, 0)) (by (with_reducible repeat (first | refine blk_drewN ?_ _ | refine blk_drew ?_ | refine blk_alloc ?_ _)); exact BK225.out) hb); have n8_ := Aside0.mk (blk_below (g := gb240) (o := .cells #[.int .i64 t234, .int .i64 t235, .int .i64 t236, .slice Ao70 t237.length co70] 37 (0, 0)) (by (with_reducible repeat (first | refine blk_drewN ?_ _ | refine blk_drew ?_ | refine blk_alloc ?_ _)); exact BK240.out) hb); have n9_ := Aside0.mk (Kd.C_below (by repeat (first | (with_reducible exact HR247.out) | (with_reducible refine Kd.C_alloc ?_ _) | (with_reducible refine Kd.C_drewN ?_ _) | (with_reducible refine Kd.C_drew ?_) | exact HR247.out)) hb); have n10_ := Aside0.mk (below_step (by repeat (first | (with_reducible first | exact HB.out | apply below_alloc | apply pw_below_drewN | apply below_drew1 | refine below_set ?_ GE225.out | refine below_set ?_ GE240.out) | exact HB.out)) hb); have n11_ := Aside0.mk (hbox); have n12_ := Aside0.mk ((by rw [hg]; exact (below_size (by repeat (first | (with_reducible first | exact HB.out | apply below_alloc | apply pw_below_drewN | apply below_drew1 | refine below_set ?_ GE225.out | refine below_set ?_ GE240.out) | exact HB.out))) : w.heap.size ≤ gb258)); have n13_ := Aside0.mk ((by rw [hg]; exact (below_size (by repeat (first | (with_reducible first | exact HB.out | apply below_alloc | apply pw_below_drewN | apply below_drew1 | refine below_set ?_ GE225.out | refine below_set ?_ GE240.out) | exact HB.out))) : w.heap.size ≤ gb258)); have n14_ := Aside0.mk ((by rw [hg]; exact Nat.ne_of_lt (blk_lt (g := gb225) (o := .cells #[.int .i64 t219, .int .i64 t220, .int .i64 t221, .slice Ao58 t222.length co58] 37 (0, 0)) (by (with_reducible repeat (first | refine blk_drewN ?_ _ | refine blk_drew ?_ | refine blk_alloc ?_ _)); exact BK225.out)) : gb225 ≠ gb258)); have n15_ := Aside0.mk ((by rw [hg]; exact Nat.ne_of_gt (blk_lt (g := gb225) (o := .cells #[.int .i64 t219, .int .i64 t220, .int .i64 t221, .slice Ao58 t222.length co58] 37 (0, 0)) (by (with_reducible repeat (first | refine blk_drewN ?_ _ | refine blk_drew ?_ | refine blk_alloc ?_ _)); exact BK225.out)) : gb258 ≠ gb225)); have n16_ := Aside0.mk ((by rw [hg]; exact Nat.ne_of_lt (blk_lt (g := gb240) (o := .cells #[.int .i64 t234, .int .i64 t235, .int .i64 t236, .slice Ao70 t237.length co70] 37 (0, 0)) (by (with_reducible repeat (first | refine blk_drewN ?_ _ | refine blk_drew ?_ | refine blk_alloc ?_ _)); exact BK240.out)) : gb240 ≠ gb258)); have n17_ := Aside0.mk ((by rw [hg]; exact Nat.ne_of_gt (blk_lt (g := gb240) (o := .cells #[.int .i64 t234, .int .i64 t235, .int .i64 t236, .slice Ao70 t237.length co70] 37 (0, 0)) (by (with_reducible repeat (first | refine blk_drewN ?_ _ | refine blk_drew ?_ | refine blk_alloc ?_ _)); exact BK240.out)) : gb258 ≠ gb240)); clear HO_8; clear HO_10; clear HO224; clear HO231; clear HO239; clear HO250; clear HO257; clear BK225; clear BK240; clear HR247; clear HB; have HO_8 := n0_; have HO_10 := n1_; have HO224 := n2_; have HO231 := n3_; have HO239 := n4_; have HO250 := n5_; have HO257 := n6_; have BK225 := n7_; have BK240 := n8_; have HR247 := n9_; have HB := n10_; have BK258 := n11_; have GW258 := n12_; have GE258 := n13_; have NB225_258 := n14_; have NB258_225 := n15_; have NB240_258 := n16_; have NB258_240 := n17_; clear n0_ n1_ n2_ n3_ n4_ n5_ n6_ n7_ n8_ n9_ n10_ n11_ n12_ n13_ n14_ n15_ n16_ n17_; clear hb hbox hg; have hnb79 := NB258_225.out; have hnc79 := NB225_258.out; have hnb80 := NB258_240.out; have hnc80 := NB240_258.out; have hcz81_0 : w78.cell? ⟨gb258, 0, none⟩ = some (.int .i64 0) := (blk_cell BK258.out 0).trans rfl; have hcz81_1 : w78.cell? ⟨gb258, 1, none⟩ = some (.int .i64 0) := (blk_cell BK258.out 1).trans rfl; have hcz81_2 : w78.cell? ⟨gb258, 2, none⟩ = some (.int .i64 0) := (blk_cell BK258.out 2).trans rfl; have hcz81_3 : w78.cell? ⟨gb258, 3, none⟩ = some (.slice none 0 0) := (blk_cell BK258.out 3).trans rfl; have hfz81_0 := blk_frozen BK258.out 0; have hfz81_1 := blk_frozen BK258.out 1; have hfz81_2 := blk_frozen BK258.out 2; have hfz81_3 := blk_frozen BK258.out 3; obtain ⟨Ao82, co82, eo82⟩ := Kd.R_slice HO257.out; subst eo82; have hcz83_0 : w78.cell? ⟨gb225, 0, none⟩ = some (.int .i64 t219) := (blk_cell BK225.out 0).trans rfl; have hcz83_1 : w78.cell? ⟨gb225, 1, none⟩ = some (.int .i64 t220) := (blk_cell BK225.out 1).trans rfl; have hcz83_2 : w78.cell? ⟨gb225, 2, none⟩ = some (.int .i64 t221) := (blk_cell BK225.out 2).trans rfl; have hcz83_3 : w78.cell? ⟨gb225, 3, none⟩ = some (.slice Ao58 t222.length co58) := (blk_cell BK225.out 3).trans rfl; have hfz83_0 := blk_frozen BK225.out 0; have hfz83_1 := blk_frozen BK225.out 1; have hfz83_2 := blk_frozen BK225.out 2; have hfz83_3 := blk_frozen BK225.out 3; have hcz84_0 : w78.cell? ⟨gb240, 0, none⟩ = some (.int .i64 t234) := (blk_cell BK240.out 0).trans rfl; have hcz84_1 : w78.cell? ⟨gb240, 1, none⟩ = some (.int .i64 t235) := (blk_cell BK240.out 1).trans rfl; have hcz84_2 : w78.cell? ⟨gb240, 2, none⟩ = some (.int .i64 t236) := (blk_cell BK240.out 2).trans rfl; have hcz84_3 : w78.cell? ⟨gb240, 3, none⟩ = some (.slice Ao70 t237.length co70) := (blk_cell BK240.out 3).trans rfl; have hfz84_0 := blk_frozen BK240.out 0; have hfz84_1 := blk_frozen BK240.out 1; have hfz84_2 := blk_frozen BK240.out 2; have hfz84_3 := blk_frozen BK240.out 3))
                                              go_ret
                                              exact ⟨by first | rfl | (simp [errW_none, errW_some] <;> rfl) | (simp [*, errW_none, errW_some] <;> rfl), by repeat (first | (with_reducible first | exact HB.out | apply below_alloc | apply pw_below_drewN | apply below_drew1 | refine below_set ?_ GE225.out | refine below_set ?_ GE240.out | refine below_set ?_ GE258.out) | exact HB.out)⟩
                                            · rw [if_neg c54] at H
                                              have c54b0 : (t252 == 3) = false := beq_eq_false_iff_ne.mpr c54
                                              have c54b1 : (t252 != 3) = true := bne_iff_ne.mpr c54
                                              obtain rfl := Option.some.inj H
                                              exact absurd HT.out (by simp)
                                          · rw [if_neg c53] at H
                                            have c53b0 : (t236 == 10) = false := beq_eq_false_iff_ne.mpr c53
                                            have c53b1 : (t236 != 10) = true := bne_iff_ne.mpr c53
                                            obtain rfl := Option.some.inj H
                                            exact absurd HT.out (by simp)
                                        · rw [if_neg c52] at H
                                          have c52b0 : (t234 == 3) = false := beq_eq_false_iff_ne.mpr c52
                                          have c52b1 : (t234 != 3) = true := bne_iff_ne.mpr c52
                                          obtain rfl := Option.some.inj H
                                          exact absurd HT.out (by simp)
                                      · rw [if_neg c51] at H
                                        have c51b0 : ((t222.length : Int) == 0) = false := beq_eq_false_iff_ne.mpr c51
                                        have c51b1 : ((t222.length : Int) != 0) = true := bne_iff_ne.mpr c51
                                        have c51b2 : ¬ (t222 = []) := fun h_ => c51 (by rw [h_]; rfl)
                                        obtain rfl := Option.some.inj H
                                        exact absurd HT.out (by simp)
                                    · rw [if_neg c50] at H
                                      have c50b0 : (t221 == 12) = false := beq_eq_false_iff_ne.mpr c50
                                      have c50b1 : (t221 != 12) = true := bne_iff_ne.mpr c50
                                      obtain rfl := Option.some.inj H
                                      exact absurd HT.out (by simp)
                                  · rw [if_neg c49] at H
                                    have c49b0 : (t220 == 1) = false := beq_eq_false_iff_ne.mpr c49
                                    have c49b1 : (t220 != 1) = true := bne_iff_ne.mpr c49
                                    obtain rfl := Option.some.inj H
                                    exact absurd HT.out (by simp)
                                · rw [if_neg c48] at H
                                  have c48b0 : (t219 == 3) = false := beq_eq_false_iff_ne.mpr c48
                                  have c48b1 : (t219 != 3) = true := bne_iff_ne.mpr c48
                                  obtain rfl := Option.some.inj H
                                  exact absurd HT.out (by simp)
                              · rw [if_neg c45] at H
                                exact absurd H (by simp)
                            · rw [if_neg c44] at H
                              exact absurd H (by simp)
                          · rw [if_neg c43] at H
                            exact absurd H (by simp)
                        · rw [if_neg c40] at H
                          exact absurd H (by simp)
                      · rw [if_neg c39] at H
                        exact absurd H (by simp)
        · rw [if_neg c16] at H
          exact absurd H (by simp)

/-- THE ONE PURE STATEMENT of sidesticklaw06_FrameBursts: yours. -/
def sidesticklaw06_FrameBursts.Pure : Prop := ∀ (l0 : List Int) (a1 : Int) (a2 : Int), l0.length ≤ maxLen → l0.length * 1 ≤ 140737488351232 → (∀ x ∈ l0, (Lit.int .u8 x).wf = true) → (Lit.int .i64 a1).wf = true → (Lit.int .u16 a2).wf = true → ∃ k, sidesticklaw06_FrameBursts.f k l0 a1 a2 = some true
theorem sidesticklaw06_FrameBursts.walk (P : sidesticklaw06_FrameBursts.Pure) (a0 : Option Addr) (len0 cap0 : Nat) (z0 : List Int) (a1 : Int) (a2 : Int) (w : World) (w0 : (a0 = none ∧ len0 = 0 ∧ cap0 = 0 ∧ z0 = []) ∨ ∃ x, a0 = some x ∧ len0 ≤ cap0 ∧ cap0 ≤ maxLen ∧ z0.length = cap0 ∧ (∀ i, i < z0.length → w.cell? (x.add i) = some (.int .u8 (z0.getD i 0))) ∧ ∀ n ∈ z0, (Lit.int .u8 n).wf = true) (y0 : len0 * 1 ≤ 140737488351232) (w1 : (Lit.int .i64 a1).wf = true) (w2 : (Lit.int .u16 a2).wf = true) :
    Calls Try.prog 12 #[.slice a0 len0 cap0, .int .i64 a1, .int .u16 a2] w fun e w' => e = .returned (.bool true) ∧ Below w.heap.size w w' := by
  obtain ⟨l0, rfl, hr0, hm0, hw0, hc0⟩ := ReadsInt.ofRowC w0
  obtain ⟨k, h⟩ := P l0 a1 a2 hm0 y0 hw0 w1 w2
  refine (sidesticklaw06_FrameBursts.calls k _ _ l0 a1 a2 true w (Kd.C_of_reads (d := (0 : Int)) (h1 := fun _ => rfl) hr0) hc0 h rfl).mono ?_
  rintro e w' ⟨rfl, hd⟩
  exact ⟨rfl, hd⟩

end Go.Proofs.Ytjmpoiafcdphbaa.PFrameBursts
