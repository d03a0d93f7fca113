/- The walks of FrameApart (print.sh wrote the lines; bytes.IndexByte and slices.Clone are ours). -/
import Derived.Test.YtjmpoiafcdphbaaQFrameApartx0
import Derived.Test.YtjmpoiafcdphbaaQFrameApartx3
namespace Go.Proofs.Ytjmpoiafcdphbaa.PFrameApart
open Go.RowKit Go.Proofs.YtjmpoiafcdphbaaW.PrintWords Go.Proofs.YtjmpoiafcdphbaaW.PrintLast Go.Proofs.YtjmpoiafcdphbaaW.PrintMore
attribute [local go_sem] max2_int min2_int max_two min_two max_three min_three max_four min_four   -- for this text's walks alone
set_option linter.unusedVariables false
set_option linter.unusedSimpArgs false

/-! ### sidesticklaw06_FrameApart: function 13 -/
def sidesticklaw06_FrameApart.f (k : Nat) (l0 : List Int) (l1 : List Int) : Option (Bool) := (sidesticklaw06_shown.f k).bind fun t203 => ((sidesticklaw06_body.f l0).bind fun t204 => ((sidesticklaw06_body.f l1).bind fun t207 => ((frame_Put.f k t204).bind fun bt210 => ((frame_Put.f k t207).bind fun bt214 => (if t203 = true then (if bt210.2 = 0 then (if bt214.2 = 0 then (if (bt210.1.length : Int) = (wrap64 ((t204.length : Int) + 5)) then (if (bt214.1.length : Int) = (wrap64 ((t207.length : Int) + 5)) then (if 0 ≤ (mn (bt210.1.length : Int) (bt214.1.length : Int)) then (if (mn (bt210.1.length : Int) (bt214.1.length : Int)) ≤ (bt210.1.length : Int) then (if (mn (bt210.1.length : Int) (bt214.1.length : Int)) ≤ (bt214.1.length : Int) then (if (((strOfNums (bt210.1.take ((mn (bt210.1.length : Int) (bt214.1.length : Int)) : Int).toNat)).toList == (strOfNums (bt214.1.take ((mn (bt210.1.length : Int) (bt214.1.length : Int)) : Int).toNat)).toList) == ((strOfNums t204).toList == (strOfNums t207).toList)) = true then (if 0 < (bt210.1.length : Int) then (if (rd bt210.1 0) = 165 then (if 1 < (bt210.1.length : Int) then (if (rd bt210.1 1) = 1 then (if 2 < (bt210.1.length : Int) then (if (wrap64 (rd bt210.1 2)) = (t204.length : Int) then (if 3 ≤ (wrap64 (3 + (t204.length : Int))) then (if (wrap64 (3 + (t204.length : Int))) ≤ (bt210.1.length : Int) then (some ((strOfNums ((bt210.1.take ((wrap64 (3 + (t204.length : Int))) : Int).toNat).drop 3)).toList == (strOfNums t204).toList)) else (none)) else (none)) else (some false)) else (none)) else (some false)) else (none)) else (some false)) else (none)) else (some false)) else (none)) else (none)) else (none)) else (some false)) else (some false)) else (some false)) else (some false)) else (some false))))))
theorem sidesticklaw06_FrameApart.mono : ∀ a0 a1 k, LeO (sidesticklaw06_FrameApart.f k a0 a1) (sidesticklaw06_FrameApart.f (k + 1) a0 a1) := by
  intro a0 a1 k
  unfold sidesticklaw06_FrameApart.f
  repeat' first
      | (with_reducible exact frame_Put.mono _ _)
      | (with_reducible exact sidesticklaw06_shown.mono _)
      | (with_reducible exact LeO.refl _)
      | (with_reducible exact LeO.none _)
      | (with_reducible refine LeO.ite ?_ ?_)
      | (with_reducible refine LeO.bind ?_ (fun _ => ?_))
      | exact frame_Put.mono _ _
      | exact sidesticklaw06_shown.mono _
      | exact LeO.none _
      | refine LeO.ite ?_ ?_
      | refine LeO.bind ?_ (fun _ => ?_)
set_option maxHeartbeats 8000000 in
set_option maxRecDepth 100000 in
theorem sidesticklaw06_FrameApart.calls (k : Nat) (A0 : Option Addr) (c0 : Nat) (l0 : List Int) (A1 : Option Addr) (c1 : Nat) (l1 : List Int) (r : Bool) (w : World) (hr0 : Kd.C (Kd.int .u8) w A0 l0.length l0) (hc0 : l0.length ≤ c0) (hr1 : Kd.C (Kd.int .u8) w A1 l1.length l1) (hc1 : l1.length ≤ c1) (h : sidesticklaw06_FrameApart.f k l0 l1 = some r) (ht : r = true) :
    Calls Try.prog 13 #[.slice A0 l0.length c0, .slice A1 l1.length c1] w fun e w' => e = .returned (.bool r) ∧ Below w.heap.size w w' := by
  have HT := Aside0.mk ht
  clear ht
  have HR0 := Aside0.mk hr0
  have HC0 := Aside0.mk hc0
  clear hr0 hc0
  have HR1 := Aside0.mk hr1
  have HC1 := Aside0.mk hc1
  clear hr1 hc1
  have HB := Aside0.mk (Below.refl w.heap.size w)
  have H : ((sidesticklaw06_shown.f k).bind fun t203 => ((sidesticklaw06_body.f l0).bind fun t204 => ((sidesticklaw06_body.f l1).bind fun t207 => ((frame_Put.f k t204).bind fun bt210 => ((frame_Put.f k t207).bind fun bt214 => (if t203 = true then (if bt210.2 = 0 then (if bt214.2 = 0 then (if (bt210.1.length : Int) = (wrap64 ((t204.length : Int) + 5)) then (if (bt214.1.length : Int) = (wrap64 ((t207.length : Int) + 5)) then (if 0 ≤ (mn (bt210.1.length : Int) (bt214.1.length : Int)) then (if (mn (bt210.1.length : Int) (bt214.1.length : Int)) ≤ (bt210.1.length : Int) then (if (mn (bt210.1.length : Int) (bt214.1.length : Int)) ≤ (bt214.1.length : Int) then (if (((strOfNums (bt210.1.take ((mn (bt210.1.length : Int) (bt214.1.length : Int)) : Int).toNat)).toList == (strOfNums (bt214.1.take ((mn (bt210.1.length : Int) (bt214.1.length : Int)) : Int).toNat)).toList) == ((strOfNums t204).toList == (strOfNums t207).toList)) = true then (if 0 < (bt210.1.length : Int) then (if (rd bt210.1 0) = 165 then (if 1 < (bt210.1.length : Int) then (if (rd bt210.1 1) = 1 then (if 2 < (bt210.1.length : Int) then (if (wrap64 (rd bt210.1 2)) = (t204.length : Int) then (if 3 ≤ (wrap64 (3 + (t204.length : Int))) then (if (wrap64 (3 + (t204.length : Int))) ≤ (bt210.1.length : Int) then (some ((strOfNums ((bt210.1.take ((wrap64 (3 + (t204.length : Int))) : Int).toNat).drop 3)).toList == (strOfNums t204).toList)) else (none)) else (none)) else (some false)) else (none)) else (some false)) else (none)) else (some false)) else (none)) else (some false)) else (none)) else (none)) else (none)) else (some false)) else (some false)) else (some false)) else (some false)) else (some false))))))) = some r := h
  clear h
  replace H := Option.bind_eq_some_iff.mp H
  obtain ⟨t203, A30, H⟩ := H
  replace H : ((sidesticklaw06_body.f l0).bind fun t204 => ((sidesticklaw06_body.f l1).bind fun t207 => ((frame_Put.f k t204).bind fun bt210 => ((frame_Put.f k t207).bind fun bt214 => (if t203 = true then (if bt210.2 = 0 then (if bt214.2 = 0 then (if (bt210.1.length : Int) = (wrap64 ((t204.length : Int) + 5)) then (if (bt214.1.length : Int) = (wrap64 ((t207.length : Int) + 5)) then (if 0 ≤ (mn (bt210.1.length : Int) (bt214.1.length : Int)) then (if (mn (bt210.1.length : Int) (bt214.1.length : Int)) ≤ (bt210.1.length : Int) then (if (mn (bt210.1.length : Int) (bt214.1.length : Int)) ≤ (bt214.1.length : Int) then (if (((strOfNums (bt210.1.take ((mn (bt210.1.length : Int) (bt214.1.length : Int)) : Int).toNat)).toList == (strOfNums (bt214.1.take ((mn (bt210.1.length : Int) (bt214.1.length : Int)) : Int).toNat)).toList) == ((strOfNums t204).toList == (strOfNums t207).toList)) = true then (if 0 < (bt210.1.length : Int) then (if (rd bt210.1 0) = 165 then (if 1 < (bt210.1.length : Int) then (if (rd bt210.1 1) = 1 then (if 2 < (bt210.1.length : Int) then (if (wrap64 (rd bt210.1 2)) = (t204.length : Int) then (if 3 ≤ (wrap64 (3 + (t204.length : Int))) then (if (wrap64 (3 + (t204.length : Int))) ≤ (bt210.1.length : Int) then (some ((strOfNums ((bt210.1.take ((wrap64 (3 + (t204.length : Int))) : Int).toNat).drop 3)).toList == (strOfNums t204).toList)) else (none)) else (none)) else (some false)) else (none)) else (some false)) else (none)) else (some false)) else (none)) else (some false)) else (none)) else (none)) else (none)) else (some false)) else (some false)) else (some false)) else (some false)) else (some false)))))) = some r := H
  have A3 := Aside0.mk A30
  clear A30
  replace H := Option.bind_eq_some_iff.mp H
  obtain ⟨t204, A40, H⟩ := H
  replace H : ((sidesticklaw06_body.f l1).bind fun t207 => ((frame_Put.f k t204).bind fun bt210 => ((frame_Put.f k t207).bind fun bt214 => (if t203 = true then (if bt210.2 = 0 then (if bt214.2 = 0 then (if (bt210.1.length : Int) = (wrap64 ((t204.length : Int) + 5)) then (if (bt214.1.length : Int) = (wrap64 ((t207.length : Int) + 5)) then (if 0 ≤ (mn (bt210.1.length : Int) (bt214.1.length : Int)) then (if (mn (bt210.1.length : Int) (bt214.1.length : Int)) ≤ (bt210.1.length : Int) then (if (mn (bt210.1.length : Int) (bt214.1.length : Int)) ≤ (bt214.1.length : Int) then (if (((strOfNums (bt210.1.take ((mn (bt210.1.length : Int) (bt214.1.length : Int)) : Int).toNat)).toList == (strOfNums (bt214.1.take ((mn (bt210.1.length : Int) (bt214.1.length : Int)) : Int).toNat)).toList) == ((strOfNums t204).toList == (strOfNums t207).toList)) = true then (if 0 < (bt210.1.length : Int) then (if (rd bt210.1 0) = 165 then (if 1 < (bt210.1.length : Int) then (if (rd bt210.1 1) = 1 then (if 2 < (bt210.1.length : Int) then (if (wrap64 (rd bt210.1 2)) = (t204.length : Int) then (if 3 ≤ (wrap64 (3 + (t204.length : Int))) then (if (wrap64 (3 + (t204.length : Int))) ≤ (bt210.1.length : Int) then (some ((strOfNums ((bt210.1.take ((wrap64 (3 + (t204.length : Int))) : Int).toNat).drop 3)).toList == (strOfNums t204).toList)) else (none)) else (none)) else (some false)) else (none)) else (some false)) else (none)) else (some false)) else (none)) else (some false)) else (none)) else (none)) else (none)) else (some false)) else (some false)) else (some false)) else (some false)) else (some false))))) = some r := H
  have A4 := Aside0.mk A40
  clear A40
  obtain ⟨jw, hjw⟩ : ∃ j_ : Int, (wrap64 (3 + (t204.length : Int))) = j_ := ⟨_, rfl⟩
  simp only [hjw] at H
  replace H := Option.bind_eq_some_iff.mp H
  obtain ⟨t207, A50, H⟩ := H
  replace H : ((frame_Put.f k t204).bind fun bt210 => ((frame_Put.f k t207).bind fun bt214 => (if t203 = true then (if bt210.2 = 0 then (if bt214.2 = 0 then (if (bt210.1.length : Int) = (wrap64 ((t204.length : Int) + 5)) then (if (bt214.1.length : Int) = (wrap64 ((t207.length : Int) + 5)) then (if 0 ≤ (mn (bt210.1.length : Int) (bt214.1.length : Int)) then (if (mn (bt210.1.length : Int) (bt214.1.length : Int)) ≤ (bt210.1.length : Int) then (if (mn (bt210.1.length : Int) (bt214.1.length : Int)) ≤ (bt214.1.length : Int) then (if (((strOfNums (bt210.1.take ((mn (bt210.1.length : Int) (bt214.1.length : Int)) : Int).toNat)).toList == (strOfNums (bt214.1.take ((mn (bt210.1.length : Int) (bt214.1.length : Int)) : Int).toNat)).toList) == ((strOfNums t204).toList == (strOfNums t207).toList)) = true then (if 0 < (bt210.1.length : Int) then (if (rd bt210.1 0) = 165 then (if 1 < (bt210.1.length : Int) then (if (rd bt210.1 1) = 1 then (if 2 < (bt210.1.length : Int) then (if (wrap64 (rd bt210.1 2)) = (t204.length : Int) then (if 3 ≤ jw then (if jw ≤ (bt210.1.length : Int) then (some ((strOfNums ((bt210.1.take (jw : Int).toNat).drop 3)).toList == (strOfNums t204).toList)) else (none)) else (none)) else (some false)) else (none)) else (some false)) else (none)) else (some false)) else (none)) else (some false)) else (none)) else (none)) else (none)) else (some false)) else (some false)) else (some false)) else (some false)) else (some false)))) = some r := H
  have A5 := Aside0.mk A50
  clear A50
  replace H := Option.bind_eq_some_iff.mp H
  obtain ⟨⟨t210, t211⟩, A60, H⟩ := H
  replace H : ((frame_Put.f k t207).bind fun bt214 => (if t203 = true then (if t211 = 0 then (if bt214.2 = 0 then (if (t210.length : Int) = (wrap64 ((t204.length : Int) + 5)) then (if (bt214.1.length : Int) = (wrap64 ((t207.length : Int) + 5)) then (if 0 ≤ (mn (t210.length : Int) (bt214.1.length : Int)) then (if (mn (t210.length : Int) (bt214.1.length : Int)) ≤ (t210.length : Int) then (if (mn (t210.length : Int) (bt214.1.length : Int)) ≤ (bt214.1.length : Int) then (if (((strOfNums (t210.take ((mn (t210.length : Int) (bt214.1.length : Int)) : Int).toNat)).toList == (strOfNums (bt214.1.take ((mn (t210.length : Int) (bt214.1.length : Int)) : Int).toNat)).toList) == ((strOfNums t204).toList == (strOfNums t207).toList)) = true then (if 0 < (t210.length : Int) then (if (rd t210 0) = 165 then (if 1 < (t210.length : Int) then (if (rd t210 1) = 1 then (if 2 < (t210.length : Int) then (if (wrap64 (rd t210 2)) = (t204.length : Int) then (if 3 ≤ jw then (if jw ≤ (t210.length : Int) then (some ((strOfNums ((t210.take (jw : Int).toNat).drop 3)).toList == (strOfNums t204).toList)) else (none)) else (none)) else (some false)) else (none)) else (some false)) else (none)) else (some false)) else (none)) else (some false)) else (none)) else (none)) else (none)) else (some false)) else (some false)) else (some false)) else (some false)) else (some false))) = some r := H
  have A6 := Aside0.mk A60
  clear A60
  replace H := Option.bind_eq_some_iff.mp H
  obtain ⟨⟨t214, t215⟩, A70, H⟩ := H
  replace H : (if t203 = true then (if t211 = 0 then (if t215 = 0 then (if (t210.length : Int) = (wrap64 ((t204.length : Int) + 5)) then (if (t214.length : Int) = (wrap64 ((t207.length : Int) + 5)) then (if 0 ≤ (mn (t210.length : Int) (t214.length : Int)) then (if (mn (t210.length : Int) (t214.length : Int)) ≤ (t210.length : Int) then (if (mn (t210.length : Int) (t214.length : Int)) ≤ (t214.length : Int) then (if (((strOfNums (t210.take ((mn (t210.length : Int) (t214.length : Int)) : Int).toNat)).toList == (strOfNums (t214.take ((mn (t210.length : Int) (t214.length : Int)) : Int).toNat)).toList) == ((strOfNums t204).toList == (strOfNums t207).toList)) = true then (if 0 < (t210.length : Int) then (if (rd t210 0) = 165 then (if 1 < (t210.length : Int) then (if (rd t210 1) = 1 then (if 2 < (t210.length : Int) then (if (wrap64 (rd t210 2)) = (t204.length : Int) then (if 3 ≤ jw then (if jw ≤ (t210.length : Int) then (some ((strOfNums ((t210.take (jw : Int).toNat).drop 3)).toList == (strOfNums t204).toList)) else (none)) else (none)) else (some false)) else (none)) else (some false)) else (none)) else (some false)) else (none)) else (some false)) else (none)) else (none)) else (none)) else (some false)) else (some false)) else (some false)) else (some false)) else (some false)) = some r := H
  have A7 := Aside0.mk A70
  clear A70
  by_cases c8 : t203 = true
  · subst c8
    have H1 : (if t211 = 0 then (if t215 = 0 then (if (t210.length : Int) = (wrap64 ((t204.length : Int) + 5)) then (if (t214.length : Int) = (wrap64 ((t207.length : Int) + 5)) then (if 0 ≤ (mn (t210.length : Int) (t214.length : Int)) then (if (mn (t210.length : Int) (t214.length : Int)) ≤ (t210.length : Int) then (if (mn (t210.length : Int) (t214.length : Int)) ≤ (t214.length : Int) then (if (((strOfNums (t210.take ((mn (t210.length : Int) (t214.length : Int)) : Int).toNat)).toList == (strOfNums (t214.take ((mn (t210.length : Int) (t214.length : Int)) : Int).toNat)).toList) == ((strOfNums t204).toList == (strOfNums t207).toList)) = true then (if 0 < (t210.length : Int) then (if (rd t210 0) = 165 then (if 1 < (t210.length : Int) then (if (rd t210 1) = 1 then (if 2 < (t210.length : Int) then (if (wrap64 (rd t210 2)) = (t204.length : Int) then (if 3 ≤ jw then (if jw ≤ (t210.length : Int) then (some ((strOfNums ((t210.take (jw : Int).toNat).drop 3)).toList == (strOfNums t204).toList)) else (none)) else (none)) else (some false)) else (none)) else (some false)) else (none)) else (some false)) else (none)) else (some false)) else (none)) else (none)) else (none)) else (some false)) else (some false)) else (some false)) else (some false)) = some r := by rw [if_pos rfl] at H; exact H
    clear H
    have H := H1
    clear H1
    by_cases c9 : t211 = 0
    · rw [if_pos c9] at H
      have c9b0 : (t211 == 0) = true := beq_iff_eq.mpr c9
      have c9b1 : (t211 != 0) = false := bne_eq_false_iff_eq.mpr c9
      clear c9
      by_cases c10 : t215 = 0
      · rw [if_pos c10] at H
        have c10b0 : (t215 == 0) = true := beq_iff_eq.mpr c10
        have c10b1 : (t215 != 0) = false := bne_eq_false_iff_eq.mpr c10
        clear c10
        by_cases c11 : (t210.length : Int) = (wrap64 ((t204.length : Int) + 5))
        · rw [if_pos c11] at H
          have c11b0 : ((t210.length : Int) == (wrap64 ((t204.length : Int) + 5))) = true := beq_iff_eq.mpr c11
          have c11b1 : ((t210.length : Int) != (wrap64 ((t204.length : Int) + 5))) = false := bne_eq_false_iff_eq.mpr c11
          clear c11
          by_cases c12 : (t214.length : Int) = (wrap64 ((t207.length : Int) + 5))
          · rw [if_pos c12] at H
            have c12b0 : ((t214.length : Int) == (wrap64 ((t207.length : Int) + 5))) = true := beq_iff_eq.mpr c12
            have c12b1 : ((t214.length : Int) != (wrap64 ((t207.length : Int) + 5))) = false := bne_eq_false_iff_eq.mpr c12
            clear c12
            obtain ⟨ji13, hji13⟩ : ∃ j_ : Int, (mn (t210.length : Int) (t214.length : Int)) = j_ := ⟨_, rfl⟩
            replace H : (if 0 ≤ (ji13) then (if (ji13) ≤ (t210.length : Int) then (if (ji13) ≤ (t214.length : Int) then (if (((strOfNums (t210.take ((ji13) : Int).toNat)).toList == (strOfNums (t214.take ((ji13) : Int).toNat)).toList) == ((strOfNums t204).toList == (strOfNums t207).toList)) = true then (if 0 < (t210.length : Int) then (if (rd t210 0) = 165 then (if 1 < (t210.length : Int) then (if (rd t210 1) = 1 then (if 2 < (t210.length : Int) then (if (wrap64 (rd t210 2)) = (t204.length : Int) then (if 3 ≤ jw then (if jw ≤ (t210.length : Int) then (some ((strOfNums ((t210.take (jw : Int).toNat).drop 3)).toList == (strOfNums t204).toList)) else (none)) else (none)) else (some false)) else (none)) else (some false)) else (none)) else (some false)) else (none)) else (some false)) else (none)) else (none)) else (none)) = some r := by first | (rw [hji13] at H; exact H) | (simp only [hji13] at H ⊢; exact H)
            (try rw [hji13] at A3)
            (try rw [hji13] at A4)
            (try rw [hji13] at A5)
            (try rw [hji13] at A6)
            (try rw [hji13] at A7)
            (try (have hji13l : 0 ≤ ji13 := by (rw [← hji13]; unfold mn; (repeat' split) <;> omega)))
            (try (have hji13m : 0 ≤ ji13 := by omega))
            have hji13_ : (if (t214.length : Int) < (t210.length : Int) then (t214.length : Int) else (t210.length : Int)) = ji13 := hji13
            by_cases c14 : 0 ≤ (ji13)
            · rw [if_pos c14] at H
              have c14b0 := eq_true c14
              have c14b1 : decide (0 ≤ (ji13)) = true := decide_eq_true c14
              clear c14
              by_cases c15 : (ji13) ≤ (t210.length : Int)
              · rw [if_pos c15] at H
                have c15b0 := eq_true c15
                have c15b1 : decide ((ji13) ≤ (t210.length : Int)) = true := decide_eq_true c15
                clear c15
                obtain ⟨y218, hy218⟩ : ∃ y_ : List Int, y_ = (t210.take ((ji13) : Int).toNat) := ⟨_, rfl⟩
                replace H : (if (ji13) ≤ (t214.length : Int) then (if (((strOfNums y218).toList == (strOfNums (t214.take ((ji13) : Int).toNat)).toList) == ((strOfNums t204).toList == (strOfNums t207).toList)) = true then (if 0 < (t210.length : Int) then (if (rd t210 0) = 165 then (if 1 < (t210.length : Int) then (if (rd t210 1) = 1 then (if 2 < (t210.length : Int) then (if (wrap64 (rd t210 2)) = (t204.length : Int) then (if 3 ≤ jw then (if jw ≤ (t210.length : Int) then (some ((strOfNums ((t210.take (jw : Int).toNat).drop 3)).toList == (strOfNums t204).toList)) else (none)) else (none)) else (some false)) else (none)) else (some false)) else (none)) else (some false)) else (none)) else (some false)) else (none)) = some r := by first | (rw [hy218]; with_reducible exact H) | (have H2_ := (Option.bind_some _ _).symm.trans H; rw [hy218]; with_reducible exact H2_) | (have H2_ := (Option.bind_some _ _).symm.trans H; with_reducible exact H2_) | with_reducible exact H | (rw [hy218]; exact H) | exact H
                have Ny218 := Aside0.mk hy218
                clear hy218
                have c16b0 := eq_true (of_decide_eq_true (by first | (with_reducible assumption) | assumption) : 0 ≤ (ji13))
                by_cases c17 : (ji13) ≤ (t214.length : Int)
                · rw [if_pos c17] at H
                  have c17b0 := eq_true c17
                  have c17b1 : decide ((ji13) ≤ (t214.length : Int)) = true := decide_eq_true c17
                  clear c17
                  obtain ⟨y222, hy222⟩ : ∃ y_ : List Int, y_ = (t214.take ((ji13) : Int).toNat) := ⟨_, rfl⟩
                  replace H : (if (((strOfNums y218).toList == (strOfNums y222).toList) == ((strOfNums t204).toList == (strOfNums t207).toList)) = true then (if 0 < (t210.length : Int) then (if (rd t210 0) = 165 then (if 1 < (t210.length : Int) then (if (rd t210 1) = 1 then (if 2 < (t210.length : Int) then (if (wrap64 (rd t210 2)) = (t204.length : Int) then (if 3 ≤ jw then (if jw ≤ (t210.length : Int) then (some ((strOfNums ((t210.take (jw : Int).toNat).drop 3)).toList == (strOfNums t204).toList)) else (none)) else (none)) else (some false)) else (none)) else (some false)) else (none)) else (some false)) else (none)) else (some false)) = some r := by first | (rw [hy222]; with_reducible exact H) | (have H2_ := (Option.bind_some _ _).symm.trans H; rw [hy222]; with_reducible exact H2_) | (have H2_ := (Option.bind_some _ _).symm.trans H; with_reducible exact H2_) | with_reducible exact H | (rw [hy222]; exact H) | exact H
                  have Ny222 := Aside0.mk hy222
                  clear hy222
                  by_cases c18 : (((strOfNums y218).toList == (strOfNums y222).toList) == ((strOfNums t204).toList == (strOfNums t207).toList)) = true
                  · rw [if_pos c18] at H
                    have c18b0 : (((strOfNums y218).toList == (strOfNums y222).toList) == ((strOfNums t204).toList == (strOfNums t207).toList)) = true := c18
                    (try (have c18b1 : decide (((strOfNums y218).toList == (strOfNums y222).toList) = ((strOfNums t204).toList == (strOfNums t207).toList)) = true := by simpa using c18))
                    (try (have c18b2 : (((strOfNums y218).toList == (strOfNums y222).toList) == ((strOfNums t204).toList == (strOfNums t207).toList)) = true := by simpa using c18))
                    clear c18
                    by_cases c19 : 0 < (t210.length : Int)
                    · rw [if_pos c19] at H
                      have c19b0 : decide (0 < (t210.length : Int)) = true := decide_eq_true c19
                      have c19b1 : decide (0 < t210.length) = true := decide_eq_true (by omega)
                      clear c19
                      by_cases c20 : (rd t210 0) = 165
                      · rw [if_pos c20] at H
                        have c20b0 : ((rd t210 0) == 165) = true := beq_iff_eq.mpr c20
                        have c20b1 : ((rd t210 0) != 165) = false := bne_eq_false_iff_eq.mpr c20
                        clear c20
                        by_cases c21 : 1 < (t210.length : Int)
                        · rw [if_pos c21] at H
                          have c21b0 : decide (1 < (t210.length : Int)) = true := decide_eq_true c21
                          have c21b1 : decide (1 < t210.length) = true := decide_eq_true (by omega)
                          clear c21
                          by_cases c22 : (rd t210 1) = 1
                          · rw [if_pos c22] at H
                            have c22b0 : ((rd t210 1) == 1) = true := beq_iff_eq.mpr c22
                            have c22b1 : ((rd t210 1) != 1) = false := bne_eq_false_iff_eq.mpr c22
                            clear c22
                            by_cases c23 : 2 < (t210.length : Int)
                            · rw [if_pos c23] at H
                              have c23b0 : decide (2 < (t210.length : Int)) = true := decide_eq_true c23
                              have c23b1 : decide (2 < t210.length) = true := decide_eq_true (by omega)
                              clear c23
                              by_cases c24 : (wrap64 (rd t210 2)) = (t204.length : Int)
                              · rw [if_pos c24] at H
                                have c24b0 : ((wrap64 (rd t210 2)) == (t204.length : Int)) = true := beq_iff_eq.mpr c24
                                have c24b1 : ((wrap64 (rd t210 2)) != (t204.length : Int)) = false := bne_eq_false_iff_eq.mpr c24
                                clear c24
                                by_cases c25 : 3 ≤ jw
                                · rw [if_pos c25] at H
                                  have c25b0 := eq_true c25
                                  have c25b1 : decide (3 ≤ jw) = true := decide_eq_true c25
                                  by_cases c26 : jw ≤ (t210.length : Int)
                                  · rw [if_pos c26] at H
                                    have c26b0 := eq_true c26
                                    have c26b1 : decide (jw ≤ (t210.length : Int)) = true := decide_eq_true c26
                                    obtain ⟨y229, hy229⟩ : ∃ y_ : List Int, y_ = ((t210.take (jw : Int).toNat).drop 3) := ⟨_, rfl⟩
                                    replace H : (some ((strOfNums y229).toList == (strOfNums t204).toList)) = some r := by first | (rw [hy229]; with_reducible exact H) | (have H2_ := (Option.bind_some _ _).symm.trans H; rw [hy229]; with_reducible exact H2_) | (have H2_ := (Option.bind_some _ _).symm.trans H; with_reducible exact H2_) | with_reducible exact H | (rw [hy229]; exact H) | exact H
                                    have Ny229 := Aside0.mk hy229
                                    clear hy229
                                    obtain rfl := Option.some.inj H
                                    go_enter Try.func13, Try.ntmps13
                                    go_wp2_with (first | (go_at_call 22; (with_reducible refine (sidesticklaw06_shown.calls k  true _ A3.out).mono ?_); rintro e w27 ⟨rfl, hb⟩; have n0_ := Aside0.mk (below_step (by repeat (first | (with_reducible first | exact HB.out | apply below_alloc | apply pw_below_drewN | apply below_drew1) | exact HB.out)) hb); clear HB; have HB := n0_; clear n0_; (try clear hb); (try clear hb2); (try clear hk); (try clear hi)) | (go_at_call 29; (with_reducible refine (sidesticklaw06_body.calls (fun k_ => k_ < w.heap.size) _ _ l0 t204 _ ?side1 A4.out).mono ?_); (case side1 => exact Kd.V_mk HC0.out (Kd.F_below (Kd.C_F (Kd.heap_int .u8) HR0.out) (by repeat (first | (with_reducible first | exact HB.out | apply below_alloc | apply pw_below_drewN | apply below_drew1) | exact HB.out)))); rintro e w28 ⟨v205, rfl, ho0, hb⟩; have n0_ := Aside0.mk (Kd.V_lower (Kd.V_mono (ok' := fun k_ => True) ho0 (fun k_ hk_ => trivial)) (below_size (by repeat (first | (with_reducible first | exact HB.out | apply below_alloc | apply pw_below_drewN | apply below_drew1) | exact HB.out)))); have n1_ := Aside0.mk (below_step (by repeat (first | (with_reducible first | exact HB.out | apply below_alloc | apply pw_below_drewN | apply below_drew1) | exact HB.out)) hb); clear HB; have HO206 := n0_; have HB := n1_; clear n0_ n1_; (try clear hb); (try clear hb2); (try clear hk); (try clear hi); (try clear ho0)) | (go_at_call 29; (with_reducible refine (sidesticklaw06_body.calls (fun k_ => k_ < w.heap.size) _ _ l1 t207 _ ?side1 A5.out).mono ?_); (case side1 => exact Kd.V_mk HC1.out (Kd.F_below (Kd.C_F (Kd.heap_int .u8) HR1.out) (by repeat (first | (with_reducible first | exact HB.out | apply below_alloc | apply pw_below_drewN | apply below_drew1) | exact HB.out)))); rintro e w29 ⟨v208, rfl, ho0, hb⟩; have n0_ := Aside0.mk (Kd.V_below (by (with_reducible repeat (first | apply Kd.V_alloc | apply Kd.V_drewN | apply Kd.V_drew)); exact HO206.out) hb); have n1_ := Aside0.mk (Kd.V_lower (Kd.V_mono (ok' := fun k_ => True) ho0 (fun k_ hk_ => trivial)) (below_size (by repeat (first | (with_reducible first | exact HB.out | apply below_alloc | apply pw_below_drewN | apply below_drew1) | exact HB.out)))); have n2_ := Aside0.mk (below_step (by repeat (first | (with_reducible first | exact HB.out | apply below_alloc | apply pw_below_drewN | apply below_drew1) | exact HB.out)) hb); clear HO206; clear HB; have HO206 := n0_; have HO209 := n1_; have HB := n2_; clear n0_ n1_ n2_; (try clear hb); (try clear hb2); (try clear hk); (try clear hi); (try clear ho0); obtain ⟨Ao30, co30, eo30⟩ := Kd.V_slice HO206.out; subst eo30) | (go_at_call 26; (with_reducible refine (frame_Put.calls k _ _ t204 t210 t211 _ ?side1 ?side2 A6.out).mono ?_); (case side1 => repeat (first | exact (Kd.V_reads' HO206.out).2.2 | (with_reducible refine Kd.C_alloc ?_ _) | (with_reducible refine Kd.C_drewN ?_ _) | (with_reducible refine Kd.C_drew ?_))); (case side2 => exact (Kd.V_reads' HO206.out).2.1); rintro e w31 ⟨v212, rfl, ho0, hb⟩; have n0_ := Aside0.mk (Kd.V_elder' (by (with_reducible repeat (first | apply Kd.V_alloc | apply Kd.V_drewN | apply Kd.V_drew)); exact HO206.out) (Kd.R_base ho0) hb); have n1_ := Aside0.mk (Kd.V_elder' (by (with_reducible repeat (first | apply Kd.V_alloc | apply Kd.V_drewN | apply Kd.V_drew)); exact HO209.out) (Kd.R_base ho0) hb); have n2_ := Aside0.mk (Kd.R_lower ho0 (below_size (by repeat (first | (with_reducible first | exact HB.out | apply below_alloc | apply pw_below_drewN | apply below_drew1) | exact HB.out)))); have n3_ := Aside0.mk (below_step (by repeat (first | (with_reducible first | exact HB.out | apply below_alloc | apply pw_below_drewN | apply below_drew1) | exact HB.out)) hb); clear HO206; clear HO209; clear HB; have HO206 := n0_; have HO209 := n1_; have HO213 := n2_; have HB := n3_; clear n0_ n1_ n2_ n3_; (try clear hb); (try clear hb2); (try clear hk); (try clear hi); (try clear ho0); obtain ⟨Ao32, co32, eo32⟩ := Kd.V_slice HO209.out; subst eo32) | (go_at_call 26; (with_reducible refine (frame_Put.calls k _ _ t207 t214 t215 _ ?side1 ?side2 A7.out).mono ?_); (case side1 => repeat (first | exact (Kd.V_reads' HO209.out).2.2 | (with_reducible refine Kd.C_alloc ?_ _) | (with_reducible refine Kd.C_drewN ?_ _) | (with_reducible refine Kd.C_drew ?_))); (case side2 => exact (Kd.V_reads' HO209.out).2.1); rintro e w33 ⟨v216, rfl, ho0, hb⟩; have n0_ := Aside0.mk (Kd.V_elder' (by (with_reducible repeat (first | apply Kd.V_alloc | apply Kd.V_drewN | apply Kd.V_drew)); exact HO206.out) (Kd.R_base ho0) hb); have n1_ := Aside0.mk (Kd.V_elder' (by (with_reducible repeat (first | apply Kd.V_alloc | apply Kd.V_drewN | apply Kd.V_drew)); exact HO209.out) (Kd.R_base ho0) hb); have n2_ := Aside0.mk (Kd.R_elder' (by (with_reducible repeat (first | apply Kd.R_alloc | apply Kd.R_drewN | apply Kd.R_drew)); exact HO213.out) (Kd.R_base ho0) hb); have n3_ := Aside0.mk (Kd.R_lower (Kd.R_new' ho0 (Kd.R_lt (by (with_reducible repeat (first | apply Kd.R_alloc | apply Kd.R_drewN | apply Kd.R_drew)); exact HO213.out))) (below_size (by repeat (first | (with_reducible first | exact HB.out | apply below_alloc | apply pw_below_drewN | apply below_drew1) | exact HB.out)))); have n4_ := Aside0.mk (below_step (by repeat (first | (with_reducible first | exact HB.out | apply below_alloc | apply pw_below_drewN | apply below_drew1) | exact HB.out)) hb); clear HO206; clear HO209; clear HO213; clear HB; have HO206 := n0_; have HO209 := n1_; have HO213 := n2_; have HO217 := n3_; have HB := n4_; clear n0_ n1_ n2_ n3_ n4_; (try clear hb); (try clear hb2); (try clear hk); (try clear hi); (try clear ho0); obtain ⟨Ao34, co34, eo34⟩ := Kd.R_slice HO213.out; subst eo34; obtain ⟨Ao35, co35, eo35⟩ := Kd.R_slice HO217.out; subst eo35; have hcv36 := fun (c_ : Nat) => Kd.C_string (P := Try.prog) Try.underlying22 Try.underlying5 Try.underlying9 (c := c_) (Kd.V_reads' HO206.out).2.2; have hcv37 := fun (c_ : Nat) => Kd.C_string (P := Try.prog) Try.underlying22 Try.underlying5 Try.underlying9 (c := c_) (Kd.V_reads' HO209.out).2.2; have q38 : ((ji13) : Int) ≤ ((t210.length : Int) : Int) := of_decide_eq_true (by first | (with_reducible assumption) | assumption); obtain ⟨i038, hi038, _, hsz38, _⟩ := info_parts info5; have hroom38 : t210.length ≤ co34 := (Kd.R_reads' HO213.out).2.1; have hC38 : Kd.C (Kd.int .u8) _ Ao34 t210.length t210 := (Kd.R_reads' HO213.out).2.2; have hcut38 := cut_to (P := Try.prog) 22 5 .i64 Try.underlying22 hi038 Ao34 t210.length co34 (ji13) (of_decide_eq_true (by first | (with_reducible assumption) | assumption)) q38 hroom38; have hr38 := Kd.C_take (m := ((ji13) : Int).toNat) hC38 (by omega); have hy38 : y218.length = ((ji13) : Int).toNat := (by rw [Ny218.out, List.length_take]; omega); rw [← Ny218.out] at hr38; rw [← hy38] at hcut38; have HR221 := Aside0.mk hr38; have HC221 := Aside0.mk (show y218.length ≤ co34 from by omega); clear hr38 hC38 hroom38 hi038 hsz38; have KY38 := Aside0.mk hy38; clear hy38; have KL38 := Aside0.mk (show ((ji13) : Int).toNat ≤ t210.length from by omega); replace q38 := eq_true q38; have hcv39 := fun (n_ : Nat) => Kd.C_string (P := Try.prog) (A := Ao34) (c := co34) Try.underlying22 Try.underlying5 Try.underlying9 (Kd.C_drewN HR221.out n_); have q40 : ((ji13) : Int) ≤ ((t214.length : Int) : Int) := of_decide_eq_true (by first | (with_reducible assumption) | assumption); obtain ⟨i040, hi040, _, hsz40, _⟩ := info_parts info5; have hroom40 : t214.length ≤ co35 := (Kd.R_reads' HO217.out).2.1; have hC40 : Kd.C (Kd.int .u8) _ Ao35 t214.length t214 := (Kd.R_reads' HO217.out).2.2; have hcut40 := cut_to (P := Try.prog) 22 5 .i64 Try.underlying22 hi040 Ao35 t214.length co35 (ji13) (of_decide_eq_true (by first | (with_reducible assumption) | assumption)) q40 hroom40; have hr40 := Kd.C_take (m := ((ji13) : Int).toNat) hC40 (by omega); have hy40 : y222.length = ((ji13) : Int).toNat := (by rw [Ny222.out, List.length_take]; omega); rw [← Ny222.out] at hr40; rw [← hy40] at hcut40; have HR225 := Aside0.mk hr40; have HC225 := Aside0.mk (show y222.length ≤ co35 from by omega); clear hr40 hC40 hroom40 hi040 hsz40; have KY40 := Aside0.mk hy40; clear hy40; have KL40 := Aside0.mk (show ((ji13) : Int).toNat ≤ t214.length from by omega); replace q40 := eq_true q40; have hcv41 := fun (n_ : Nat) => Kd.C_string (P := Try.prog) (A := Ao35) (c := co35) Try.underlying22 Try.underlying5 Try.underlying9 (Kd.C_drewN HR225.out n_); have p226 : 0 ≤ (0 : Int) := (by omega); have q226 : 0 < (t210.length : Int) := of_decide_eq_true (by first | (with_reducible assumption) | assumption); obtain ⟨ad226, e226, hx226_0⟩ := Kd.at_int (Kd.R_reads' HO213.out).2.2 0 p226 q226; cases e226; have qi226 : (0 < t210.length) = True := eq_true (by omega); (try rw [show ((0 : Int)).toNat = 0 from rfl] at hx226_0); (try rw [Addr.add_zero'] at hx226_0); replace p226 := eq_true p226; replace q226 := eq_true q226; have p227 : 0 ≤ (1 : Int) := (by omega); have q227 : 1 < (t210.length : Int) := of_decide_eq_true (by first | (with_reducible assumption) | assumption); obtain ⟨ad227, e227, hx227_0⟩ := Kd.at_int (Kd.R_reads' HO213.out).2.2 1 p227 q227; obtain rfl : ad226 = ad227 := (by injection e227); (try simp only [show (1 : Int).toNat = 1 from rfl, Nat.reduceMul, Nat.reduceEqDiff, Go.Addr.add, ↓reduceIte] at hx227_0); have qi227 : (1 < t210.length) = True := eq_true (by omega); (try rw [show ((1 : Int)).toNat = 1 from rfl] at hx227_0); replace p227 := eq_true p227; replace q227 := eq_true q227; have p228 : 0 ≤ (2 : Int) := (by omega); have q228 : 2 < (t210.length : Int) := of_decide_eq_true (by first | (with_reducible assumption) | assumption); obtain ⟨ad228, e228, hx228_0⟩ := Kd.at_int (Kd.R_reads' HO213.out).2.2 2 p228 q228; obtain rfl : ad226 = ad228 := (by injection e228); (try simp only [show (2 : Int).toNat = 2 from rfl, Nat.reduceMul, Nat.reduceEqDiff, Go.Addr.add, ↓reduceIte] at hx228_0); have qi228 : (2 < t210.length) = True := eq_true (by omega); (try rw [show ((2 : Int)).toNat = 2 from rfl] at hx228_0); replace p228 := eq_true p228; replace q228 := eq_true q228; have q42 : (jw : Int) ≤ ((t210.length : Int) : Int) := of_decide_eq_true (by first | (with_reducible assumption) | assumption); obtain ⟨i042, hi042, _, hsz42, _⟩ := info_parts info5; have hroom42 : t210.length ≤ co34 := (Kd.R_reads' HO213.out).2.1; have hC42 : Kd.C (Kd.int .u8) _ (some ad226) t210.length t210 := (Kd.R_reads' HO213.out).2.2; have ql42 : (3 : Int) ≤ (jw : Int) := of_decide_eq_true (by first | (with_reducible assumption) | assumption); have hcut42 := cut_mid (P := Try.prog) 22 5 .i64 .i64 Try.underlying22 hi042 1 hsz42 (some ad226) t210.length co34 3 jw (by omega) ql42 q42 hroom42; have hr42 := Kd.C_mid (lo := (3 : Int).toNat) (hi := (jw : Int).toNat) (c := co34) hC42 (by omega) (by omega) hroom42; obtain ⟨A42, hA42⟩ : ∃ A1, A1 = (if co34 = (3 : Int).toNat then (some ad226) else ((some ad226) : Option Addr).map (·.add ((3 : Int).toNat * 1))) := ⟨_, rfl⟩; obtain ⟨c42, hc42⟩ : ∃ c1, c1 = co34 - (3 : Int).toNat := ⟨_, rfl⟩; have hy42 : y229.length = (jw : Int).toNat - (3 : Int).toNat := (by rw [Ny229.out, List.length_drop, List.length_take] <;> omega); rw [show ((t210).take (jw : Int).toNat).drop (3 : Int).toNat = y229 from Ny229.out.symm] at hr42; replace hr42 : Kd.C (Kd.int .u8) _ A42 y229.length y229 := (by rw [hA42]; exact hr42); rw [← hy42, ← hA42, ← hc42] at hcut42; have HR232 := Aside0.mk hr42; have HC232 := Aside0.mk (show y229.length ≤ c42 from by rw [hy42, hc42]; exact Nat.sub_le_sub_right (Nat.le_trans (by omega) hroom42) _); clear hr42 hC42 hroom42 hi042 hsz42 hc42; have KY42 := Aside0.mk hy42; have KA42 := Aside0.mk hA42; clear hy42 hA42; have KL42 := Aside0.mk (show (jw : Int).toNat ≤ t210.length from by omega); have KM42 := Aside0.mk (show 3 ≤ (jw : Int).toNat from by omega); replace q42 := eq_true q42; have hcv43 := fun (n_ : Nat) => Kd.C_string (P := Try.prog) (A := A42) (c := c42) Try.underlying22 Try.underlying5 Try.underlying9 (Kd.C_drewN HR232.out n_); have hcv44 := fun (c_ n_ : Nat) => Kd.C_string (P := Try.prog) Try.underlying22 Try.underlying5 Try.underlying9 (c := c_) (Kd.C_drewN (Kd.V_reads' HO206.out).2.2 n_)))
                                    all_goals
                                      first
                                      | rw [show (t214.length : Int) = ji13 from by rw [← hji13_, if_pos (by omega)]]
                                      | rw [show (t210.length : Int) = ji13 from by rw [← hji13_, if_neg (by omega)]]
                                      go_quiet (fail)
                                      go_wp2
                                      go_ret
                                      exact ⟨by first | rfl | (simp [errW_none, errW_some] <;> rfl) | (simp only [← hji13]; first | rfl | (simp [errW_none, errW_some] <;> rfl)) | (simp [*, errW_none, errW_some] <;> rfl), by repeat (first | (with_reducible first | exact HB.out | apply below_alloc | apply pw_below_drewN | apply below_drew1) | exact HB.out)⟩
                                  · rw [if_neg c26] at H
                                    exact absurd H (by simp)
                                · rw [if_neg c25] at H
                                  exact absurd H (by simp)
                              · rw [if_neg c24] at H
                                have c24b0 : ((wrap64 (rd t210 2)) == (t204.length : Int)) = false := beq_eq_false_iff_ne.mpr c24
                                have c24b1 : ((wrap64 (rd t210 2)) != (t204.length : Int)) = true := bne_iff_ne.mpr c24
                                obtain rfl := Option.some.inj H
                                exact absurd HT.out (by simp)
                            · rw [if_neg c23] at H
                              exact absurd H (by simp)
                          · rw [if_neg c22] at H
                            have c22b0 : ((rd t210 1) == 1) = false := beq_eq_false_iff_ne.mpr c22
                            have c22b1 : ((rd t210 1) != 1) = true := bne_iff_ne.mpr c22
                            obtain rfl := Option.some.inj H
                            exact absurd HT.out (by simp)
                        · rw [if_neg c21] at H
                          exact absurd H (by simp)
                      · rw [if_neg c20] at H
                        have c20b0 : ((rd t210 0) == 165) = false := beq_eq_false_iff_ne.mpr c20
                        have c20b1 : ((rd t210 0) != 165) = true := bne_iff_ne.mpr c20
                        obtain rfl := Option.some.inj H
                        exact absurd HT.out (by simp)
                    · rw [if_neg c19] at H
                      exact absurd H (by simp)
                  · rw [if_neg c18] at H
                    have c18b0 : (((strOfNums y218).toList == (strOfNums y222).toList) == ((strOfNums t204).toList == (strOfNums t207).toList)) = false := by simpa using c18
                    (try (have c18b1 : decide (((strOfNums y218).toList == (strOfNums y222).toList) = ((strOfNums t204).toList == (strOfNums t207).toList)) = false := by simpa using c18))
                    (try (have c18b2 : (((strOfNums y218).toList == (strOfNums y222).toList) == ((strOfNums t204).toList == (strOfNums t207).toList)) = false := by simpa using c18))
                    (try (have c18b3 : ¬ (((strOfNums y218).toList == (strOfNums y222).toList) = ((strOfNums t204).toList == (strOfNums t207).toList)) := by simpa using c18))
                    clear c18
                    obtain rfl := Option.some.inj H
                    exact absurd HT.out (by simp)
                · rw [if_neg c17] at H
                  exact absurd H (by simp)
              · rw [if_neg c15] at H
                exact absurd H (by simp)
            · rw [if_neg c14] at H
              exact absurd H (by simp)
          · rw [if_neg c12] at H
            have c12b0 : ((t214.length : Int) == (wrap64 ((t207.length : Int) + 5))) = false := beq_eq_false_iff_ne.mpr c12
            have c12b1 : ((t214.length : Int) != (wrap64 ((t207.length : Int) + 5))) = true := bne_iff_ne.mpr c12
            obtain rfl := Option.some.inj H
            exact absurd HT.out (by simp)
        · rw [if_neg c11] at H
          have c11b0 : ((t210.length : Int) == (wrap64 ((t204.length : Int) + 5))) = false := beq_eq_false_iff_ne.mpr c11
          have c11b1 : ((t210.length : Int) != (wrap64 ((t204.length : Int) + 5))) = true := bne_iff_ne.mpr c11
          obtain rfl := Option.some.inj H
          exact absurd HT.out (by simp)
      · rw [if_neg c10] at H
        have c10b0 : (t215 == 0) = false := beq_eq_false_iff_ne.mpr c10
        have c10b1 : (t215 != 0) = true := bne_iff_ne.mpr c10
        obtain rfl := Option.some.inj H
        exact absurd HT.out (by simp)
    · rw [if_neg c9] at H
      have c9b0 : (t211 == 0) = false := beq_eq_false_iff_ne.mpr c9
      have c9b1 : (t211 != 0) = true := bne_iff_ne.mpr c9
      obtain rfl := Option.some.inj H
      exact absurd HT.out (by simp)
  · replace c8 := Bool.eq_false_iff.mpr c8
    subst c8
    have H1 : (some false) = some r := by rw [if_neg (show ¬ (false = true) by decide)] at H; exact H
    clear H
    have H := H1
    clear H1
    obtain rfl := Option.some.inj H
    exact absurd HT.out (by simp)

/-- THE ONE PURE STATEMENT of sidesticklaw06_FrameApart: yours. -/
def sidesticklaw06_FrameApart.Pure : Prop := ∀ (l0 : List Int) (l1 : List Int), l0.length ≤ maxLen → l0.length * 1 ≤ 140737488351232 → (∀ x ∈ l0, (Lit.int .u8 x).wf = true) → l1.length ≤ maxLen → l1.length * 1 ≤ 140737488351232 → (∀ x ∈ l1, (Lit.int .u8 x).wf = true) → ∃ k, sidesticklaw06_FrameApart.f k l0 l1 = some true
theorem sidesticklaw06_FrameApart.walk (P : sidesticklaw06_FrameApart.Pure) (a0 : Option Addr) (len0 cap0 : Nat) (z0 : List Int) (a1 : Option Addr) (len1 cap1 : Nat) (z1 : List Int) (w : World) (w0 : (a0 = none ∧ len0 = 0 ∧ cap0 = 0 ∧ z0 = []) ∨ ∃ x, a0 = some x ∧ len0 ≤ cap0 ∧ cap0 ≤ maxLen ∧ z0.length = cap0 ∧ (∀ i, i < z0.length → w.cell? (x.add i) = some (.int .u8 (z0.getD i 0))) ∧ ∀ n ∈ z0, (Lit.int .u8 n).wf = true) (y0 : len0 * 1 ≤ 140737488351232) (w1 : (a1 = none ∧ len1 = 0 ∧ cap1 = 0 ∧ z1 = []) ∨ ∃ x, a1 = some x ∧ len1 ≤ cap1 ∧ cap1 ≤ maxLen ∧ z1.length = cap1 ∧ (∀ i, i < z1.length → w.cell? (x.add i) = some (.int .u8 (z1.getD i 0))) ∧ ∀ n ∈ z1, (Lit.int .u8 n).wf = true) (y1 : len1 * 1 ≤ 140737488351232) :
    Calls Try.prog 13 #[.slice a0 len0 cap0, .slice a1 len1 cap1] w fun e w' => e = .returned (.bool true) ∧ Below w.heap.size w w' := by
  obtain ⟨l0, rfl, hr0, hm0, hw0, hc0⟩ := ReadsInt.ofRowC w0
  obtain ⟨l1, rfl, hr1, hm1, hw1, hc1⟩ := ReadsInt.ofRowC w1
  obtain ⟨k, h⟩ := P l0 l1 hm0 y0 hw0 hm1 y1 hw1
  refine (sidesticklaw06_FrameApart.calls k _ _ l0 _ _ l1 true w (Kd.C_of_reads (d := (0 : Int)) (h1 := fun _ => rfl) hr0) hc0 (Kd.C_of_reads (d := (0 : Int)) (h1 := fun _ => rfl) hr1) hc1 h rfl).mono ?_
  rintro e w' ⟨rfl, hd⟩
  exact ⟨rfl, hd⟩

end Go.Proofs.Ytjmpoiafcdphbaa.PFrameApart
