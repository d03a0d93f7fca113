/- The walks of CrcApart (print.sh wrote the lines, shown is ours). -/
import Derived.Lib.SlBytesConst
import Derived.Test.YtjmpoiafcdphbaaQCrcApartx0
namespace Go.Proofs.Ytjmpoiafcdphbaa.PCrcApart
open Go.RowKit Go.Proofs.YtjmpoiafcdphbaaW.PrintWords Go.Proofs.YtjmpoiafcdphbaaW.PrintLast Go.Proofs.YtjmpoiafcdphbaaW.PrintMore
attribute [local go_sem] max2_int min2_int max_two min_two max_three min_three max_four min_four   -- for this text's walks alone
set_option linter.unusedVariables false
set_option linter.unusedSimpArgs false

/-! ### crc_Step: function 19 -/
def crc_Step.l0 : Nat → Int → Int → Option (Int)
  | 0, _, _ => none
  | k + 1, x0, x11 => if x11 < 8 then (if (Go.bits .and .u16 x0 32768) = 0 then (crc_Step.l0 k (IntKind.u16.wrap (x0 * 2)) (wrap64 (x11 + 1))) else (crc_Step.l0 k (Go.bits .xor .u16 (IntKind.u16.wrap (x0 * 2)) 4129) (wrap64 (x11 + 1)))) else (some x0)
def crc_Step.f (k : Nat) (a0 : Int) (a1 : Int) : Option (Int) := crc_Step.l0 k (Go.bits .xor .u16 a0 (IntKind.u16.wrap ((IntKind.u16.wrap (a1)) * 256))) 0
theorem crc_Step.mono_l : ∀ k, (∀ y0 y1, LeO (crc_Step.l0 k y0 y1) (crc_Step.l0 (k + 1) y0 y1))
  | 0 => fun _ _ r h => by simp [crc_Step.l0] at h
  | k + 1 => by
    have ih0 := crc_Step.mono_l k
    · intro y0 y1
      unfold crc_Step.l0
      repeat' first
      | (with_reducible exact ih0 _ _)
      | (with_reducible exact LeO.refl _)
      | (with_reducible exact LeO.none _)
      | (with_reducible refine LeO.ite ?_ ?_)
      | (with_reducible refine LeO.bind ?_ (fun _ => ?_))
      | exact ih0 _ _
      | exact LeO.none _
      | refine LeO.ite ?_ ?_
      | refine LeO.bind ?_ (fun _ => ?_)
theorem crc_Step.mono : ∀ a0 a1 k, LeO (crc_Step.f k a0 a1) (crc_Step.f (k + 1) a0 a1) := by
  intro a0 a1 k
  have ih0 := crc_Step.mono_l k
  unfold crc_Step.f
  repeat' first
      | (with_reducible exact ih0 _ _)
      | (with_reducible exact LeO.refl _)
      | (with_reducible exact LeO.none _)
      | (with_reducible refine LeO.ite ?_ ?_)
      | (with_reducible refine LeO.bind ?_ (fun _ => ?_))
      | exact ih0 _ _
      | exact LeO.none _
      | refine LeO.ite ?_ ?_
      | refine LeO.bind ?_ (fun _ => ?_)
set_option maxHeartbeats 8000000 in
set_option maxRecDepth 100000 in
theorem crc_Step.calls (k : Nat) (a0 : Int) (a1 : Int) (r : Int) (w : World) (h : crc_Step.f k a0 a1 = some r) :
    Calls Try.prog 19 #[.int .u16 a0, .int .u8 a1] w fun e w' => e = .returned (.int .u16 r) ∧ Drawn0 w w' := by
  have H : (crc_Step.l0 k (Go.bits .xor .u16 a0 (IntKind.u16.wrap ((IntKind.u16.wrap (a1)) * 256))) 0) = some r := h
  clear h
  have H' := Aside0.mk H
  clear H
  go_enter Try.func19, Try.ntmps19
  go_wp2
  go_loopg [0, 11] k (fun kq v0 v11 w' => ∃ (x0_1 : Int) (x11_1 : Int), v0 = .int .u16 x0_1 ∧ v11 = .int .i64 x11_1 ∧ Aside0 (crc_Step.l0 kq x0_1 x11_1 = some r) ∧ Aside0 (kq ≤ k) ∧ Drawn0 w w')
  case atStart => exact ⟨(Go.bits .xor .u16 a0 (IntKind.u16.wrap ((IntKind.u16.wrap (a1)) * 256))), (0), (by first | rfl | (simp; done) | (simp [*]; done)), (by first | rfl | (simp; done) | (simp [*]; done)), H', ⟨Nat.le_refl _⟩, by repeat (first | exact Drawn0.refl _ | apply Drawn0.step)⟩
  case round =>
    clear H'
    try clear c1
    try clear p2
    obtain ⟨x0_1, x11_1, rfl, rfl, HA, HK1, ⟨m1, rfl⟩⟩ := hrel
    cases gk with
    | zero => exact absurd HA.out (by simp [crc_Step.l0])
    | succ k1 =>
      have H := HA.out
      clear HA
      simp only [crc_Step.l0] at H
      by_cases c3 : x11_1 < 8
      · rw [if_pos c3] at H
        have c3b0 : decide (x11_1 < 8) = true := decide_eq_true c3
        clear c3
        by_cases c4 : (Go.bits .and .u16 x0_1 32768) = 0
        · rw [if_pos c4] at H
          have c4b0 : ((Go.bits .and .u16 x0_1 32768) == 0) = true := beq_iff_eq.mpr c4
          have c4b1 : ((Go.bits .and .u16 x0_1 32768) != 0) = false := bne_eq_false_iff_eq.mpr c4
          clear c4
          have H' := Aside0.mk H
          clear H
          go_wp2
          go_roundg k1
          case measure => have := HK1.out; omega
          case rel => exact ⟨(IntKind.u16.wrap (x0_1 * 2)), (wrap64 (x11_1 + 1)), (by first | rfl | (simp; done) | (simp [*]; done)), (by first | rfl | (simp; done) | (simp [*]; done)), H', ⟨by have := HK1.out; omega⟩, by repeat (first | exact Drawn0.refl _ | apply Drawn0.step)⟩
        · rw [if_neg c4] at H
          have c4b0 : ((Go.bits .and .u16 x0_1 32768) == 0) = false := beq_eq_false_iff_ne.mpr c4
          have c4b1 : ((Go.bits .and .u16 x0_1 32768) != 0) = true := bne_iff_ne.mpr c4
          have H' := Aside0.mk H
          clear H
          go_wp2
          go_roundg k1
          case measure => have := HK1.out; omega
          case rel => exact ⟨(Go.bits .xor .u16 (IntKind.u16.wrap (x0_1 * 2)) 4129), (wrap64 (x11_1 + 1)), (by first | rfl | (simp; done) | (simp [*]; done)), (by first | rfl | (simp; done) | (simp [*]; done)), H', ⟨by have := HK1.out; omega⟩, by repeat (first | exact Drawn0.refl _ | apply Drawn0.step)⟩
      · rw [if_neg c3] at H
        have c3b0 : decide (x11_1 < 8) = false := decide_eq_false c3
        clear c3
        obtain rfl := Option.some.inj H
        go_wp2
        go_ret
        exact ⟨by first | rfl | (simp; done) | (simp [*]; done), by repeat (first | exact Drawn0.refl _ | apply Drawn0.step)⟩

/-! ### crc_Sum: function 17 -/
def crc_Sum.l0 : Nat → Int → List Int → Int → Int → Option (Int)
  | 0, _, _, _, _ => none
  | k + 1, x3, x6, x7, x8 => if x8 < x7 then (if 0 ≤ x8 then (if x8 < (x6.length : Int) then ((crc_Step.f k x3 (rd x6 x8)).bind fun t102 => (crc_Sum.l0 k t102 x6 x7 (wrap64 (x8 + 1)))) else (none)) else (none)) else (some x3)
def crc_Sum.f (k : Nat) (l0 : List Int) : Option (Int) := crc_Sum.l0 k 65535 l0 (l0.length : Int) 0
theorem crc_Sum.mono_l : ∀ k, (∀ y0 y1 y2 y3, LeO (crc_Sum.l0 k y0 y1 y2 y3) (crc_Sum.l0 (k + 1) y0 y1 y2 y3))
  | 0 => fun _ _ _ _ r h => by simp [crc_Sum.l0] at h
  | k + 1 => by
    have ih0 := crc_Sum.mono_l k
    · intro y0 y1 y2 y3
      unfold crc_Sum.l0
      repeat' first
      | (with_reducible exact ih0 _ _ _ _)
      | (with_reducible exact crc_Step.mono _ _ _)
      | (with_reducible exact LeO.refl _)
      | (with_reducible exact LeO.none _)
      | (with_reducible refine LeO.ite ?_ ?_)
      | (with_reducible refine LeO.bind ?_ (fun _ => ?_))
      | exact ih0 _ _ _ _
      | exact crc_Step.mono _ _ _
      | exact LeO.none _
      | refine LeO.ite ?_ ?_
      | refine LeO.bind ?_ (fun _ => ?_)
theorem crc_Sum.mono : ∀ a0 k, LeO (crc_Sum.f k a0) (crc_Sum.f (k + 1) a0) := by
  intro a0 k
  have ih0 := crc_Sum.mono_l k
  unfold crc_Sum.f
  repeat' first
      | (with_reducible exact ih0 _ _ _ _)
      | (with_reducible exact crc_Step.mono _ _ _)
      | (with_reducible exact LeO.refl _)
      | (with_reducible exact LeO.none _)
      | (with_reducible refine LeO.ite ?_ ?_)
      | (with_reducible refine LeO.bind ?_ (fun _ => ?_))
      | exact ih0 _ _ _ _
      | exact crc_Step.mono _ _ _
      | exact LeO.none _
      | refine LeO.ite ?_ ?_
      | refine LeO.bind ?_ (fun _ => ?_)
set_option maxHeartbeats 8000000 in
set_option maxRecDepth 100000 in
theorem crc_Sum.calls (k : Nat) (A0 : Option Addr) (c0 : Nat) (l0 : List Int) (r : Int) (w : World) (hr0 : Kd.C (Kd.int .u8) w A0 l0.length l0) (hc0 : l0.length ≤ c0) (h : crc_Sum.f k l0 = some r) :
    Calls Try.prog 17 #[.slice A0 l0.length c0] w fun e w' => e = .returned (.int .u16 r) ∧ Drawn0 w w' := by
  have HR0 := Aside0.mk hr0
  have HC0 := Aside0.mk hc0
  clear hr0 hc0
  have H : (crc_Sum.l0 k 65535 l0 (l0.length : Int) 0) = some r := h
  clear h
  have H' := Aside0.mk H
  clear H
  go_enter Try.func17, Try.ntmps17
  go_wp2
  go_loopg [3, 8] k (fun kq v3 v8 w' => ∃ (x3_1 : Int) (x8_1 : Int), v3 = .int .u16 x3_1 ∧ v8 = .int .i64 x8_1 ∧ Aside0 (crc_Sum.l0 kq x3_1 l0 (l0.length : Int) x8_1 = some r) ∧ Aside0 (kq ≤ k) ∧ Drawn0 w w')
  case atStart => exact ⟨(65535), (0), (by first | rfl | (simp; done) | (simp [*]; done)), (by first | rfl | (simp; done) | (simp [*]; done)), H', ⟨Nat.le_refl _⟩, by repeat (first | exact Drawn0.refl _ | apply Drawn0.step)⟩
  case round =>
    clear H'
    try clear c1
    obtain ⟨x3_1, x8_1, rfl, rfl, HA, HK1, ⟨m1, rfl⟩⟩ := hrel
    cases gk with
    | zero => exact absurd HA.out (by simp [crc_Sum.l0])
    | succ k1 =>
      have H := HA.out
      clear HA
      simp only [crc_Sum.l0] at H
      by_cases c2 : x8_1 < (l0.length : Int)
      · rw [if_pos c2] at H
        have c2b0 : decide (x8_1 < (l0.length : Int)) = true := decide_eq_true c2
        clear c2
        by_cases c3 : 0 ≤ x8_1
        · rw [if_pos c3] at H
          have c3b0 : decide (0 ≤ x8_1) = true := decide_eq_true c3
          clear c3
          by_cases c4 : x8_1 < (l0.length : Int)
          · rw [if_pos c4] at H
            have c4b0 : decide (x8_1 < (l0.length : Int)) = true := decide_eq_true c4
            clear c4
            replace H := Option.bind_eq_some_iff.mp H
            obtain ⟨t102, A50, H⟩ := H
            replace H : (crc_Sum.l0 k1 t102 l0 (l0.length : Int) (wrap64 (x8_1 + 1))) = some r := H
            have A5 := Aside0.mk A50
            clear A50
            have H' := Aside0.mk H
            clear H
            have p101 : 0 ≤ (x8_1 : Int) := of_decide_eq_true (by first | (with_reducible assumption) | assumption)
            have q101 : x8_1 < (l0.length : Int) := of_decide_eq_true (by first | (with_reducible assumption) | assumption)
            obtain ⟨ad101, e101, hx101_0⟩ := Kd.at_int HR0.out x8_1 p101 q101
            cases e101
            replace p101 := eq_true p101
            replace q101 := eq_true q101
            go_wp2_with (first | ((with_reducible refine gate_callee (f := 19) rfl ?_); refine goesL_ (some 14) rfl rfl Try.func19 (by kernel_rfl) rfl #[.int .u16 x3_1, .int .u8 (rd l0 x8_1)] rfl (by (try simp only [List.map_toArray, List.map_cons, List.map_nil]); first | done | rfl | (simp only [List.length_drop, List.length_take]; rfl)) ?_; (with_reducible refine (crc_Step.calls k1 x3_1 (rd l0 x8_1) t102 _ A5.out).mono ?_); rintro e w' ⟨rfl, ⟨nd, rfl⟩⟩; refine ⟨_, rfl, ?_⟩))
            go_roundg k1
            case measure => have := HK1.out; omega
            case rel => exact ⟨(t102), (wrap64 (x8_1 + 1)), (by first | rfl | (simp; done) | (simp [*]; done)), (by first | rfl | (simp; done) | (simp [*]; done)), H', ⟨by have := HK1.out; omega⟩, by repeat (first | exact Drawn0.refl _ | apply Drawn0.step)⟩
          · rw [if_neg c4] at H
            exact absurd H (by simp)
        · rw [if_neg c3] at H
          exact absurd H (by simp)
      · rw [if_neg c2] at H
        have c2b0 : decide (x8_1 < (l0.length : Int)) = false := decide_eq_false c2
        clear c2
        obtain rfl := Option.some.inj H
        go_wp2
        go_ret
        exact ⟨by first | rfl | (simp; done) | (simp [*]; done), by repeat (first | exact Drawn0.refl _ | apply Drawn0.step)⟩

/-! ### sidesticklaw03_shown: function 15 -/
def sidesticklaw03_shown.f (k : Nat)  : Option (Bool) := (crc_Sum.f k ([] : List Int)).bind fun t103 => (if t103 = 65535 then ((crc_Sum.f k (([49, 50, 51, 52, 53, 54, 55, 56, 57] : List Int))).bind fun t107 => (some (t107 == 10673))) else (some false))
theorem sidesticklaw03_shown.mono : ∀ k, LeO (sidesticklaw03_shown.f k ) (sidesticklaw03_shown.f (k + 1) ) := by
  intro  k
  unfold sidesticklaw03_shown.f
  repeat' first
      | (with_reducible exact crc_Sum.mono _ _)
      | (with_reducible exact LeO.refl _)
      | (with_reducible exact LeO.none _)
      | (with_reducible refine LeO.ite ?_ ?_)
      | (with_reducible refine LeO.bind ?_ (fun _ => ?_))
      | exact crc_Sum.mono _ _
      | exact LeO.none _
      | refine LeO.ite ?_ ?_
      | refine LeO.bind ?_ (fun _ => ?_)
theorem C_lit (W : World) (e : TypeId) (xs : List Int) (fr : Nat × Nat) (hn : xs.length ≤ 9223372036854775807) : Kd.C (Kd.int .u8) (W.alloc (.cells (xs.map fun x => Value.int .u8 x).toArray e fr)) (some ⟨W.heap.size, 0, none⟩) xs.length xs := by
  refine ⟨rfl, hn, fun _ => ⟨_, rfl, fun j p hj => ⟨[.int .u8 p], rfl, rfl, fun i u hu => ?_⟩⟩⟩
  cases i with
  | succ i => simp at hu
  | zero =>
    simp at hu
    subst hu
    show (W.alloc _).cell? ((⟨W.heap.size, 0, none⟩ : Addr).add (j * 1 + 0)) = _
    rw [add_plain, Nat.mul_one, Nat.add_zero, cell_of_row _ _ _ _ _ _ (heap_alloc_new W _)]
    simp [hj]
set_option maxHeartbeats 8000000 in
set_option maxRecDepth 100000 in
theorem sidesticklaw03_shown.calls (k : Nat)  (r : Bool) (w : World) (h : sidesticklaw03_shown.f k  = some r) :
    Calls Try.prog 15 #[] w fun e w' => e = .returned (.bool r) ∧ Below w.heap.size w w' := by
  have HB := Aside0.mk (Below.refl w.heap.size w)
  have H : ((crc_Sum.f k ([] : List Int)).bind fun t103 => (if t103 = 65535 then ((crc_Sum.f k (([49, 50, 51, 52, 53, 54, 55, 56, 57] : List Int))).bind fun t107 => (some (t107 == 10673))) else (some false))) = some r := h
  clear h
  replace H := Option.bind_eq_some_iff.mp H
  obtain ⟨t103, A10, H⟩ := H
  replace H : (if t103 = 65535 then ((crc_Sum.f k (([49, 50, 51, 52, 53, 54, 55, 56, 57] : List Int))).bind fun t107 => (some (t107 == 10673))) else (some false)) = some r := H
  have A1 := Aside0.mk A10
  clear A10
  by_cases c2 : t103 = 65535
  · rw [if_pos c2] at H
    have c2b0 : (t103 == 65535) = true := beq_iff_eq.mpr c2
    have c2b1 : (t103 != 65535) = false := bne_eq_false_iff_eq.mpr c2
    clear c2
    obtain ⟨y104, hy104⟩ : ∃ y_ : List Int, y_ = (([49, 50, 51, 52, 53, 54, 55, 56, 57] : List Int)) := ⟨_, rfl⟩
    replace H : ((crc_Sum.f k y104).bind fun t107 => (some (t107 == 10673))) = some r := by first | (rw [hy104]; with_reducible exact H) | (have H2_ := (Option.bind_some _ _).symm.trans H; rw [hy104]; with_reducible exact H2_) | (have H2_ := (Option.bind_some _ _).symm.trans H; with_reducible exact H2_) | with_reducible exact H | (rw [hy104]; exact H) | exact H
    have Ny104 := Aside0.mk hy104
    clear hy104
    replace H := Option.bind_eq_some_iff.mp H
    obtain ⟨t107, A30, H⟩ := H
    replace H : (some (t107 == 10673)) = some r := H
    have A3 := Aside0.mk A30
    clear A30
    obtain rfl := Option.some.inj H
    go_enter Try.func15, Try.ntmps15
    have kc : ∀ (nd : Nat) (C : Array Value) (n c : Nat), (convert 22 22 (.slice (some ⟨w.heap.size, 0, none⟩) n c)).run Try.prog ((w.drewN nd).alloc (.cells C 5)) = .ok (.slice (some ⟨w.heap.size, 0, none⟩) n c) ((w.drewN nd).alloc (.cells C 5 (C.size, C.size + 1))) := fun nd C n c => Lib.run_convert_bytes_const (P := Try.prog) (w.drewN nd) 22 5 C n c Try.underlying22 Try.underlying5
    go_wp2_with (first | ((with_reducible refine gate_callee (f := 17) rfl ?_); refine goesL_ (some 1) rfl rfl Try.func17 (by kernel_rfl) rfl #[.slice none 0 0] rfl (by (try simp only [List.map_toArray, List.map_cons, List.map_nil]); first | done | rfl | (simp only [List.length_drop, List.length_take]; rfl)) ?_; (refine (crc_Sum.calls k _ _ ([] : List Int) t103 _ ?side1 ?side2 A1.out).mono ?_); (case side1 => exact Kd.C_nil _ _); (case side2 => exact Nat.le_refl _); rintro e w' ⟨rfl, ⟨nd, rfl⟩⟩; refine ⟨_, rfl, ?_⟩))
    have A3' := A3.out
    rw [Ny104.out] at A3'
    refine (crc_Sum.calls k _ 9 [49, 50, 51, 52, 53, 54, 55, 56, 57] t107 _ (C_lit (w.drewN nd) 5 [49, 50, 51, 52, 53, 54, 55, 56, 57] (9, 10) (by decide)) (Nat.le_refl _) A3').mono ?_
    rintro e w' ⟨rfl, ⟨nd', rfl⟩⟩
    go_wp2
    go_ret
    exact ⟨by first | rfl | (simp [errW_none, errW_some] <;> rfl) | (simp [*, errW_none, errW_some] <;> rfl), by repeat (first | (with_reducible first | exact HB.out | apply below_alloc | apply pw_below_drewN | apply below_drew1) | exact HB.out)⟩
  · rw [if_neg c2] at H
    have c2b0 : (t103 == 65535) = false := beq_eq_false_iff_ne.mpr c2
    have c2b1 : (t103 != 65535) = true := bne_iff_ne.mpr c2
    obtain rfl := Option.some.inj H
    go_enter Try.func15, Try.ntmps15
    go_wp2_with (first | ((with_reducible refine gate_callee (f := 17) rfl ?_); refine goesL_ (some 1) rfl rfl Try.func17 (by kernel_rfl) rfl #[.slice none 0 0] rfl (by (try simp only [List.map_toArray, List.map_cons, List.map_nil]); first | done | rfl | (simp only [List.length_drop, List.length_take]; rfl)) ?_; (refine (crc_Sum.calls k _ _ ([] : List Int) t103 _ ?side1 ?side2 A1.out).mono ?_); (case side1 => exact Kd.C_nil _ _); (case side2 => exact Nat.le_refl _); rintro e w' ⟨rfl, ⟨nd, rfl⟩⟩; refine ⟨_, rfl, ?_⟩))
    go_ret
    exact ⟨by first | rfl | (simp [errW_none, errW_some] <;> rfl) | (simp [*, errW_none, errW_some] <;> rfl), by repeat (first | (with_reducible first | exact HB.out | apply below_alloc | apply pw_below_drewN | apply below_drew1) | exact HB.out)⟩

-- NOT PRINTED: function 7 (sidesticklaw03_CrcApart)

end Go.Proofs.Ytjmpoiafcdphbaa.PCrcApart
