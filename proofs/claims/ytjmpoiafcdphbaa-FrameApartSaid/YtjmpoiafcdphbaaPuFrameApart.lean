/- FrameApart: unlike bodies have unlike frames; no frame is the beginning of another one's; what its first bytes say. -/
import Derived.Test.YtjmpoiafcdphbaaFrameTellFrameApart
import Derived.Test.YtjmpoiafcdphbaaFrameMathB
import Derived.Test.YtjmpoiafcdphbaaFrameMathD
import Derived.Test.YtjmpoiafcdphbaaQFrameApartx4
namespace Go.Proofs.Ytjmpoiafcdphbaa.Pure
open Go Go.RowKit Go.Proofs.Ytjmpoiafcdphbaa.Frame Go.Proofs.Ytjmpoiafcdphbaa.Crc Go.Proofs.Ytjmpoiafcdphbaa.PFrameApart Go.Proofs.Ytjmpoiafcdphbaa.TellFrameApart Go.Proofs.YtjmpoiafcdphbaaW.PrintWords Go.Proofs.YtjmpoiafcdphbaaW.PrintLast
theorem nums_inj : ∀ {a b : List Int}, isB a → isB b → (a.map fun n => UInt8.ofNat n.toNat) = (b.map fun n => UInt8.ofNat n.toNat) → a = b
  | [], [], _, _, _ => rfl
  | [], _ :: _, _, _, h => by simp at h
  | _ :: _, [], _, _, h => by simp at h
  | x :: a, y :: b, ha, hb, h => by
    simp only [List.map_cons, List.cons.injEq] at h
    have hx := isB_head ha
    have hy := isB_head hb
    have h1 := congrArg UInt8.toNat h.1
    rw [UInt8.toNat_ofNat', UInt8.toNat_ofNat'] at h1
    have e : x = y := by omega
    rw [e, nums_inj (isB_tail ha) (isB_tail hb) h.2]
theorem str_inj {a b : List Int} (ha : isB a) (hb : isB b) (h : (strOfNums a).toList = (strOfNums b).toList) : a = b := by
  rw [ByteArray.toList_eq, ByteArray.toList_eq, strOfNums_data, strOfNums_data] at h
  exact nums_inj ha hb h
theorem str_beq {a b : List Int} (ha : isB a) (hb : isB b) : ((strOfNums a).toList == (strOfNums b).toList) = decide (a = b) := by
  by_cases h : a = b
  · subst h; simp
  · rw [decide_eq_false h]
    exact beq_eq_false_iff_ne.2 (fun e => h (str_inj ha hb e))
theorem isB_take {l : List Int} (h : isB l) (n : Nat) : isB (l.take n) := fun x hx => h x (List.mem_of_mem_take hx)
theorem frame_inj {x y : List Int} {n : Nat} (h3 : 5 ≤ n) (hn : min (frL x).length (frL y).length ≤ n) (h : (frL x).take n = (frL y).take n) : x = y := by
  have lx := frL_length x
  have ly := frL_length y
  have h2 : ((frL x).take n)[2]? = ((frL y).take n)[2]? := by rw [h]
  rw [List.getElem?_take, List.getElem?_take, if_pos (by omega), if_pos (by omega)] at h2
  have e1 : (frL x)[2]? = some ((x.length : Nat) : Int) := rfl
  have e2 : (frL y)[2]? = some ((y.length : Nat) : Int) := rfl
  rw [e1, e2] at h2
  have hl : x.length = y.length := by
    have := Option.some.inj h2
    omega
  rw [List.take_of_length_le (by omega), List.take_of_length_le (by omega)] at h
  unfold frL at h
  simp only [List.cons.injEq, true_and] at h
  have h4 := h.2
  exact (List.append_inj h4 hl).1
theorem fr_0 (x : List Int) : rd (frL x) 0 = 165 := rfl
theorem fr_1 (x : List Int) : rd (frL x) 1 = 1 := rfl
theorem fr_2 (x : List Int) : rd (frL x) 2 = (x.length : Int) := rfl
theorem fr_body (x : List Int) : ((frL x).take (x.length + 3)).drop 3 = x := by
  have e : frL x = 165 :: 1 :: (x.length : Int) :: (x ++ [sumI (1 :: (x.length : Int) :: x) / 256, sumI (1 :: (x.length : Int) :: x) % 256]) := rfl
  rw [e, List.take_succ_cons, List.take_succ_cons, List.take_succ_cons, List.drop_succ_cons, List.drop_succ_cons, List.drop_succ_cons, List.drop_zero, List.take_left' rfl]
theorem mn_nat (a b : Nat) : mn (a : Int) (b : Int) = ((min a b : Nat) : Int) := by unfold mn; split <;> omega
theorem w_small {a : Int} (h0 : 0 ≤ a) (h1 : a ≤ 1000) : wrap64 a = a := wrap64_small (by omega) (by omega)
theorem FrameApart : sidesticklaw06_FrameApart.Pure := by
  intro l0 l1 _ _ hl _ _ hl1
  have hx := body_bytes (bytes_of hl)
  have hy := body_bytes (bytes_of hl1)
  have nx := body_length l0
  have ny := body_length l1
  refine ⟨2000, ?_⟩
  unfold sidesticklaw06_FrameApart.f
  rw [shown_is (by omega), Option.bind_some, body_is, Option.bind_some, body_is, Option.bind_some, put_is hx (by omega) (by omega), Option.bind_some, put_is hy (by omega) (by omega), Option.bind_some, if_pos rfl]
  generalize bodyL l0 = x at *
  generalize bodyL l1 = y at *
  rw [putL_is nx, putL_is ny]
  dsimp only
  have key : ((frL x).take (min (x.length + 5) (y.length + 5)) = (frL y).take (min (x.length + 5) (y.length + 5))) → x = y :=
    frame_inj (by omega) (by rw [frL_length, frL_length]; exact Nat.le_refl _)
  have hpq : x = y → frL x = frL y := fun e => by rw [e]
  have lx := frL_length x
  have ly := frL_length y
  have bx := frL_isB hx nx
  have by_ := frL_isB hy ny
  have r0 := Aside0.mk (fr_0 x)
  have r1 := Aside0.mk (fr_1 x)
  have r2 := Aside0.mk (fr_2 x)
  have r3 := Aside0.mk (fr_body x)
  generalize frL x = p at *
  generalize frL y = q at *
  have e5 := Aside0.mk (w_small (a := (x.length : Int) + 5) (by omega) (by omega))
  have e6 := Aside0.mk (w_small (a := (y.length : Int) + 5) (by omega) (by omega))
  have e3 := Aside0.mk (w_small (a := 3 + (x.length : Int)) (by omega) (by omega))
  have ex := Aside0.mk (w_small (a := (x.length : Int)) (by omega) (by omega))
  have h5 : (x.length : Int) + 5 = ((x.length + 5 : Nat) : Int) := by omega
  have h6 : (y.length : Int) + 5 = ((y.length + 5 : Nat) : Int) := by omega
  have h3 : 3 + (x.length : Int) = ((x.length + 3 : Nat) : Int) := by omega
  rw [lx, ly, e5.out, e6.out, h5, h6, mn_nat, if_pos rfl, if_pos rfl, if_pos rfl, if_pos rfl, if_pos (by omega), if_pos (by omega), if_pos (by omega), Int.toNat_natCast, str_beq (isB_take bx _) (isB_take by_ _), str_beq hx hy]
  have key2 : decide (p.take (min (x.length + 5) (y.length + 5)) = q.take (min (x.length + 5) (y.length + 5))) = decide (x = y) := by
    by_cases h : x = y
    · rw [hpq h, decide_eq_true h, decide_eq_true rfl]
    · rw [decide_eq_false h, decide_eq_false (fun e => h (key e))]
  rw [key2, beq_self_eq_true, if_pos rfl, if_pos (by omega), r0.out, if_pos rfl, if_pos (by omega), r1.out, if_pos rfl, if_pos (by omega), r2.out, ex.out, if_pos rfl, e3.out, h3, if_pos (by omega), if_pos (by omega), Int.toNat_natCast, r3.out, beq_self_eq_true]
end Go.Proofs.Ytjmpoiafcdphbaa.Pure
