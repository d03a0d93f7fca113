/- StreamAgain: whatever came, behind 36 bytes that are no mark nothing is left, and the next frame is found, as it was put. -/
import Derived.Test.YtjmpoiafcdphbabTakeMoreStreamFrames
import Derived.Test.YtjmpoiafcdphbabFewMath
namespace Go.Proofs.Ytjmpoiafcdphbab.PStreamFrames
open Go.RowKit Go.Proofs.Ytjmpoiafcdphbab.Frame Go.Proofs.Ytjmpoiafcdphbab.Stream Go.Proofs.Ytjmpoiafcdphbab.TellStreamFrames Go.Proofs.YtjmpoiafcdphbabW.PrintWords Go.Proofs.YtjmpoiafcdphbabW.PrintLast Go.Proofs.YtjmpoiafcdphbabW.PrintMore
set_option linter.unusedVariables false
set_option linter.unusedSimpArgs false
/-- What is left behind calm bytes. -/
theorem calm_rest {a : List Int} {c : Int} (ha : isB a) (hc : 0 ≤ c ∧ c ≤ 255) (hn : c ≠ 165) : (allL (a ++ List.replicate 36 c)).2 = [] := by
  have hb : isB (a ++ List.replicate 36 c) := isB_append ha (fun x hx => by rw [List.eq_of_mem_replicate hx]; exact hc)
  have hs := rest_small hb
  have hr := rest_is hb
  rcases wait_mark (rest_waits hb) with e | ⟨r, e⟩
  · exact e
  · exfalso
    have hm : (165 : Int) ∈ (allL (a ++ List.replicate 36 c)).2 := by rw [e]; exact List.mem_cons_self
    have hl : (a ++ List.replicate 36 c).length = a.length + 36 := by simp
    rw [hr, hl, List.drop_append, List.drop_eq_nil_of_le (by omega), List.nil_append] at hm
    have := List.eq_of_mem_replicate (List.mem_of_mem_drop hm)
    exact hn this.symm
theorem calm_step {a : List Int} {c : Int} {i : Nat} (ha : isB a) (hc : 0 ≤ c ∧ c ≤ 255) : (allL ((allL (a ++ List.replicate i c)).2 ++ [c])).2 = (allL (a ++ List.replicate (i + 1) c)).2 := by
  have hr : ∀ i, isB (List.replicate i c) := fun i x hx => by rw [List.eq_of_mem_replicate hx]; exact hc
  have h := all_append (a := a ++ List.replicate i c) (b := [c]) (isB_append ha (hr i)) (fun x hx => by rw [List.mem_singleton.1 hx]; exact hc)
  rw [List.replicate_succ', ← List.append_assoc, h]
theorem frame_all {b : List Int} (hb : isB b) (hn : b.length ≤ 32) : allL ([] ++ frL b) = ([((0 : Int), b)], []) := by
  have := all_frame (m := []) hb hn (fun x hx => by cases hx)
  rw [List.append_nil] at this
  rw [List.nil_append, this]
  rfl
/-- The slots' stream and pieces, as the rounds have them. -/
structure At1 (m0 : Nat) (w2 wr : World) (g : Nat) (n : Nat) : Prop where
  out : ∃ left, StOk m0 w2 wr g left ∧ isB left ∧ left.length < 37 ∧ (nextL left).1 = 0
structure At2 (m0 : Nat) (w2 wr : World) (g : Nat) (a : List Int) (c : Int) (n : Nat) : Prop where
  out : StOk m0 w2 wr g (allL (a ++ List.replicate n c)).2
set_option maxHeartbeats 8000000 in
set_option maxRecDepth 100000 in
theorem StreamAgain.told (A0 : Option Addr) (c0 : Nat) (l0 : List (List Int)) (A1 : Option Addr) (c1 : Nat) (l1 : List Int) (x2 cc : Int) (w : World) (hr0 : Kd.C (Kd.slice 5 (Kd.int .u8)) w A0 l0.length l0) (hc0 : l0.length ≤ c0)
    (hr1 : Kd.C (Kd.int .u8) w A1 l1.length l1) (hc1 : l1.length ≤ c1) (hl0 : Pieces l0) (hl1 : isB l1) (n1 : l1.length ≤ 140737488351232) (hx : 0 ≤ x2 ∧ x2 ≤ 255) (hcc : cc = if x2 = 165 then 0 else x2) :
    Calls Try.prog 4 #[.slice A0 l0.length c0, .slice A1 l1.length c1, .int .u8 x2] w fun e w' => e = .returned (.bool true) ∧ Below w.heap.size w w' := by
  have hu49 := Try.underlying49
  have hu31 := Try.underlying31
  have HR0 := Aside0.mk hr0
  have HC0 := Aside0.mk hc0
  have HR1 := Aside0.mk hr1
  have HC1 := Aside0.mk hc1
  obtain ⟨r, hr, hfew⟩ := few_is hl0 (k := 20000) (by omega)
  have HFW := Aside0.mk hr
  have HFE := Aside0.mk hfew
  have HL1 := Aside0.mk hl1
  have HN1 := Aside0.mk n1
  have HX := Aside0.mk hx
  have HCC := Aside0.mk hcc
  clear hr0 hc0 hr1 hc1 hr hfew hl1 n1 hx hcc hl0
  go_enter Try.func4, Try.ntmps4
  go_wp2_with (first | ((with_reducible refine gate_callee (f := 7) rfl ?_); refine goesL_ (some 16) rfl rfl Try.func7 (by kernel_rfl) rfl #[] rfl (by (try simp only [List.map_toArray, List.map_cons, List.map_nil]); first | done | rfl) ?_; refine (sidesticklaw07_shown.calls true _ rfl).mono ?_; rintro e w1 ⟨rfl, hb⟩; refine ⟨_, rfl, ?_⟩; have HB1 := Aside0.mk hb; clear hb) | ((with_reducible refine gate_callee (f := 8) rfl ?_); refine goesL_ (some 18) rfl rfl Try.func8 (by kernel_rfl) rfl #[.slice A0 l0.length c0] rfl (by (try simp only [List.map_toArray, List.map_cons, List.map_nil]); first | done | rfl) ?_; (with_reducible refine (sidesticklaw07_few.calls 20000 (fun k_ => k_ < w.heap.size) _ _ l0 r _ ?side1 HFW.out).mono ?_); (case side1 => exact Kd.V_mk HC0.out (Kd.F_below (Kd.C_F (Kd.heap_slice 5 (Kd.heap_int .u8)) HR0.out) HB1.out)); rintro e w2 ⟨vp, rfl, hN, hb⟩; refine ⟨_, rfl, ?_⟩; obtain ⟨Ap, cp, ep⟩ := Kd.N_slice hN; subst ep; have HN := Aside0.mk hN; have HB2 := Aside0.mk (below_then HB1.out HB1.out.size hb); clear hN hb) | ((with_reducible refine gate_callee (f := 12) rfl ?_); refine goesL_ (some 19) rfl rfl Try.func12 (by kernel_rfl) rfl #[] rfl (by (try simp only [List.map_toArray, List.map_cons, List.map_nil]); first | done | rfl) ?_; refine (stream_New.told _).mono ?_; rintro e w3 ⟨g, rfl, hge, hg, hb⟩; refine ⟨_, rfl, ?_⟩; have HST := Aside0.mk (StOk.new hge hg hb); clear hg hge hb))
  go_loopw [10] (fun i wr => ∃ n : Nat, i = .int .i64 n ∧ n ≤ r.length ∧ At1 w2.heap.size w2 wr g n) (fun i _ => r.length - (intOf i).toNat)
  case atStart => exact ⟨0, rfl, Nat.zero_le _, ⟨[], HST.out, (fun x hx => by cases hx), by simp, rfl⟩⟩
  case round =>
    obtain ⟨n, rfl, hn, hA⟩ := hrel
    obtain ⟨left, hST, hleft, hlen, hwait⟩ := hA.out
    have HW := Aside0.mk hwait
    clear hwait
    clear hA
    have h20 := (HFE.out).1
    by_cases hlt : n < r.length
    · have hC := (Kd.N_reads' (Kd.N_below HN.out hST.below)).2.2
      obtain ⟨ad, A', c', ead, hcell, hle, hC'⟩ := at_L2 hC (n : Int) (by omega) (by omega)
      have hfe := (HFE.out).2 _ (rd_mem (l := r) (i := n) hlt)
      subst ead
      rw [Int.toNat_natCast] at hcell
      obtain ⟨pc, hpc⟩ : ∃ pc, pc = rd_L2 r (n : Int) := ⟨_, rfl⟩
      rw [← hpc] at hcell hle hC' hfe
      have HS := Aside0.mk hST
      have HC' := Aside0.mk hC'
      have HLE := Aside0.mk hle
      have HBB := Aside0.mk (isB_append hleft hfe.1)
      have HLL := Aside0.mk (show left.length + pc.length ≤ 100000 by have := hfe.2; omega)
      clear hST hC hC' hle hleft hlen hfe hpc
      go_wp2_with (first | ((with_reducible refine gate_callee (f := 13) rfl ?_); refine goesL_ (some 37) rfl rfl Try.func13 (by kernel_rfl) rfl #[.pointer (some ⟨g, 0, none⟩), .slice A' pc.length c'] rfl (by (try simp only [List.map_toArray, List.map_cons, List.map_nil]); first | done | rfl) ?_; refine (StOk.take HS.out HC'.out HLE.out HLL.out HBB.out).mono ?_; rintro e w4 ⟨v0, m, rfl, hm, hST, hS⟩; refine ⟨_, rfl, ?_⟩; have HS4 := Aside0.mk hST; clear hm hST hS))
      go_roundw
      case rel => exact ⟨n + 1, by go_num, by omega, ⟨_, HS4.out, rest_isB HBB.out, rest_small HBB.out, rest_waits HBB.out⟩⟩
      case measure => simp [intOf]; omega
    · have HS := Aside0.mk hST
      have HLEFT := Aside0.mk hleft
      have hcc : 0 ≤ cc ∧ cc ≤ 255 ∧ cc ≠ 165 := by
        have h1 := HX.out
        rw [HCC.out]
        split <;> omega
      have HC3 := Aside0.mk hcc
      have H37 := Aside0.mk hlen
      clear hST hleft hlen hcc
      by_cases hz : x2 = 165
      · have h165 : (x2 == 165) = true := beq_iff_eq.2 hz
        have hc0 : cc = 0 := by rw [HCC.out, if_pos hz]
        clear hz
        subst hc0
        go_wp2
        go_loopw [11] (fun i wr => ∃ n : Nat, i = .int .i64 n ∧ n ≤ 36 ∧ At2 w2.heap.size w2 wr g left (0 : Int) n) (fun i _ => 36 - (intOf i).toNat)
        case atStart => exact ⟨0, rfl, by omega, ⟨by rw [List.replicate_zero, List.append_nil]; rw [all_wait HW.out]; exact HS.out⟩⟩
        case round =>
          obtain ⟨n, rfl, hn, hA⟩ := hrel
          have HS2 := Aside0.mk hA.out
          clear hA
          by_cases hlt : n < 36
          · obtain ⟨lf, hlf⟩ : ∃ lf, lf = (allL (left ++ List.replicate n (0 : Int))).2 := ⟨_, rfl⟩
            have hB : isB (left ++ List.replicate n (0 : Int)) := isB_append HLEFT.out (fun x hx => by rw [List.eq_of_mem_replicate hx]; exact ⟨HC3.out.1, HC3.out.2.1⟩)
            have HS3 := HS2
            rw [← hlf] at HS3
            have HB5 := Aside0.mk (show isB (lf ++ [(0 : Int)]) from isB_append (by rw [hlf]; exact rest_isB hB) (fun x hx => by rw [List.mem_singleton.1 hx]; exact ⟨HC3.out.1, HC3.out.2.1⟩))
            have HL5 := Aside0.mk (show lf.length + ([(0 : Int)] : List Int).length ≤ 100000 by have := rest_small hB; rw [hlf]; simp only [List.length_cons, List.length_nil]; omega)
            have HLF := Aside0.mk hlf
            clear hlf hB
            go_wp2_with (first | ((with_reducible refine gate_dst (N := 46) rfl ?_); refine Kd.R_lit (Kd.int .u8) _ 5 ?hg (N := 46) ?hd (xs := ([(0 : Int)] : List Int)) (inner := [.int .u8 (0 : Int)]) (ok := fun _ => True) (okp := fun _ => True) ?hr ?hp (fun _ hk => hk) trivial (Below.refl _ _) (Nat.le_refl _) (by simp) ?_; (case hd => rfl); (case hg => rfl); (case hr => first | (go_simp; done) | (go_simp; rfl)); (case hp => exact (Reps.one (show Kd.M (Kd.int .u8) _ _ _ (0 : Int) [.int .u8 (0 : Int)] from rfl) (Reps.none _ _))); intro v46 w46 ho hb hg_ hnew_; clear hg_ hnew_; obtain ⟨Al, cl, el, hcl⟩ := v_reads ho; subst el; have HSl := Aside0.mk (HS3.out.step hb); have HRl := Aside0.mk (Kd.R_reads' ho).2.2; have HCl := Aside0.mk hcl; clear ho hb hcl) | ((with_reducible refine gate_callee (f := 13) rfl ?_); refine goesL_ (some 47) rfl rfl Try.func13 (by kernel_rfl) rfl #[.pointer (some ⟨g, 0, none⟩), .slice Al ([(0 : Int)] : List Int).length cl] rfl (by (try simp only [List.map_toArray, List.map_cons, List.map_nil]); first | done | rfl) ?_; refine (StOk.take HSl.out HRl.out HCl.out HL5.out HB5.out).mono ?_; rintro e w5 ⟨v0, m, rfl, hm, hST, hS⟩; refine ⟨_, rfl, ?_⟩; have HS6 := Aside0.mk hST; clear hm hST hS))
            go_roundw
            case rel => exact ⟨n + 1, by go_num, by omega, ⟨by have h6 := HS6.out; rw [HLF.out, calm_step HLEFT.out ⟨HC3.out.1, HC3.out.2.1⟩] at h6; exact h6⟩⟩
            case measure => simp [intOf]; omega
          · have hn36 : n = 36 := by omega
            have HE := Aside0.mk (show StOk w2.heap.size w2 _ g [] from by have h6 := HS2.out; rw [hn36, calm_rest HLEFT.out ⟨HC3.out.1, HC3.out.2.1⟩ HC3.out.2.2] at h6; exact h6)
            clear HS2 hn36
            obtain ⟨y, hy⟩ : ∃ y, y = l1.take (min l1.length 32) := ⟨_, rfl⟩
            have hyl : y.length = min l1.length 32 := by rw [hy, List.length_take]; omega
            have hji : (if 32 < (l1.length : Int) then 32 else (l1.length : Int)) = ((y.length : Nat) : Int) := by rw [hyl]; split <;> omega
            obtain ⟨i0, hi0, _, hsz, _⟩ := info_parts info5
            have hcut := cut_to (P := Try.prog) 23 5 .i64 Try.underlying23 hi0 A1 l1.length c1 ((y.length : Nat) : Int) (by omega) (by omega) HC1.out
            rw [Int.toNat_natCast] at hcut
            have HYC := Aside0.mk (show Kd.C (Kd.int .u8) w A1 y.length y from by rw [hy]; exact Kd.C_take HR1.out (by omega))
            have HY1 := Aside0.mk (show y.length ≤ c1 from by have := HC1.out; omega)
            have HYB := Aside0.mk (show isB y from fun z hz => HL1.out z (by rw [hy] at hz; exact List.mem_of_mem_take hz))
            have HY32 := Aside0.mk (show y.length ≤ 32 by omega)
            have HWB := Aside0.mk (below_then HB2.out HB2.out.size (HE.out.below.mono (by first | exact Nat.le_refl _ | exact HB2.out.size)))
            have HPUT := Aside0.mk (show sidestickref06_Put.f 1000 y = some (frL y, 0) from by rw [refput_is HYB.out (by omega) (by omega), putL_is (by omega)])
            have HLF2 := Aside0.mk (show ([] : List Int).length + (frL y).length ≤ 100000 from by rw [frL_length]; simp only [List.length_nil]; omega)
            have HBF := Aside0.mk (show isB ([] ++ frL y) from frL_isB HYB.out (by omega))
            clear hy hyl hi0 hsz
            go_wp2_with (first | ((with_reducible refine gate_callee (f := 14) rfl ?_); refine goesL_ (some 49) rfl rfl Try.func14 (by kernel_rfl) rfl #[.pointer (some ⟨g, 0, none⟩)] rfl (by (try simp only [List.map_toArray, List.map_cons, List.map_nil]); first | done | rfl) ?_; refine (StOk.rest HE.out).mono ?_; rintro e w5 ⟨rfl, rfl⟩; refine ⟨_, rfl, ?_⟩) | ((with_reducible refine gate_callee (f := 9) rfl ?_); refine goesL_ (some 58) rfl rfl Try.func9 (by kernel_rfl) rfl #[.slice A1 y.length c1] rfl (by (try simp only [List.map_toArray, List.map_cons, List.map_nil]); first | done | rfl) ?_; refine (sidestickref06_Put.calls 1000 A1 c1 y (frL y) 0 _ (Kd.C_below HYC.out HWB.out) HY1.out HPUT.out).mono ?_; rintro e w6 ⟨vf, rfl, ho, hb⟩; refine ⟨_, rfl, ?_⟩; obtain ⟨Af, cf, ef, hcf⟩ := v_reads ho; subst ef; have HS7 := Aside0.mk (HE.out.step hb); have HWC := Aside0.mk (below_then HWB.out HWB.out.size hb); have HRf := Aside0.mk (Kd.R_reads' ho).2.2; have HCf := Aside0.mk hcf; clear ho hb hcf) | ((with_reducible refine gate_callee (f := 13) rfl ?_); refine goesL_ (some 63) rfl rfl Try.func13 (by kernel_rfl) rfl #[.pointer (some ⟨g, 0, none⟩), .slice Af (frL y).length cf] rfl (by (try simp only [List.map_toArray, List.map_cons, List.map_nil]); first | done | rfl) ?_; refine (StOk.take HS7.out HRf.out HCf.out HLF2.out HBF.out).mono ?_; rintro e w7 ⟨va, m, rfl, hm, hST, hS⟩; refine ⟨_, rfl, ?_⟩; rw [frame_all HYB.out HY32.out] at hST hS; obtain ⟨Aa, ca, ea, hca, hCa⟩ := Kd.S_reads hS; subst ea; obtain ⟨ad, A2, c2, ead, hx0, hx1, hx2, hx3⟩ := at_T31 hCa 0 (by decide) (show (0 : Int) < ((1 : Nat) : Int) from by decide); subst ead; have hx : w7.cell? ad = some (.int .i64 0) := hx0; have hxx : w7.cell? ⟨ad.block, ad.off + 1, none⟩ = some (.slice A2 y.length c2) := hx1; have HS8 := Aside0.mk hST; have hcv1 := fun n_ => Kd.C_string (P := Try.prog) (A := A2) (c := c2) Try.underlying23 Try.underlying5 Try.underlying9 (Kd.C_drewN (show Kd.C (Kd.int .u8) w7 A2 y.length y from hx3) n_); have hcv2 := fun n_ => Kd.C_string (P := Try.prog) (A := A1) (c := c1) Try.underlying23 Try.underlying5 Try.underlying9 (Kd.C_drewN (Kd.C_below HYC.out (below_then HB2.out HB2.out.size (hST.below.mono (by first | exact Nat.le_refl _ | exact HB2.out.size)))) n_); clear hx0 hx1 hx2 hx3 hm hca hCa hST hS))
            go_quiet ((go_at_call 14; exact Calls.quiet_of_same (StOk.rest (HS8.out.drewN _))))
            go_wp2
            go_ret
            exact ⟨by simp, pw_below_drewN (below_then HB2.out HB2.out.size (HS8.out.below.mono (by first | exact Nat.le_refl _ | exact HB2.out.size))) _⟩
      · have h165 : (x2 == 165) = false := beq_eq_false_iff_ne.2 hz
        have hc0 : cc = x2 := by rw [HCC.out, if_neg hz]
        clear hz
        subst hc0
        go_wp2
        go_loopw [11] (fun i wr => ∃ n : Nat, i = .int .i64 n ∧ n ≤ 36 ∧ At2 w2.heap.size w2 wr g left cc n) (fun i _ => 36 - (intOf i).toNat)
        case atStart => exact ⟨0, rfl, by omega, ⟨by rw [List.replicate_zero, List.append_nil]; rw [all_wait HW.out]; exact HS.out⟩⟩
        case round =>
          obtain ⟨n, rfl, hn, hA⟩ := hrel
          have HS2 := Aside0.mk hA.out
          clear hA
          by_cases hlt : n < 36
          · obtain ⟨lf, hlf⟩ : ∃ lf, lf = (allL (left ++ List.replicate n cc)).2 := ⟨_, rfl⟩
            have hB : isB (left ++ List.replicate n cc) := isB_append HLEFT.out (fun x hx => by rw [List.eq_of_mem_replicate hx]; exact ⟨HC3.out.1, HC3.out.2.1⟩)
            have HS3 := HS2
            rw [← hlf] at HS3
            have HB5 := Aside0.mk (show isB (lf ++ [cc]) from isB_append (by rw [hlf]; exact rest_isB hB) (fun x hx => by rw [List.mem_singleton.1 hx]; exact ⟨HC3.out.1, HC3.out.2.1⟩))
            have HL5 := Aside0.mk (show lf.length + ([cc] : List Int).length ≤ 100000 by have := rest_small hB; rw [hlf]; simp only [List.length_cons, List.length_nil]; omega)
            have HLF := Aside0.mk hlf
            clear hlf hB
            go_wp2_with (first | ((with_reducible refine gate_dst (N := 46) rfl ?_); refine Kd.R_lit (Kd.int .u8) _ 5 ?hg (N := 46) ?hd (xs := ([cc] : List Int)) (inner := [.int .u8 cc]) (ok := fun _ => True) (okp := fun _ => True) ?hr ?hp (fun _ hk => hk) trivial (Below.refl _ _) (Nat.le_refl _) (by simp) ?_; (case hd => rfl); (case hg => rfl); (case hr => first | (go_simp; done) | (go_simp; rfl)); (case hp => exact (Reps.one (show Kd.M (Kd.int .u8) _ _ _ cc [.int .u8 cc] from rfl) (Reps.none _ _))); intro v46 w46 ho hb hg_ hnew_; clear hg_ hnew_; obtain ⟨Al, cl, el, hcl⟩ := v_reads ho; subst el; have HSl := Aside0.mk (HS3.out.step hb); have HRl := Aside0.mk (Kd.R_reads' ho).2.2; have HCl := Aside0.mk hcl; clear ho hb hcl) | ((with_reducible refine gate_callee (f := 13) rfl ?_); refine goesL_ (some 47) rfl rfl Try.func13 (by kernel_rfl) rfl #[.pointer (some ⟨g, 0, none⟩), .slice Al ([cc] : List Int).length cl] rfl (by (try simp only [List.map_toArray, List.map_cons, List.map_nil]); first | done | rfl) ?_; refine (StOk.take HSl.out HRl.out HCl.out HL5.out HB5.out).mono ?_; rintro e w5 ⟨v0, m, rfl, hm, hST, hS⟩; refine ⟨_, rfl, ?_⟩; have HS6 := Aside0.mk hST; clear hm hST hS))
            go_roundw
            case rel => exact ⟨n + 1, by go_num, by omega, ⟨by have h6 := HS6.out; rw [HLF.out, calm_step HLEFT.out ⟨HC3.out.1, HC3.out.2.1⟩] at h6; exact h6⟩⟩
            case measure => simp [intOf]; omega
          · have hn36 : n = 36 := by omega
            have HE := Aside0.mk (show StOk w2.heap.size w2 _ g [] from by have h6 := HS2.out; rw [hn36, calm_rest HLEFT.out ⟨HC3.out.1, HC3.out.2.1⟩ HC3.out.2.2] at h6; exact h6)
            clear HS2 hn36
            obtain ⟨y, hy⟩ : ∃ y, y = l1.take (min l1.length 32) := ⟨_, rfl⟩
            have hyl : y.length = min l1.length 32 := by rw [hy, List.length_take]; omega
            have hji : (if 32 < (l1.length : Int) then 32 else (l1.length : Int)) = ((y.length : Nat) : Int) := by rw [hyl]; split <;> omega
            obtain ⟨i0, hi0, _, hsz, _⟩ := info_parts info5
            have hcut := cut_to (P := Try.prog) 23 5 .i64 Try.underlying23 hi0 A1 l1.length c1 ((y.length : Nat) : Int) (by omega) (by omega) HC1.out
            rw [Int.toNat_natCast] at hcut
            have HYC := Aside0.mk (show Kd.C (Kd.int .u8) w A1 y.length y from by rw [hy]; exact Kd.C_take HR1.out (by omega))
            have HY1 := Aside0.mk (show y.length ≤ c1 from by have := HC1.out; omega)
            have HYB := Aside0.mk (show isB y from fun z hz => HL1.out z (by rw [hy] at hz; exact List.mem_of_mem_take hz))
            have HY32 := Aside0.mk (show y.length ≤ 32 by omega)
            have HWB := Aside0.mk (below_then HB2.out HB2.out.size (HE.out.below.mono (by first | exact Nat.le_refl _ | exact HB2.out.size)))
            have HPUT := Aside0.mk (show sidestickref06_Put.f 1000 y = some (frL y, 0) from by rw [refput_is HYB.out (by omega) (by omega), putL_is (by omega)])
            have HLF2 := Aside0.mk (show ([] : List Int).length + (frL y).length ≤ 100000 from by rw [frL_length]; simp only [List.length_nil]; omega)
            have HBF := Aside0.mk (show isB ([] ++ frL y) from frL_isB HYB.out (by omega))
            clear hy hyl hi0 hsz
            go_wp2_with (first | ((with_reducible refine gate_callee (f := 14) rfl ?_); refine goesL_ (some 49) rfl rfl Try.func14 (by kernel_rfl) rfl #[.pointer (some ⟨g, 0, none⟩)] rfl (by (try simp only [List.map_toArray, List.map_cons, List.map_nil]); first | done | rfl) ?_; refine (StOk.rest HE.out).mono ?_; rintro e w5 ⟨rfl, rfl⟩; refine ⟨_, rfl, ?_⟩) | ((with_reducible refine gate_callee (f := 9) rfl ?_); refine goesL_ (some 58) rfl rfl Try.func9 (by kernel_rfl) rfl #[.slice A1 y.length c1] rfl (by (try simp only [List.map_toArray, List.map_cons, List.map_nil]); first | done | rfl) ?_; refine (sidestickref06_Put.calls 1000 A1 c1 y (frL y) 0 _ (Kd.C_below HYC.out HWB.out) HY1.out HPUT.out).mono ?_; rintro e w6 ⟨vf, rfl, ho, hb⟩; refine ⟨_, rfl, ?_⟩; obtain ⟨Af, cf, ef, hcf⟩ := v_reads ho; subst ef; have HS7 := Aside0.mk (HE.out.step hb); have HWC := Aside0.mk (below_then HWB.out HWB.out.size hb); have HRf := Aside0.mk (Kd.R_reads' ho).2.2; have HCf := Aside0.mk hcf; clear ho hb hcf) | ((with_reducible refine gate_callee (f := 13) rfl ?_); refine goesL_ (some 63) rfl rfl Try.func13 (by kernel_rfl) rfl #[.pointer (some ⟨g, 0, none⟩), .slice Af (frL y).length cf] rfl (by (try simp only [List.map_toArray, List.map_cons, List.map_nil]); first | done | rfl) ?_; refine (StOk.take HS7.out HRf.out HCf.out HLF2.out HBF.out).mono ?_; rintro e w7 ⟨va, m, rfl, hm, hST, hS⟩; refine ⟨_, rfl, ?_⟩; rw [frame_all HYB.out HY32.out] at hST hS; obtain ⟨Aa, ca, ea, hca, hCa⟩ := Kd.S_reads hS; subst ea; obtain ⟨ad, A2, c2, ead, hx0, hx1, hx2, hx3⟩ := at_T31 hCa 0 (by decide) (show (0 : Int) < ((1 : Nat) : Int) from by decide); subst ead; have hx : w7.cell? ad = some (.int .i64 0) := hx0; have hxx : w7.cell? ⟨ad.block, ad.off + 1, none⟩ = some (.slice A2 y.length c2) := hx1; have HS8 := Aside0.mk hST; have hcv1 := fun n_ => Kd.C_string (P := Try.prog) (A := A2) (c := c2) Try.underlying23 Try.underlying5 Try.underlying9 (Kd.C_drewN (show Kd.C (Kd.int .u8) w7 A2 y.length y from hx3) n_); have hcv2 := fun n_ => Kd.C_string (P := Try.prog) (A := A1) (c := c1) Try.underlying23 Try.underlying5 Try.underlying9 (Kd.C_drewN (Kd.C_below HYC.out (below_then HB2.out HB2.out.size (hST.below.mono (by first | exact Nat.le_refl _ | exact HB2.out.size)))) n_); clear hx0 hx1 hx2 hx3 hm hca hCa hST hS))
            go_quiet ((go_at_call 14; exact Calls.quiet_of_same (StOk.rest (HS8.out.drewN _))))
            go_wp2
            go_ret
            exact ⟨by simp, pw_below_drewN (below_then HB2.out HB2.out.size (HS8.out.below.mono (by first | exact Nat.le_refl _ | exact HB2.out.size))) _⟩
end Go.Proofs.Ytjmpoiafcdphbab.PStreamFrames
