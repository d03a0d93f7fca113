/- Take, and the examples: walks of our own. -/
import Derived.Test.YtjmpoiafcdphbabQStreamFramesx3
import Derived.StillTailTactics
namespace Go.Proofs.Ytjmpoiafcdphbab.PStreamFrames
open Go.RowKit Go.Proofs.YtjmpoiafcdphbabW.PrintWords Go.Proofs.YtjmpoiafcdphbabW.PrintLast Go.Proofs.YtjmpoiafcdphbabW.PrintMore
attribute [local go_sem] max2_int min2_int max_two min_two max_three min_three max_four min_four   -- for this text's walks alone
set_option linter.unusedVariables false
set_option linter.unusedSimpArgs false

/-- What a call of Take leaves as it was. -/
structure TakeKeeps (w w' : World) (g : Nat) (row : Option Nat) : Prop where
  os : w'.os = w.os
  tape : w'.tape = w.tape
  output : w'.output = w.output
  size : w.heap.size ≤ w'.heap.size
  block : ∀ k, k < w.heap.size → k ≠ g → some k ≠ row → w'.heap[k]? = w.heap[k]?
theorem v_reads {w : World} {e base : Nat} {ok : Nat → Prop} {v : Value} {xs : List Int} (h : Kd.R (Kd.int .u8) e w base ok v xs) : ∃ A c, v = .slice A xs.length c ∧ xs.length ≤ c := by
  obtain ⟨A, c, rfl, hc, _⟩ := Kd.R_reads h
  exact ⟨A, c, rfl, hc⟩
set_option maxHeartbeats 8000000 in
set_option maxRecDepth 100000 in
theorem stream_New.told (w : World) :
    Calls Try.prog 12 #[] w fun e w' => ∃ g : Nat, e = .returned (.pointer (some ⟨g, 0, none⟩)) ∧ w.heap.size ≤ g ∧ w'.heap[g]? = some (.cells #[.slice none 0 0] 49 (0, 0)) ∧ Below w.heap.size w w' := by
  have hu49 := Try.underlying49
  go_enter Try.func12, Try.ntmps12
  go_wp2
  go_ret
  exact ⟨w.heap.size, rfl, Nat.le_refl _, blk_new _ _, below_alloc (Below.refl _ _) _⟩
theorem take_end {w w1 w3 w4 : World} {g t : Nat} {v vL v0 v2 : Value} {y : List Int} {items : List S31} {c0 : Value} (HGL : g < w.heap.size) (HNE : some g ≠ v.ownBlock) (HGR : w.grownBy w1 v.ownBlock)
    (HB3 : Below (w1.setCell ⟨g, 0, none⟩ vL).heap.size (w1.setCell ⟨g, 0, none⟩ vL) w3)
    (HS3 : Kd.S k31 31 w3 (w1.setCell ⟨g, 0, none⟩ vL).heap.size (fun k_ => (w1.setCell ⟨g, 0, none⟩ vL).heap.size ≤ k_) v0 items)
    (HB4 : Below (w3.drewN 1).heap.size (w3.drewN 1) w4) (HG4 : w4.heap[g]? = some (.cells #[c0] t (0, 0)))
    (HO4 : Kd.R (Kd.int .u8) 5 w4 (w3.drewN 1).heap.size (fun _ => True) v2 y) :
    w.heap.size ≤ w3.heap.size ∧ Kd.S k31 31 (w4.setCell ⟨g, 0, none⟩ v2) w.heap.size (fun k_ => w.heap.size ≤ k_ ∧ k_ < w3.heap.size) v0 items ∧
      (w4.setCell ⟨g, 0, none⟩ v2).heap[g]? = some (.cells #[v2] t (0, 0)) ∧ Kd.R (Kd.int .u8) 5 (w4.setCell ⟨g, 0, none⟩ v2) w3.heap.size (fun k_ => w3.heap.size ≤ k_) v2 y ∧
      TakeKeeps w (w4.setCell ⟨g, 0, none⟩ v2) g v.ownBlock := by
  have s1 : (w1.setCell ⟨g, 0, none⟩ vL).heap.size = w1.heap.size := by simp [World.setCell]
  have s4 : (w4.setCell ⟨g, 0, none⟩ v2).heap.size = w4.heap.size := by simp [World.setCell]
  have sd : (w3.drewN 1).heap.size = w3.heap.size := rfl
  have z1 := HGR.size
  have z3 := HB3.size
  have z4 := HB4.size
  rw [s1] at HS3 HB3 z3
  rw [sd] at HB4 HO4 z4
  have hw3 : w.heap.size ≤ w3.heap.size := by omega
  refine ⟨hw3, ?_, blk_set HG4 0 v2, ?_, ?_, ?_, ?_, ?_, ?_⟩
  · have h1 := Kd.S_below (Kd.S_drewN (Kd.S_bound HS3) 1) HB4
    have h2 := Kd.S_far (p := ⟨g, 0, none⟩) h1 (fun k hk => by have := hk.1; show k ≠ g; omega) v2
    exact Kd.S_lower (Kd.S_mono h2 (fun k hk => ⟨by have := hk.1; omega, hk.2.2.1⟩)) z1
  · have h1 := Kd.R_mono (ok' := fun k_ => w3.heap.size ≤ k_) (Kd.R_bound HO4) (fun k hk => hk.2.1)
    exact Kd.R_far (p := ⟨g, 0, none⟩) h1 (fun k hk => by show k ≠ g; omega) v2
  · exact HB4.os.trans (HB3.os.trans HGR.os)
  · exact HB4.tape.trans (HB3.tape.trans HGR.tape)
  · exact HB4.output.trans (HB3.output.trans HGR.output)
  · rw [s4]; omega
  · intro k hk hkg hkr
    rw [Below.heap_setCell w4 ⟨g, 0, none⟩ v2 k hkg]
    refine (HB4.block k (by omega)).trans ?_
    refine (HB3.block k (by omega)).trans ?_
    rw [Below.heap_setCell w1 ⟨g, 0, none⟩ vL k hkg]
    exact HGR.block k hk hkr
set_option maxHeartbeats 8000000 in
set_option maxRecDepth 100000 in
theorem stream_Take.told (k g : Nat) (v : Value) (left l1 : List Int) (A1 : Option Addr) (c1 : Nat) (items : List S31) (n : Int) (w : World)
    (hg : w.heap[g]? = some (.cells #[v] 49 (0, 0))) (hv : Kd.R (Kd.int .u8) 5 w 0 (fun k_ => k_ ≠ g) v left)
    (hr1 : Kd.C (Kd.int .u8) w A1 l1.length l1) (hc1 : l1.length ≤ c1) (hl : left.length + l1.length ≤ 1000000)
    (h : stream_All.f k (left ++ l1) = some (items, n)) (hn0 : 0 ≤ n) (hn1 : n ≤ ((left ++ l1).length : Nat)) :
    Calls Try.prog 13 #[.pointer (some ⟨g, 0, none⟩), .slice A1 l1.length c1] w fun e w' => ∃ (v0 v' : Value) (m : Nat), e = .returned v0 ∧ w.heap.size ≤ m ∧
      Kd.S k31 31 w' w.heap.size (fun k_ => w.heap.size ≤ k_ ∧ k_ < m) v0 items ∧ w'.heap[g]? = some (.cells #[v'] 49 (0, 0)) ∧
      Kd.R (Kd.int .u8) 5 w' m (fun k_ => m ≤ k_) v' ((left ++ l1).drop ((left ++ l1).length - n.toNat)) ∧ TakeKeeps w w' g v.ownBlock := by
  have hu49 := Try.underlying49
  have hglt : g < w.heap.size := blk_lt hg
  have hcell : w.cell? ⟨g, 0, none⟩ = some v := blk_cell hg 0
  have hne : some g ≠ v.ownBlock := fun e => hv.1 g e.symm rfl
  obtain ⟨q, rfl⟩ := Int.eq_ofNat_of_zero_le hn0
  obtain ⟨L, hL⟩ : ∃ L, L = left ++ l1 := ⟨_, rfl⟩
  rw [← hL] at h hn1 ⊢
  have hn2 : q ≤ L.length := by omega
  have hLl : L.length ≤ 1000000 := by rw [hL, List.length_append]; exact hl
  have HLL := Aside0.mk hL
  have HLN := Aside0.mk hLl
  have HN2 := Aside0.mk hn2
  clear hL hLl hn0 hn1 hn2
  have HG := Aside0.mk hg
  have HV := Aside0.mk hv
  have HR := Aside0.mk hr1
  have HA := Aside0.mk h
  have HL := Aside0.mk hl
  have HC := Aside0.mk hc1
  have HNE := Aside0.mk hne
  have HGL := Aside0.mk hglt
  clear hg hv hr1 h hl hc1 hne hglt
  go_enter Try.func13, Try.ntmps13
  go_wp2_with (first | (((with_reducible refine gate_builtin (b := .append) (xs := #[.tmp 11, .tmp 12]) rfl ?_); at_builtin; refine Kd.R_append_rows (Kd.int .u8) (w0 := w) 0 rfl (.tmp 11) (.tmp 12) 23 5 (.int .u8 0) 1 rfl Try.underlying23 info5 rfl (by decide) (by omega) v left l1 A1 l1.length c1 (fun k_ => k_ ≠ g) (fun _ => False) rfl rfl ?aO ?aR (fun _ _ h => h) (fun _ h => h.elim) ?aF ?aB ?aS ?aL ?_; (case aO => exact HV.out); (case aR => exact HR.out); (case aF => intro k_ hk; have := HGL.out; omega); (case aB => exact ⟨rfl, rfl, rfl, Nat.le_refl _, fun _ h => absurd h (Nat.not_lt_zero _)⟩); (case aS => exact Nat.zero_le _); (case aL => have := HL.out; omega); intro v1 w1 ho hb hgr hat; rw [← HLL.out] at ho; obtain ⟨Av, cv, ev, hcv⟩ := v_reads ho; subst ev; have HO1 := Aside0.mk ho; have HCV := Aside0.mk hcv; have HGR := Aside0.mk hgr; have hg1 := blk_grown HG.out hgr HNE.out; have hcell1 : w1.cell? ⟨g, 0, none⟩ = some v := blk_cell hg1 0; have hfr1 : w1.frozen? ⟨g, 0, none⟩ = false := blk_frozen hg1 0; have HG1 := Aside0.mk hg1; clear ho hb hgr hat hg1 hcv)) | ((with_reducible refine gate_callee (f := 10) rfl ?_); refine goesL_ (some 21) rfl rfl Try.func10 (by kernel_rfl) rfl #[.slice Av L.length cv] rfl (by (try simp only [List.map_toArray, List.map_cons, List.map_nil]); first | done | rfl) ?_; (with_reducible refine (stream_All.calls k (fun k_ => k_ ≠ g) _ _ L items (q : Int) _ ?side1 HA.out).mono ?_); (case side1 => exact Kd.R_V (Kd.R_far HO1.out (p := ⟨g, 0, none⟩) (fun _ hk => hk) _)); rintro e w3 ⟨v0, rfl, ho0, hb⟩; refine ⟨_, rfl, ?_⟩; have HO3 := Aside0.mk (Kd.R_below (Kd.R_far HO1.out (p := ⟨g, 0, none⟩) (fun _ hk => hk) (.slice Av L.length cv)) hb); have hg3 := blk_below (blk_set HG1.out 0 (.slice Av L.length cv)) hb; have hcell3 : w3.cell? ⟨g, 0, none⟩ = some (.slice Av L.length cv) := blk_cell hg3 0; have hfr3 : w3.frozen? ⟨g, 0, none⟩ = false := blk_frozen hg3 0; have HG3 := Aside0.mk hg3; have HS3 := Aside0.mk ho0; have HB3 := Aside0.mk hb; clear hcell1 hfr1 hcell ho0 hb hg3))
  obtain ⟨d, hd⟩ : ∃ d, d = L.length - q := ⟨_, rfl⟩
  have hdq : (L.length : Int) - (q : Int) = ((d : Nat) : Int) := by have := HN2.out; omega
  have hdl : d ≤ L.length := by omega
  have hw : IntKind.i64.wrap ((L.length : Int) - (q : Int)) = ((d : Nat) : Int) := by rw [hdq]; exact IntWalk.i64_in _ (by have := HLN.out; omega)
  obtain ⟨i0, hi0, _, hsz, _⟩ := info_parts info5
  have hcut := cut_from (P := Try.prog) 23 5 .i64 Try.underlying23 hi0 1 hsz Av L.length cv ((d : Nat) : Int) (by omega) (by omega)
  rw [Int.toNat_natCast, Nat.mul_one] at hcut
  have hC := Kd.C_drop (Kd.R_reads' HO3.out).2.2 hdl HCV.out
  obtain ⟨y, hy⟩ : ∃ y, y = L.drop d := ⟨_, rfl⟩
  have hyl : L.length - d = y.length := by rw [hy, List.length_drop]
  have hyc : y.length ≤ cv - d := by have := HCV.out; omega
  have hsz1 : (Kd.int .u8).sz = 1 := rfl
  rw [← hy, hsz1, Nat.mul_one] at hC
  rw [hyl] at hcut
  obtain ⟨Ad, hAd⟩ : ∃ A, A = (if cv = d then Av else Av.map (·.add d)) := ⟨_, rfl⟩
  obtain ⟨cd, hcd⟩ : ∃ c, c = cv - d := ⟨_, rfl⟩
  rw [← hAd] at hcut hC
  rw [← hcd] at hcut hyc
  have hr : slices_Clone_byte_byte.f y = some y := by
    unfold slices_Clone_byte_byte.f
    rw [Option.bind_some, if_pos (by have := HLN.out; rw [List.length_nil]; omega), List.nil_append]
  have HY := Aside0.mk hy
  have HYC := Aside0.mk hyc
  have HCD := Aside0.mk hC
  have HRR := Aside0.mk hr
  have HD := Aside0.mk hd
  clear hd hdl hdq hsz hi0 hsz1 hyl hyc hAd hcd hC hr hy
  go_region_with (go_at_call 18; refine (slices_Clone_byte_byte.calls _ _ y y _ (Kd.C_drewN HCD.out _) HYC.out HRR.out).mono ?_; rintro e w4 ⟨v2, rfl, ho, hb⟩; obtain ⟨A2, c2, e2, hc2⟩ := v_reads ho; subst e2; clear hc2; have hg4 := (hb.block g (blk_lt HG3.out)).trans HG3.out; have hcell4 : w4.cell? ⟨g, 0, none⟩ = some (.slice Av L.length cv) := blk_cell hg4 0; have hfr4 : w4.frozen? ⟨g, 0, none⟩ = false := blk_frozen hg4 0; have HG4 := Aside0.mk hg4; have HO4 := Aside0.mk ho; have HB4 := Aside0.mk hb; clear hg4 ho hb)
  all_goals
    go_wp2
    go_ret
    obtain ⟨e1, e2, e3, e4, e5⟩ := take_end HGL.out HNE.out HGR.out HB3.out HS3.out HB4.out HG4.out HO4.out
    have ey : L.drop (L.length - ((q : Nat) : Int).toNat) = y := by rw [HY.out, HD.out, Int.toNat_natCast]
    rw [ey]
    exact ⟨v0, _, _, rfl, e1, e2, e3, e4, e5⟩
theorem below_take {B : Nat} {w w1 w2 : World} {g : Nat} {row : Option Nat} (h : Below B w w1) (hB : B ≤ w1.heap.size) (k : TakeKeeps w1 w2 g row) (hg : B ≤ g) (hr : ∀ k, row = some k → B ≤ k) : Below B w w2 :=
  ⟨k.os.trans h.os, k.tape.trans h.tape, k.output.trans h.output, Nat.le_trans h.size k.size, fun i hi => (k.block i (by omega) (by omega) (fun e => by have := hr i e.symm; omega)).trans (h.block i hi)⟩
set_option maxHeartbeats 8000000 in
set_option maxRecDepth 100000 in
theorem stream_Rest.told (g : Nat) (A : Option Addr) (n c t : Nat) (w : World) (hg : w.heap[g]? = some (.cells #[.slice A n c] t (0, 0))) :
    Calls Try.prog 14 #[.pointer (some ⟨g, 0, none⟩)] w fun e w' => e = .returned (.int .i64 n) ∧ w' = w := by
  have hu49 := Try.underlying49
  have hcell : w.cell? ⟨g, 0, none⟩ = some (.slice A n c) := blk_cell hg 0
  clear hg
  go_enter Try.func14, Try.ntmps14
  go_wp2
  go_ret
  exact ⟨rfl, rfl⟩
def sidesticklaw07_shown.f : Option Bool := some (((([7] : List Int)).length : Int) == 1)
theorem all_a : stream_All.f 10 ([] ++ [7, 165]) = some ([], 1) := by rfl
theorem all_b : stream_All.f 10 ([165] ++ [2, 165]) = some ([⟨10, []⟩], 1) := by rfl
set_option maxHeartbeats 8000000 in
set_option maxRecDepth 100000 in
theorem sidesticklaw07_shown.calls (r : Bool) (w : World) (h : sidesticklaw07_shown.f = some r) :
    Calls Try.prog 7 #[] w fun e w' => e = .returned (.bool r) ∧ Below w.heap.size w w' := by
  obtain rfl : true = r := Option.some.inj h
  clear h
  go_enter Try.func7, Try.ntmps7
  go_wp2_with (first | ((with_reducible refine gate_callee (f := 12) rfl ?_); refine goesL_ (some 4) rfl rfl Try.func12 (by kernel_rfl) rfl #[] rfl (by (try simp only [List.map_toArray, List.map_cons, List.map_nil]); first | done | rfl) ?_; refine (stream_New.told _).mono ?_; rintro e w1 ⟨g, rfl, hge, hg, hb⟩; refine ⟨_, rfl, ?_⟩; have HG1 := Aside0.mk hg; have HGE := Aside0.mk hge; have HB1 := Aside0.mk hb; clear hg hge hb) | ((with_reducible refine gate_dst (N := 8) rfl ?_); refine Kd.R_lit (Kd.int .u8) _ 5 ?hg (N := 8) ?hd (xs := ([7, 165] : List Int)) (inner := [.int .u8 7, .int .u8 165]) (ok := fun _ => True) (okp := fun _ => True) ?hr ?hp (fun _ hk => hk) trivial (Below.refl _ _) (Nat.le_refl _) (by simp) ?_; (case hd => rfl); (case hg => rfl); (case hr => first | (go_simp; done) | (go_simp; rfl)); (case hp => exact (Reps.one (show Kd.M (Kd.int .u8) _ _ _ 7 [.int .u8 7] from rfl) (Reps.one (show Kd.M (Kd.int .u8) _ _ _ 165 [.int .u8 165] from rfl) (Reps.none _ _)))); intro v1 wl1 ho hb hg_ hnew_; clear hg_ hnew_; obtain ⟨Al1, cl1, el1, hcl⟩ := v_reads ho; subst el1; have HGl1 := Aside0.mk (blk_below HG1.out hb); have HRl1 := Aside0.mk (Kd.R_reads' ho).2.2; have HCl1 := Aside0.mk hcl; have HBl1 := Aside0.mk hb; clear ho hb hcl) | ((with_reducible refine gate_callee (f := 13) rfl ?_); refine goesL_ (some 9) rfl rfl Try.func13 (by kernel_rfl) rfl #[.pointer (some ⟨g, 0, none⟩), .slice Al1 ([7, 165] : List Int).length cl1] rfl (by (try simp only [List.map_toArray, List.map_cons, List.map_nil]); first | done | rfl) ?_; refine (stream_Take.told 10 g (.slice none 0 0) [] [7, 165] Al1 cl1 [] 1 _ HGl1.out (Kd.R_nil _ _ _ _ _) HRl1.out HCl1.out (by decide) all_a (by decide) (by decide)).mono ?_; rintro e w2 ⟨v0, v1, m1, rfl, hm, hS, hg, hR, hK⟩; refine ⟨_, rfl, ?_⟩; obtain ⟨As1, cs1, es1⟩ := Kd.S_slice hS; subst es1; have HG2 := Aside0.mk hg; have HR2 := Aside0.mk (Kd.R_mono hR (fun k_ hk => show k_ ≠ g from by have := blk_lt HGl1.out; omega)); have HM1 := Aside0.mk hm; have HK2 := Aside0.mk hK; clear hm hS hg hR hK) | ((with_reducible refine gate_dst (N := 11) rfl ?_); refine Kd.R_lit (Kd.int .u8) _ 5 ?hg (N := 11) ?hd (xs := ([2, 165] : List Int)) (inner := [.int .u8 2, .int .u8 165]) (ok := fun _ => True) (okp := fun _ => True) ?hr ?hp (fun _ hk => hk) trivial (Below.refl _ _) (Nat.le_refl _) (by simp) ?_; (case hd => rfl); (case hg => rfl); (case hr => first | (go_simp; done) | (go_simp; rfl)); (case hp => exact (Reps.one (show Kd.M (Kd.int .u8) _ _ _ 2 [.int .u8 2] from rfl) (Reps.one (show Kd.M (Kd.int .u8) _ _ _ 165 [.int .u8 165] from rfl) (Reps.none _ _)))); intro v2 wl2 ho hb hg_ hnew_; clear hg_ hnew_; obtain ⟨Al2, cl2, el2, hcl⟩ := v_reads ho; subst el2; have HGl2 := Aside0.mk (blk_below HG2.out hb); have HRl2 := Aside0.mk (Kd.R_reads' ho).2.2; have HCl2 := Aside0.mk hcl; have HBl2 := Aside0.mk hb; have HOl2 := Aside0.mk (Kd.R_below HR2.out hb); clear ho hb hcl) | ((with_reducible refine gate_callee (f := 13) rfl ?_); refine goesL_ (some 12) rfl rfl Try.func13 (by kernel_rfl) rfl #[.pointer (some ⟨g, 0, none⟩), .slice Al2 ([2, 165] : List Int).length cl2] rfl (by (try simp only [List.map_toArray, List.map_cons, List.map_nil]); first | done | rfl) ?_; refine (stream_Take.told 10 g v1 [165] [2, 165] Al2 cl2 [⟨10, []⟩] 1 _ HGl2.out (Kd.R_lower HOl2.out (Nat.zero_le _)) HRl2.out HCl2.out (by decide) all_b (by decide) (by decide)).mono ?_; rintro e w3 ⟨v2, v3, m2, rfl, hm, hS, hg, hR, hK⟩; refine ⟨_, rfl, ?_⟩; obtain ⟨As2, cs2, es2, hcs2, hC2⟩ := Kd.S_reads hS; subst es2; obtain ⟨Ar, cr, er, hcr⟩ := v_reads hR; subst er; have HG3 := Aside0.mk hg; have HK3 := Aside0.mk hK; obtain ⟨ad, A1, c1, ead, hx0, hx1, hx2, hx3⟩ := at_T31 hC2 0 (by decide) (by decide); subst ead; have hx : w3.cell? ad = some (.int .i64 10) := hx0; clear hx0; clear hm hS hg hR hK hcs2 hC2 hx1 hx2 hx3 hcr) | (go_at_call 14; refine (stream_Rest.told g _ _ _ 49 _ HG3.out).mono ?_; rintro e w4 ⟨rfl, rfl⟩))
  go_ret
  have z1 := HB1.out.size
  have zl1 := HBl1.out.size
  have z2 := HK2.out.size
  have b1 := below_then HB1.out z1 HBl1.out
  have b2 := below_take b1 (by omega) HK2.out HGE.out (fun k hk => by simp [Value.ownBlock] at hk)
  have b3 := below_then b2 (by omega) HBl2.out
  have b4 := below_take b3 (by have := HBl2.out.size; omega) HK3.out HGE.out (fun k hk => by have := Kd.R_base HR2.out k hk; have := HM1.out; omega)
  exact ⟨rfl, b4⟩

end Go.Proofs.Ytjmpoiafcdphbab.PStreamFrames
