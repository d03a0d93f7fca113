/- CrcApart: what shown and Step come to, told to the executor. -/
import Derived.Test.YtjmpoiafcdphbaaRows
import Derived.Test.YtjmpoiafcdphbaaSx21
import Derived.Test.YtjmpoiafcdphbaaCrcTellCrcApart
namespace Go.Proofs.Ytjmpoiafcdphbaa.Ca
open Go.RowKit Go.Proofs.YtjmpoiafcdphbaaSx Go.Proofs.Ytjmpoiafcdphbaa.Crc Go.Proofs.Ytjmpoiafcdphbaa.TellCrcApart Go.Proofs.YtjmpoiafcdphbaaW.PrintWords
set_option linter.unusedVariables false
def shownCon : List SV → Nat → Option (SV × Nat)
  | [], n => some (.bool (.lit true), n)
  | _, _ => none
/-- The sum behind number i (0, 1) and byte j (2, 3) is number 100 + 10 i + j. -/
def stepCon : List SV → Nat → Option (SV × Nat)
  | [.int .u16 (.var 0), .int .u8 (.var 2)], n => some (.int .u16 (.var 102), n)
  | [.int .u16 (.var 0), .int .u8 (.var 3)], n => some (.int .u16 (.var 103), n)
  | [.int .u16 (.var 1), .int .u8 (.var 2)], n => some (.int .u16 (.var 112), n)
  | _, _ => none
noncomputable def cx : Ctx := { P := Try.prog, ro := 0, glob := [], con := [(15, shownCon), (19, stepCon)] }
theorem shown_ok (ι : Env) : ConOk cx ι 15 shownCon := by
  intro args nxt v n hf hn β w _ _ _ _
  match args, hf with
  | [], hf =>
    have hf : some (SV.bool (.lit true), nxt) = some (v, n) := hf
    injection hf with hf
    injection hf with h1 h2
    subst h1
    subst h2
    refine (Go.Proofs.Ytjmpoiafcdphbaa.PCrcApart.sidesticklaw03_shown.calls 400 true w (shown_is (by omega))).mono ?_
    rintro e w' ⟨rfl, hb⟩
    exact ⟨β, Agree.refl _ _, fun _ _ => rfl, hb⟩
theorem step_one {ι : Env} {i j m nxt n : Nat} {v : SV} (hf : some (SV.int .u16 (.var m), nxt) = some (v, n)) (h0 : 0 ≤ ι.int i ∧ ι.int i ≤ 65535) (h1 : 0 ≤ ι.int j ∧ ι.int j ≤ 255) (hm : ι.int m = stepI (ι.int i) (ι.int j)) (β : Bt) (w : World) :
    Calls Try.prog 19 (SV.denL ι β [.int .u16 (.var i), .int .u8 (.var j)]).toArray w (fun e w' => ∃ β1, Agree nxt β β1 ∧ (∀ β', Agree n β1 β' → e = .returned (v.den ι β')) ∧ Below w.heap.size w w') := by
  injection hf with hf
  injection hf with e1 e2
  subst e1
  subst e2
  refine (Go.Proofs.Ytjmpoiafcdphbaa.PCrcApart.crc_Step.calls 400 _ _ _ w (step_is h0 h1 (by omega))).mono ?_
  rintro e w' ⟨rfl, hb⟩
  refine ⟨β, Agree.refl _ _, fun _ _ => ?_, hb.below⟩
  simp only [SV.den, e_var, hm]
theorem step_ok {ι : Env} (r0 : 0 ≤ ι.int 0 ∧ ι.int 0 ≤ 65535) (r1 : 0 ≤ ι.int 1 ∧ ι.int 1 ≤ 65535) (r2 : 0 ≤ ι.int 2 ∧ ι.int 2 ≤ 255) (r3 : 0 ≤ ι.int 3 ∧ ι.int 3 ≤ 255)
    (e1 : ι.int 102 = stepI (ι.int 0) (ι.int 2)) (e2 : ι.int 103 = stepI (ι.int 0) (ι.int 3)) (e3 : ι.int 112 = stepI (ι.int 1) (ι.int 2)) : ConOk cx ι 19 stepCon := by
  intro args nxt v n hf hn β w _ _ _ _
  unfold stepCon at hf
  split at hf
  · exact step_one hf r0 r2 e1 β w
  · exact step_one hf r0 r3 e2 β w
  · exact step_one hf r1 r2 e3 β w
  · cases hf
def svs : List SV := [.int .u16 (.var 0), .int .u16 (.var 1), .agg [.int .u8 (.var 2), .int .u8 (.var 3)]]
def tree : T SV := (.br
 (.beq (.eq (.var 102) (.var 112)) (.eq (.var 0) (.var 1)))
 (.leaf (.bool (.beq (.eq (.var 102) (.var 103)) (.eq (.var 2) (.var 3)))))
 (.leaf (.bool (.lit .false))))
theorem ran : ((execCall 30 20 cx 7 svs [] 0 []).bind fun x => .leaf x.1) = tree := by kernel_rfl
/-- The numbers behind the input's. -/
def ext (a b c d : Int) : Env := { ext0 with int := fun n => match n with | 102 => stepI a c | 103 => stepI a d | 112 => stepI b c | _ => 0 }
theorem stepI_inj {a b c : Int} (ha : 0 ≤ a ∧ a ≤ 65535) (hb : 0 ≤ b ∧ b ≤ 65535) (h : stepI a c = stepI b c) : a = b := by
  have h1 : stB (BitVec.ofInt 16 a) c = stB (BitVec.ofInt 16 b) c := BitVec.eq_of_toNat_eq (by unfold stepI at h; omega)
  have h2 := stB_inj h1
  have h3 := nat_u16 ha.1 ha.2
  have h4 := nat_u16 hb.1 hb.2
  rw [h2] at h3
  omega
theorem stepI_byte {a c d : Int} (hc : 0 ≤ c ∧ c ≤ 255) (hd : 0 ≤ d ∧ d ≤ 255) (h : stepI a c = stepI a d) : c = d :=
  stB_byte (s := BitVec.ofInt 16 a) hc hd (BitVec.eq_of_toNat_eq (by unfold stepI at h; omega))
theorem pure {ι : Env} (r0 : 0 ≤ ι.int 0 ∧ ι.int 0 ≤ 65535) (r1 : 0 ≤ ι.int 1 ∧ ι.int 1 ≤ 65535) (r2 : 0 ≤ ι.int 2 ∧ ι.int 2 ≤ 255) (r3 : 0 ≤ ι.int 3 ∧ ι.int 3 ≤ 255)
    (e1 : ι.int 102 = stepI (ι.int 0) (ι.int 2)) (e2 : ι.int 103 = stepI (ι.int 0) (ι.int 3)) (e3 : ι.int 112 = stepI (ι.int 1) (ι.int 2)) : okT ι tree := by
  have i1 : stepI (ι.int 0) (ι.int 2) = stepI (ι.int 1) (ι.int 2) ↔ ι.int 0 = ι.int 1 := ⟨stepI_inj r0 r1, fun h => by rw [h]⟩
  have i2 : stepI (ι.int 0) (ι.int 2) = stepI (ι.int 0) (ι.int 3) ↔ ι.int 2 = ι.int 3 := ⟨stepI_byte r2 r3, fun h => by rw [h]⟩
  simp only [tree, okT, b_false, b_eq, b_beq, e_var, e1, e2, e3, i1, i2]
  simp
end Go.Proofs.Ytjmpoiafcdphbaa.Ca
