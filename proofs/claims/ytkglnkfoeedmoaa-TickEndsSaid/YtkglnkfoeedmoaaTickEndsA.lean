/- TickEnds: its loop, as it is told of: at the head of round i the timer stands at i. -/
import Derived.Test.YtkglnkfoeedmoaaRows
import Derived.Test.YtkglnkfoeedmoaaSy23
namespace Go.Proofs.Ytkglnkfoeedmoaa.Te
open Go.RowKit Go.Proofs.YtkglnkfoeedmoaaSy
set_option linter.unusedVariables false
set_option linter.unusedSimpArgs false
def mo : E := .wrap .i64 (.bin .and .u16 (.var 0) (.lit 1023))
def L : LoopSpec where
  nt := 45
  nxt := 1
  live := [(3, .bool (.lit true)), (4, .int .i64 mo), (5, .ptr 0 0), (6, .int .i64 (.lit 0))]
  mem := [(0, [.int .i64 (.lit 0), .int .i64 (.mx mo (.lit 0))])]
  head := (List.range 45).map fun i => match i with | 3 => SV.bool (.lit true) | 4 => .int .i64 (.var 70) | 5 => .ptr 0 0 | 6 => .int .i64 (.var 71) | i => .any (1 + i)
  headM := [(0, [.int .i64 (.var 71), .int .i64 (.var 70)])]
  headA := []
  out := (List.range 45).map fun i => match i with | 3 => SV.bool (.lit true) | 4 => .int .i64 mo | 5 => .ptr 0 0 | i => .any (1 + i)
  outM := [(0, [.int .i64 mo, .int .i64 mo])]
  outA := []
  ex := .exit 0
theorem fine : L.fine = true := by kernel_rfl
noncomputable def c0 : Ctx := { P := Try.prog, ro := 0, glob := [] }
noncomputable def fB : St → T (Exit × St) := execCode (execCall 30 19) c0 30 3 (loopAt Try.prog 3 5)
noncomputable def round : T Prj := proj 45 [3, 4, 5, 6] [0] (fB (headSt L))
noncomputable def cx : Ctx := { P := Try.prog, ro := 0, glob := [], lps := [((3, 5), loopF L)] }
def svs : List SV := [.int .u16 (.var 0)]
theorem one_loop : (loopsAt Try.prog 3 5).length = 1 := by kernel_rfl
def roundT : T Prj := (.br
 (.lt (.var 71) (.var 70))
 (.leaf (.normal, ([(.some (.bool (.lit .true))), (.some (.int .i64 (.var 70))), (.some (.ptr 0 0)), (.some (.int .i64 (.bin .add .i64 (.var 71) (.lit 1))))], [(.some [(.int .i64 (.bin .add .i64 (.var 71) (.lit 1))), (.int .i64 (.var 70))])])))
 (.leaf ((.exit 0), ([(.some (.bool (.lit .true))), (.some (.int .i64 (.var 70))), (.some (.ptr 0 0)), (.some (.int .i64 (.var 71)))], [(.some [(.int .i64 (.var 71)), (.int .i64 (.var 70))])]))))
theorem round_is : round = roundT := by kernel_rfl
def tree : T SV := (.leaf (.bool (.eq (.wrap .i64 (.bin .and .u16 (.var 0) (.lit 1023))) (.wrap .i64 (.bin .and .u16 (.var 0) (.lit 1023))))))
theorem ran : ((execCall 30 20 cx 3 svs [] 0 []).bind fun x => .leaf x.1) = tree := by kernel_rfl
theorem head_get {i : Nat} {v : SV} (h : L.head[i]? = some v) (hn : ∀ n, v ≠ SV.any n) :
    (i = 3 ∧ v = .bool (.lit true)) ∨ (i = 4 ∧ v = .int .i64 (.var 70)) ∨ (i = 5 ∧ v = .ptr 0 0) ∨ (i = 6 ∧ v = .int .i64 (.var 71)) := by
  simp only [L, List.getElem?_map] at h
  have hi : i < 45 := by
    rcases Nat.lt_or_ge i 45 with h' | h'
    · exact h'
    · rw [List.getElem?_eq_none (by simpa using h')] at h; cases h
  rw [List.getElem?_range hi] at h
  simp only [Option.map_some, Option.some.injEq] at h
  split at h
  · exact .inl ⟨rfl, h.symm⟩
  · exact .inr (.inl ⟨rfl, h.symm⟩)
  · exact .inr (.inr (.inl ⟨rfl, h.symm⟩))
  · exact .inr (.inr (.inr ⟨rfl, h.symm⟩))
  · exact absurd h.symm (hn _)
theorem out_get {i : Nat} {v : SV} (h : L.out[i]? = some v) (hn : ∀ n, v ≠ SV.any n) :
    (i = 3 ∧ v = .bool (.lit true)) ∨ (i = 4 ∧ v = .int .i64 mo) ∨ (i = 5 ∧ v = .ptr 0 0) := by
  simp only [L, List.getElem?_map] at h
  have hi : i < 45 := by
    rcases Nat.lt_or_ge i 45 with h' | h'
    · exact h'
    · rw [List.getElem?_eq_none (by simpa using h')] at h; cases h
  rw [List.getElem?_range hi] at h
  simp only [Option.map_some, Option.some.injEq] at h
  split at h
  · exact .inl ⟨rfl, h.symm⟩
  · exact .inr (.inl ⟨rfl, h.symm⟩)
  · exact .inr (.inr ⟨rfl, h.symm⟩)
  · exact absurd h.symm (hn _)
theorem nth_get {s : List SV} {n : Nat} {o : Option SV} (h : nthSV s n = o) : s[n]? = o := by rw [← nthSV_eq]; exact h
/-- The names at the head of round i. -/
def atR (ι : Env) (M i : Nat) : Env := { ι with int := fun n => match n with | 70 => (M : Int) | 71 => (i : Int) | n => ι.int n }
theorem loop_ok {ι : Env} {M : Nat} (hm : Try.prog.follows .mixedOrders = true) (hM : mo.den ι = (M : Int)) (hl : M ≤ 1023) (w0 : World) (X : Nat → Prop) :
    CodeOk { cx with ro := 0 } w0 X ι (.loop (loopAt Try.prog 3 5)) (loopF L) := by
  refine loop_told (fB := fB) rfl fine (fun ι' => ∃ i, i ≤ M ∧ ι' = atR ι M i) (fun ι' => M - (ι'.int 71).toNat) ?_ ?_ ?_
  · rintro ι' ⟨i, _, rfl⟩
    exact round_ok (c := c0) (c1 := { cx with ro := 0 }) hm rfl rfl (rows_nil rfl) rfl rfl rfl rfl rfl w0 X
  · refine ⟨atR ι M 0, ⟨0, Nat.zero_le _, rfl⟩, AsmOk.nil, fun i v hv hna => ?_, fun b cs hb => ?_⟩
    · rcases head_get hv hna with ⟨rfl, rfl⟩ | ⟨rfl, rfl⟩ | ⟨rfl, rfl⟩ | ⟨rfl, rfl⟩
      · exact ⟨_, by simp [L]; rfl, fun _ => rfl⟩
      · refine ⟨.int .i64 mo, by simp [L], fun β => ?_⟩
        simp only [SV.den, hM]; rfl
      · exact ⟨_, by simp [L]; rfl, fun _ => rfl⟩
      · exact ⟨.int .i64 (.lit 0), by simp [L], fun _ => rfl⟩
    · simp only [L, List.mem_cons, Prod.mk.injEq, List.not_mem_nil, or_false] at hb
      obtain ⟨rfl, rfl⟩ := hb
      refine ⟨[.int .i64 (.lit 0), .int .i64 (.mx mo (.lit 0))], by simp [L], fun β => ?_⟩
      have e1 : (E.var 71).den (atR ι M 0) = 0 := rfl
      have e2 : (E.var 70).den (atR ι M 0) = (M : Int) := rfl
      simp only [SV.denL, SV.den, e1, e2, e_lit, e_mx, hM]
      rw [if_neg (by omega)]
  · rintro ι' ⟨i, hi, rfl⟩
    have v70 : (atR ι M i).int 70 = (M : Int) := rfl
    have v71 : (atR ι M i).int 71 = (i : Int) := rfl
    have hpick : (proj 45 [3, 4, 5, 6] [0] (fB (headSt L))).pick (atR ι M i) = roundT.pick (atR ι M i) := congrArg (T.pick (atR ι M i)) round_is
    have hlt : ((B.lt (.var 71) (.var 70)).den (atR ι M i) = true) ↔ i < M := by
      rw [b_lt, e_var, e_var, v70, v71]; omega
    by_cases hiM : i < M
    · have hp := hpick
      simp only [roundT, T.pick] at hp
      rw [if_pos (hlt.2 hiM)] at hp
      obtain ⟨s', hs, hlen, hsl, hbl⟩ := proj_pick hp
      have hsl : [nthSV s'.tmps 3, nthSV s'.tmps 4, nthSV s'.tmps 5, nthSV s'.tmps 6] = _ := hsl
      simp only [List.cons.injEq, and_true] at hsl
      obtain ⟨g3, g4, g5, g6⟩ := hsl
      have hbl : [mget 0 s'.mem] = _ := hbl
      simp only [List.cons.injEq, and_true] at hbl
      have u71 : (E.bin .add .i64 (.var 71) (.lit 1)).den (atR ι M i) = (E.var 71).den (atR ι M (i + 1)) := by
        show IntKind.i64.wrap ((i : Int) + 1) = ((i + 1 : Nat) : Int)
        rw [IntKind.wrap_i64]; omega
      have u70 : (E.var 70).den (atR ι M i) = (E.var 70).den (atR ι M (i + 1)) := rfl
      refine ⟨.normal, s', hs, .inl ⟨rfl, atR ι M (i + 1), ⟨i + 1, hiM, rfl⟩, ?_, AsmOk.nil, ⟨hlen, fun j v hv hna => ?_, fun b cs hb => ?_⟩⟩⟩
      · show M - (((i + 1 : Nat) : Int)).toNat < M - ((i : Int)).toNat
        omega
      · rcases head_get hv hna with ⟨rfl, rfl⟩ | ⟨rfl, rfl⟩ | ⟨rfl, rfl⟩ | ⟨rfl, rfl⟩
        · exact ⟨_, nth_get g3, fun _ => rfl⟩
        · exact ⟨_, nth_get g4, fun _ => rfl⟩
        · exact ⟨_, nth_get g5, fun _ => rfl⟩
        · exact ⟨_, nth_get g6, fun β => by simp only [SV.den, u71]⟩
      · simp only [L, List.mem_cons, Prod.mk.injEq, List.not_mem_nil, or_false] at hb
        obtain ⟨rfl, rfl⟩ := hb
        exact ⟨_, mget_mem _ _ _ hbl, fun β => by simp only [SV.denL, SV.den, u71, u70]⟩
    · have hiN : i = M := by omega
      subst hiN
      have hp := hpick
      simp only [roundT, T.pick] at hp
      rw [if_neg (fun h => hiM (hlt.1 h))] at hp
      obtain ⟨s', hs, hlen, hsl, hbl⟩ := proj_pick hp
      have hsl : [nthSV s'.tmps 3, nthSV s'.tmps 4, nthSV s'.tmps 5, nthSV s'.tmps 6] = _ := hsl
      simp only [List.cons.injEq, and_true] at hsl
      obtain ⟨g3, g4, g5, g6⟩ := hsl
      have hbl : [mget 0 s'.mem] = _ := hbl
      simp only [List.cons.injEq, and_true] at hbl
      have u71 : (E.var 71).den (atR ι i i) = mo.den ι := by rw [hM]; rfl
      have u70 : (E.var 70).den (atR ι i i) = mo.den ι := by rw [hM]; rfl
      refine ⟨.exit 0, s', hs, .inr ⟨rfl, (by intro h; cases h), AsmOk.nil, ⟨hlen, fun j v hv hna => ?_, fun b cs hb => ?_⟩⟩⟩
      · rcases out_get hv hna with ⟨rfl, rfl⟩ | ⟨rfl, rfl⟩ | ⟨rfl, rfl⟩
        · exact ⟨_, nth_get g3, fun _ => rfl⟩
        · exact ⟨_, nth_get g4, fun β => by simp only [SV.den, u70]⟩
        · exact ⟨_, nth_get g5, fun _ => rfl⟩
      · simp only [L, List.mem_cons, Prod.mk.injEq, List.not_mem_nil, or_false] at hb
        obtain ⟨rfl, rfl⟩ := hb
        exact ⟨_, mget_mem _ _ _ hbl, fun β => by simp only [SV.denL, SV.den, u71, u70]⟩
end Go.Proofs.Ytkglnkfoeedmoaa.Te
