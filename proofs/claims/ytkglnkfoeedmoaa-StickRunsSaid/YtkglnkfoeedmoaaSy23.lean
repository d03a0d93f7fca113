/- A function's loops, taken out; what a round comes to, looked at where it matters. -/
import Derived.Test.YtkglnkfoeedmoaaSy22
namespace Go.Proofs.YtkglnkfoeedmoaaSy
open Go.RowKit
set_option linter.unusedVariables false
set_option linter.unusedSimpArgs false
noncomputable def codeOf (P : Program) (f : Nat) : Code := match P.funcs[f]? with | some fn => (match fn.body with | some c => c | none => .skip) | none => .skip
noncomputable def loopsAt (P : Program) (f r : Nat) : List Code := (loopsOf (codeOf P f)).filter fun x => Nat.beq (firstRid x) r
noncomputable def loopAt (P : Program) (f r : Nat) : Code := (loopsAt P f r).headD .skip
theorem loopAt_eq {P : Program} {f r : Nat} (h1 : (loopsAt P f r).length = 1) {fn : Func} {code x : Code} (hfn : P.funcs[f]? = some fn) (hc : fn.body = some code) (hx : x ∈ loopsOf code) (hr : firstRid x = r) : x = loopAt P f r := by
  have e : codeOf P f = code := by unfold codeOf; rw [hfn]; simp only [hc]
  have hm : x ∈ loopsAt P f r := by
    unfold loopsAt
    rw [e, List.mem_filter]
    exact ⟨hx, by rw [hr]; simp⟩
  unfold loopAt
  match hl : loopsAt P f r, h1 with
  | [y], _ =>
    rw [hl] at hm
    simpa using hm
abbrev Prj := Exit × (List (Option SV) × List (Option (List SV)))
noncomputable def prjL {α β : Type} (f : α → β) (l : List α) : List β := List.rec (motive := fun _ => List β) [] (fun x _ ih => f x :: ih) l
noncomputable def proj (nt : Nat) (ls bs : List Nat) (t : T (Exit × St)) : T Prj :=
  t.bind fun x => T.chk (lenB x.2.tmps nt) (.leaf (x.1, prjL (nthSV x.2.tmps) ls, prjL (fun b => mget b x.2.mem) bs))
theorem proj_pick {ι : Env} {nt : Nat} {ls bs : List Nat} {t : T (Exit × St)} {e : Exit} {vs : List (Option SV)} {ms : List (Option (List SV))} (h : (proj nt ls bs t).pick ι = some (e, vs, ms)) :
    ∃ s', t.pick ι = some (e, s') ∧ s'.tmps.length = nt ∧ prjL (nthSV s'.tmps) ls = vs ∧ prjL (fun b => mget b s'.mem) bs = ms := by
  obtain ⟨⟨e', s'⟩, h1, h2⟩ := (pick_bind _ _ _).1 h
  obtain ⟨h3, h4⟩ := pick_chk h2
  have h4 : some (e', prjL (nthSV s'.tmps) ls, prjL (fun b => mget b s'.mem) bs) = some (e, vs, ms) := h4
  injection h4 with h4; injection h4 with e1 h4; injection h4 with e2 e3
  subst e1
  exact ⟨s', h1, lenB_eq h3, e2, e3⟩
/-- The rounds of a function's loop, as the executor has them. -/
theorem hyp_loop {c : Ctx} {ι : Env} {f r : Nat} {F : LoopF} (hlps : c.lps = [((f, r), F)]) (h1 : (loopsAt c.P f r).length = 1) (h : ∀ w0 X, CodeOk { c with ro := 0 } w0 X ι (.loop (loopAt c.P f r)) F) :
    ∀ f' r' F', lpOf f' r' c.lps = some F' → ∀ fn code, c.P.funcs[f']? = some fn → fn.body = some code → ∀ x ∈ loopsOf code, firstRid x = r' → ∀ w0 X, CodeOk { c with ro := 0 } w0 X ι (.loop x) F' := by
  intro f' r' F' hF fn code hfn hc x hx hr w0 X
  rw [hlps] at hF
  have hF : (Bool.rec none (Bool.rec none (some F) (Nat.beq r r')) (Nat.beq f f') : Option LoopF) = some F' := hF
  cases hb : Nat.beq f f' with
  | false => rw [hb] at hF; cases hF
  | true =>
    rw [hb] at hF
    have hF : (Bool.rec none (some F) (Nat.beq r r') : Option LoopF) = some F' := hF
    cases hb2 : Nat.beq r r' with
    | false => rw [hb2] at hF; cases hF
    | true =>
      rw [hb2] at hF
      have hF3 : F = F' := Option.some.inj hF
      have ef := Nat.eq_of_beq_eq_true hb
      have er := Nat.eq_of_beq_eq_true hb2
      subst ef; subst er
      rw [← hF3, loopAt_eq h1 hfn hc hx hr]
      exact h w0 X
theorem AbsM.ctx {c c1 : Ctx} {w0 : World} {X : Nat → Prop} {ι : Env} {β : Bt} {mem : Mem} {nxt : Nat} {w : World} (h : AbsM c w0 X ι β mem nxt w) (h1 : c.ro = c1.ro) (h2 : c.glob = c1.glob) (h3 : c.base = c1.base) (h4 : c.bw = c1.bw) : AbsM c1 w0 X ι β mem nxt w := by
  refine ⟨h.blocks, h.inj, h.nodup, h.lt, ?_, ?_, h.fr, ?_⟩
  · rw [← h1]; exact h.wr
  · rw [← h2]; exact h.glob
  · rw [← h3, ← h4]; exact h.base
/-- The executor's rounds are so, loops within them unrolled: reckoned without what is told of other functions and loops. -/
theorem round_ok {c c1 : Ctx} {ι : Env} {n d cur : Nat} {B : Code} (hm : c.P.follows .mixedOrders = true) (hc : c.con = []) (hl : c.lps = []) (hR : RowsOk c ι) (h0 : c.P = c1.P) (h1 : c.ro = c1.ro) (h2 : c.glob = c1.glob) (h3 : c.base = c1.base) (h4 : c.bw = c1.bw) (w0 : World) (X : Nat → Prop) :
    CodeOk c1 w0 X ι B (execCode (execCall n d) c n cur B) := by
  have H : Hyp c ι := ⟨hm, fun g f h => (by rw [hc] at h; cases h), hR, lps_nil hl⟩
  intro s e s' β a w hp hT hM
  have := execCode_ok (c := c) (w0 := w0) (X := X) (execCall_ok n d) H n cur B (fun x _ F hF => by unfold lpAt at hF; rw [hl] at hF; split at hF <;> cases hF) s e s' β a w hp hT (fun β' hb => (hM β' hb).ctx h1.symm h2.symm h3.symm h4.symm)
  rw [← h0]
  refine Code.wp_mono (fun e' a' w' ⟨g1, g2, β1, g3, g4, g5⟩ => ⟨g1, g2, β1, g3, g4, fun β' hb => (g5 β' hb).ctx h1 h2 h3 h4⟩) this
end Go.Proofs.YtkglnkfoeedmoaaSy
