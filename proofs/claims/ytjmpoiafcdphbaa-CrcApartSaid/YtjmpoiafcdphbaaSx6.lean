/- The other operations that the executor knows do what it says. -/
import Derived.Test.YtjmpoiafcdphbaaSx5
namespace Go.Proofs.YtjmpoiafcdphbaaSx
set_option linter.unusedVariables false
set_option linter.unusedSimpArgs false
section
variable {c : Ctx} {w0 : World} {X : Nat → Prop} {ι : Env} {β : Bt} {mem : Mem} {nxt : Nat} {w : World} {s : List SV} {a : Act} {asm : Asm} {r : R}
variable {dst : Option Tmp} {type : TypeId} {pos : String} {after : Array Edge} {guard : Option (Nat × Bool)}

theorem opNilCheck_ok (hs : a.tmps.toList = SV.denL ι β s) {x : Operand} (h : (opNilCheck s x).pick ι = some r) :
    RunsTo ι β nxt w ((execOp a.eval ⟨dst, .nilCheck x, type, pos, after, guard⟩).run c.P w) r := by
  unfold opNilCheck at h
  obtain ⟨v, hv, h⟩ := pick_opt h
  have e := evalO_den hs hv
  cases v <;> first | (obtain rfl := pick_val h; simp only [execOp, e, SV.den, RunsTo]; rfl) | (cases h)

theorem opUn_ok (hs : a.tmps.toList = SV.denL ι β s) {op : UnOp} {t : TypeId} {x : Operand} (h : (opUn s op x).pick ι = some r) :
    RunsTo ι β nxt w ((execOp a.eval ⟨dst, .unOp op t x, type, pos, after, guard⟩).run c.P w) r := by
  unfold opUn at h
  obtain ⟨v, hv, h⟩ := pick_opt h
  have e := evalO_den hs hv
  unfold unSV at h
  split at h
  · obtain rfl := pick_val h
    simp only [execOp, e, SV.den, RunsTo, Op.unary, Op.intArith, Sem.run_bind, Sem.run_pure, Result.andThen_ok, mkBin_den, den2, E.den]
  · obtain rfl := pick_val h
    simp only [execOp, e, SV.den, RunsTo, Op.unary, intBits_xor, Sem.run_bind, Sem.run_pure, Result.andThen_ok, mkBin_den, den2, E.den]
  · obtain rfl := pick_val h
    simp only [execOp, e, SV.den, RunsTo, Op.unary, Sem.run_bind, Sem.run_pure, Result.andThen_ok, mkNot_den]
  · cases h

theorem opConvert_ok (hs : a.tmps.toList = SV.denL ι β s) {src dt : TypeId} {x : Operand} (h : (opConvert c s src dt x).pick ι = some r) :
    RunsTo ι β nxt w ((execOp a.eval ⟨dst, .convert src dt x, type, pos, after, guard⟩).run c.P w) r := by
  unfold opConvert at h
  obtain ⟨v, hv, h1⟩ := pick_opt h
  obtain ⟨d, hd, h2⟩ := pick_opt h1
  have e := evalO_den hs hv
  split at h2
  · rename_i k q en hk
    obtain rfl := pick_val h2
    have hk' : c.P.underlying dt = some (.int k) := by assumption
    have := run_convert_int (P := c.P) (w := w) src dt k (en.den ι) (by rw [hd]; rfl)
    simp only [execOp, e, SV.den, RunsTo, convert, Sem.run_bind, run_underlying hd, run_underlying hk', Result.andThen_ok, Conv.intToInt, Sem.run_pure, mkWrap_den]
  · cases h2

theorem opMakeFunc_ok (hs : a.tmps.toList = SV.denL ι β s) {fn : Fn} {first captured : Array Operand} (h : (opMakeFunc s fn first captured).pick ι = some r) :
    RunsTo ι β nxt w ((execOp a.eval ⟨dst, .makeFunc fn first captured, type, pos, after, guard⟩).run c.P w) r := by
  unfold opMakeFunc at h
  obtain ⟨x, hx, h1⟩ := pick_opt h
  obtain ⟨y, hy, h2⟩ := pick_opt h1
  obtain rfl := pick_val h2
  have ex := evalOs_den hs hx
  have ey := evalOs_den hs hy
  simp only [execOp, Instr.makeFunc, Sem.run_bind, Sem.run_pure, Result.andThen_ok, RunsTo, SV.den]
  congr 3
  · rw [← ex]; apply Array.toList_inj.1; simp
  · rw [← ey]; apply Array.toList_inj.1; simp

theorem run_fieldPlace {P : Program} {f : Field} {m b off : Nat} (hm : sizeT P f.type = some m) (h0 : m ≠ 0) : (fieldPlace ⟨b, off, none⟩ f).run P w = .ok ⟨b, off + f.offset, none⟩ w := by
  simp only [fieldPlace, Sem.run_bind, run_sizeOf hm, Result.andThen_ok, if_neg h0, Sem.run_pure]
  rw [Addr.add_lit]

theorem offX_add (ix : List (E × (Nat × Nat))) : ∀ (off k : Nat), offX ι (off + k) ix = offX ι off ix + k := by
  induction ix with
  | nil => intro off k; rfl
  | cons x ix ih =>
    intro off k
    obtain ⟨e, m, n⟩ := x
    simp only [offX]
    rw [← ih]; congr 1; omega
theorem offX_snoc (ix : List (E × (Nat × Nat))) (e : E) (m n : Nat) : ∀ (off : Nat), offX ι off (snocX ix (e, m, n)) = offX ι off ix + (e.den ι).toNat * m := by
  induction ix with
  | nil => intro off; rfl
  | cons x ix ih =>
    intro off
    obtain ⟨e', m', n'⟩ := x
    simp only [snocX, List.cons_append, offX]
    exact ih _

theorem row_at {n : Nat} {ks : List RK} {e : E} (hR : RowsOk c ι) (hk : rowOf n c.rows = some ks) (q1 : (mkLe (.lit 0) e).den ι = true) (q2 : (mkLt e (.slen n)).den ι = true) :
    ∃ b o, ι.sa n = some ⟨b, o, none⟩ ∧ 0 ≤ e.den ι ∧ e.den ι < (ι.sl n : Int) := by
  rw [mkLe_den, decide_eq_true_eq] at q1
  rw [mkLt_den, decide_eq_true_eq] at q2
  simp only [E.den] at q1 q2
  rcases hR n ks hk with h0 | ⟨b, o, ha, _, _⟩
  · omega
  · exact ⟨b, o, ha, q1, q2⟩
theorem opFieldAddr_ok (hs : a.tmps.toList = SV.denL ι β s) (hl : AsmOk ι asm) (hR : RowsOk c ι) {t : TypeId} {x : Operand} {f : Nat} (h : (opFieldAddr c asm s t x f).pick ι = some r) :
    RunsTo ι β nxt w ((execOp a.eval ⟨dst, .fieldAddr t x f, type, pos, after, guard⟩).run c.P w) r := by
  unfold opFieldAddr at h
  obtain ⟨v, hv, h1⟩ := pick_opt h
  have e := evalO_den hs hv
  split at h1
  · rename_i fs hfs
    obtain ⟨fd, hfd, h2⟩ := pick_opt h1
    obtain ⟨m, hm, h3⟩ := pick_opt h2
    obtain ⟨hm0, h4⟩ := pick_chk h3
    have hm0 : m ≠ 0 := by simpa using hm0
    have go : ∀ (b off : Nat), v.den ι β = .pointer (some ⟨b, off, none⟩) →
        (execOp a.eval ⟨dst, .fieldAddr t x f, type, pos, after, guard⟩).run c.P w = .ok (.value (.pointer (some ⟨b, off + fd.offset, none⟩))) w := by
      intro b off hp
      simp only [execOp, e, hp, Instr.fieldAt, Sem.run_bind, run_underlying hfs, Result.andThen_ok, hfd, Instr.sureAddr, Sem.run_pure, run_fieldPlace hm hm0]
    cases v <;> simp only at h4 <;> first | (obtain rfl := pick_val h4; rw [go _ _ rfl]; simp only [RunsTo, SV.den, offX_add]; done) | (cases h4; done) | skip
    rename_i n e' m' off
    obtain ⟨ks, hks, h5⟩ := pick_opt h4
    obtain ⟨hq, h6⟩ := pick_needs hl h5
    obtain rfl := pick_val h6
    obtain ⟨b, o, hsa, _, _⟩ := row_at hR hks (hq (mkLe (.lit 0) e') (by simp)) (hq (mkLt e' (.slen n)) (by simp))
    rw [go b (o + (e'.den ι).toNat * m' + off) (by simp only [SV.den, hsa, Option.map_some])]
    simp only [RunsTo, SV.den, hsa, Option.map_some, Nat.add_assoc]
  · cases h1

theorem opField_ok (hs : a.tmps.toList = SV.denL ι β s) {t : TypeId} {x : Operand} {f : Nat} (h : (opField c s t x f).pick ι = some r) :
    RunsTo ι β nxt w ((execOp a.eval ⟨dst, .field t x f, type, pos, after, guard⟩).run c.P w) r := by
  unfold opField at h
  obtain ⟨v, hv, h1⟩ := pick_opt h
  have e := evalO_den hs hv
  split at h1
  · rename_i fs cs hfs
    obtain ⟨fd, hfd, h2⟩ := pick_opt h1
    obtain ⟨u, hu, h3⟩ := pick_opt h2
    obtain rfl := pick_val h3
    have hfs' : c.P.underlying t = some (.struct fs) := by assumption
    simp only [execOp, e, SV.den, Instr.field, Sem.run_bind, run_underlying hfs', Result.andThen_ok, hfd, asAgg, Sem.run_pure, run_part hu, RunsTo]
  · cases h1

theorem atIx_ok {e : E} {n m : Nat} {v : SV} (hl : AsmOk ι asm) (h : (atIx asm e n m v).pick ι = some r) :
    0 ≤ e.den ι ∧ e.den ι < (n : Int) ∧ ∃ b off u, v.den ι β = .pointer (some ⟨b, off, none⟩) ∧ r = .val u ∧ u.den ι β = .pointer (some ⟨b, off + (e.den ι).toNat * m, none⟩) := by
  unfold atIx at h
  split at h
  · rename_i z
    obtain ⟨hz, h1⟩ := pick_chk h
    simp only [Bool.and_eq_true, decide_eq_true_eq] at hz
    refine ⟨hz.1, hz.2, ?_⟩
    split at h1
    · obtain rfl := pick_val h1; exact ⟨_, _, _, rfl, rfl, rfl⟩
    · obtain rfl := pick_val h1; exact ⟨_, _, _, rfl, rfl, rfl⟩
    · obtain rfl := pick_val h1
      refine ⟨_, _, _, rfl, rfl, ?_⟩
      simp only [SV.den, offX_add, E.den]
    · cases h1
  · obtain ⟨hq, h1⟩ := pick_needs hl h
    have q1 := hq (mkLe (.lit 0) e) (by simp)
    have q2 := hq (mkLt e (.lit n)) (by simp)
    rw [mkLe_den, decide_eq_true_eq] at q1
    rw [mkLt_den, decide_eq_true_eq] at q2
    refine ⟨q1, q2, ?_⟩
    split at h1
    · obtain rfl := pick_val h1; exact ⟨_, _, _, rfl, rfl, rfl⟩
    · obtain rfl := pick_val h1
      refine ⟨_, _, _, rfl, rfl, ?_⟩
      simp only [SV.den, offX_snoc]
    · cases h1

theorem addr_mul (b off i m : Nat) : (⟨b, off, none⟩ : Addr).add (i * m) = ⟨b, off + i * m, none⟩ := Addr.add_lit b off (i * m)

theorem opIndexAddr_ok (hs : a.tmps.toList = SV.denL ι β s) (hl : AsmOk ι asm) (hR : RowsOk c ι) {t : TypeId} {x ix : Operand} (h : (opIndexAddr c asm s t x ix).pick ι = some r) :
    RunsTo ι β nxt w ((execOp a.eval ⟨dst, .indexAddr t x ix, type, pos, after, guard⟩).run c.P w) r := by
  unfold opIndexAddr at h
  obtain ⟨v, hv, h1⟩ := pick_opt h
  obtain ⟨i, hi, h2⟩ := pick_opt h1
  have ev := evalO_den hs hv
  have ei := evalO_den hs hi
  cases i with
  | int k e =>
    simp only at h2
    split at h2
    · rename_i n el r e' m' off ht
      obtain ⟨m, hm, h3⟩ := pick_opt h2
      split at h3
      · rename_i z
        obtain ⟨hz, h4⟩ := pick_chk h3
        simp only [Bool.and_eq_true, decide_eq_true_eq] at hz
        obtain ⟨ks, hks, h5⟩ := pick_opt h4
        obtain ⟨hq, h6⟩ := pick_needs hl h5
        obtain rfl := pick_val h6
        obtain ⟨b, o, hsa, _, _⟩ := row_at hR hks (hq (mkLe (.lit 0) e') (by simp)) (hq (mkLt e' (.slen r)) (by simp))
        simp only [execOp, ev, ei, SV.den, hsa, Option.map_some, E.den, Instr.indexAt, Sem.run_bind, asIntOf, Sem.run_pure, Result.andThen_ok, run_underlying ht, Instr.sureAddr, RunsTo]
        rw [if_pos ⟨hz.1, hz.2⟩]
        simp only [Sem.run_bind, run_sizeOf hm, Result.andThen_ok, Sem.run_pure, addr_mul, Nat.add_assoc]
      · cases h3
    · rename_i n el ht _
      obtain ⟨m, hm, h3⟩ := pick_opt h2
      obtain ⟨l0, l1, b, off, u, hp, rfl, hu⟩ := atIx_ok (β := β) hl h3
      simp only [execOp, ev, ei, hp, SV.den, Instr.indexAt, Sem.run_bind, asIntOf, Sem.run_pure, Result.andThen_ok, run_underlying ht, Instr.sureAddr, RunsTo, hu]
      rw [if_pos ⟨l0, l1⟩]
      simp only [Sem.run_bind, run_sizeOf hm, Result.andThen_ok, Sem.run_pure, addr_mul]
    · rename_i el b off n cap ht
      obtain ⟨m, hm, h3⟩ := pick_opt h2
      obtain ⟨l0, l1, b', off', u, hp, rfl, hu⟩ := atIx_ok (β := β) hl h3
      simp only [SV.den, Value.pointer.injEq, Option.some.injEq, Addr.mk.injEq, and_true] at hp
      obtain ⟨rfl, rfl⟩ := hp
      simp only [execOp, ev, ei, SV.den, Instr.indexAt, Sem.run_bind, asIntOf, Sem.run_pure, Result.andThen_ok, run_underlying ht, RunsTo, hu]
      rw [if_pos ⟨l0, l1⟩]
      simp only [Sem.run_bind, run_sizeOf hm, Result.andThen_ok, Sem.run_pure, addr_mul]
    · rename_i el n ht
      obtain ⟨m, hm, h3⟩ := pick_opt h2
      obtain ⟨ks, hks, h4⟩ := pick_opt h3
      obtain ⟨_, h5⟩ := pick_chk h4
      obtain ⟨hq, h6⟩ := pick_needs hl h5
      obtain rfl := pick_val h6
      obtain ⟨b, o, hsa, l0, l1⟩ := row_at hR hks (hq (mkLe (.lit 0) e) (by simp)) (hq (mkLt e (.slen n)) (by simp))
      simp only [execOp, ev, ei, SV.den, hsa, Option.map_some, Instr.indexAt, Sem.run_bind, asIntOf, Sem.run_pure, Result.andThen_ok, run_underlying ht, RunsTo]
      rw [if_pos ⟨l0, l1⟩]
      simp only [Sem.run_bind, run_sizeOf hm, Result.andThen_ok, Sem.run_pure, addr_mul, Nat.add_zero]
    · cases h2
  | _ => cases h2

theorem opIndex_ok (hs : a.tmps.toList = SV.denL ι β s) (hl : AsmOk ι asm) {t : TypeId} {x ix : Operand} (h : (opIndex c asm s t x ix).pick ι = some r) :
    RunsTo ι β nxt w ((execOp a.eval ⟨dst, .index t x ix, type, pos, after, guard⟩).run c.P w) r := by
  unfold opIndex at h
  obtain ⟨v, hv, h1⟩ := pick_opt h
  obtain ⟨i, hi, h2⟩ := pick_opt h1
  have ev := evalO_den hs hv
  have ei := evalO_den hs hi
  split at h2
  · rename_i k e cs n el ht
    obtain ⟨m, hm, h3⟩ := pick_opt h2
    have go : ∀ u u' : SV, 0 ≤ e.den ι → e.den ι < (n : Int) → partSV c.P el cs ((e.den ι).toNat * m) = some u' → u.den ι β = u'.den ι β →
        (execOp a.eval ⟨dst, .index t x ix, type, pos, after, guard⟩).run c.P w = .ok (.value (u.den ι β)) w := by
      intro u u' l0 l1 hp hu
      simp only [execOp, ev, ei, SV.den, Instr.index, Sem.run_bind, asIntOf, Sem.run_pure, Result.andThen_ok, run_underlying ht]
      rw [if_pos ⟨l0, l1⟩]
      simp only [Sem.run_bind, run_sizeOf hm, Result.andThen_ok, run_part hp, hu]
    split at h3
    · rename_i z
      obtain ⟨hz, h4⟩ := pick_chk h3
      simp only [Bool.and_eq_true, decide_eq_true_eq] at hz
      obtain ⟨u, hu, h5⟩ := pick_opt h4
      obtain rfl := pick_val h5
      exact go u u hz.1 hz.2 hu rfl
    · obtain ⟨hq, h4⟩ := pick_needs hl h3
      have q1 := hq (mkLe (.lit 0) e) (by simp)
      have q2 := hq (mkLt e (.lit n)) (by simp)
      rw [mkLe_den, decide_eq_true_eq] at q1
      rw [mkLt_den, decide_eq_true_eq] at q2
      obtain ⟨u, hu, h5⟩ := pick_opt h4
      obtain rfl := pick_val h5
      have hin : InX ι [(e, m, n)] := by
        intro y hy
        have : y = (e, m, n) := by simpa using hy
        subst this; exact ⟨q1, q2⟩
      obtain ⟨u', hu', hd⟩ := selLoad_den [(e, m, n)] cs 0 u hu hin
      exact go u u' q1 q2 (by simpa [offX] using hu') (hd β)
  · cases h2

theorem opExtract_ok (hs : a.tmps.toList = SV.denL ι β s) {x : Operand} {i : Nat} (h : (opExtract s x i).pick ι = some r) :
    RunsTo ι β nxt w ((execOp a.eval ⟨dst, .extract x i, type, pos, after, guard⟩).run c.P w) r := by
  unfold opExtract at h
  obtain ⟨v, hv, h1⟩ := pick_opt h
  have e := evalO_den hs hv
  cases v with
  | tup vs =>
    simp only at h1
    obtain ⟨u, hu, h2⟩ := pick_opt h1
    obtain rfl := pick_val h2
    rw [nthSV_eq] at hu
    have : (SV.denL ι β vs).toArray[i]? = some (u.den ι β) := by simp [denL_get, hu]
    simp only [execOp, e, SV.den, Instr.extract, this, Sem.run_bind, Sem.run_pure, Result.andThen_ok, RunsTo]
  | _ => cases h1

theorem opCallV_ok (hs : a.tmps.toList = SV.denL ι β s) {f : Operand} {args : Array Operand} {ts : Array TypeId} (h : (opCallV c s f args).pick ι = some r) :
    ∃ g vs, r = .enter g vs ∧ RunsTo ι β nxt w ((execOp a.eval ⟨dst, .call ⟨.value f, args, ts⟩, type, pos, after, guard⟩).run c.P w) r := by
  unfold opCallV at h
  obtain ⟨v, hv, h1⟩ := pick_opt h
  obtain ⟨vs, hvs, h2⟩ := pick_opt h1
  have ev := evalO_den hs hv
  have evs := evalOs_den hs hvs
  split at h2
  · rename_i g first captured
    obtain ⟨hc, h3⟩ := pick_chk h2
    have h3 : some (R.enter g (first ++ vs ++ captured)) = some r := h3
    injection h3 with h3; subst h3
    refine ⟨g, _, rfl, ?_⟩
    unfold callable at hc
    split at hc
    · rename_i fn hfn
      simp only [Bool.and_eq_true, Bool.not_eq_true'] at hc
      have hb : fn.body.isNone = false := by
        cases hb : fn.body with
        | none => rw [hb] at hc; simp at hc
        | some x => rfl
      have e1 : args.map a.eval = (SV.denL ι β vs).toArray := by
        apply Array.toList_inj.1; simp [evs]
      simp only [execOp, Sem.run_bind, resolve, ev, SV.den, Deferred.ofValue, e1, Sem.run_pure, Result.andThen_ok, invoke, callFunc, run_program, hfn, hc.2, Bool.false_eq_true, if_false, hb, RunsTo]
      congr 2
      apply Array.toList_inj.1; simp [denL_append]
    · cases hc
  · cases h2

theorem opLen_ok (hs : a.tmps.toList = SV.denL ι β s) {args : Array Operand} {ts : Array TypeId} (h : (opLen c s args ts).pick ι = some r) :
    RunsTo ι β nxt w ((execOp a.eval ⟨dst, .call ⟨.builtin .len, args, ts⟩, type, pos, after, guard⟩).run c.P w) r := by
  unfold opLen at h
  obtain ⟨vs, hvs, h1⟩ := pick_opt h
  obtain ⟨t, ht, h2⟩ := pick_opt h1
  have evs := evalOs_den hs hvs
  split at h2
  · rename_i x
    obtain ⟨e, he, h3⟩ := pick_opt h2
    obtain rfl := pick_val h3
    have e1 : args.map a.eval = #[x.den ι β] := by
      apply Array.toList_inj.1; simp [evs, SV.denL]
    have key : (Builtin.len_ ts type #[x.den ι β]).run c.P w = .ok (.int .i64 (e.den ι)) w := by
      unfold lenSV at he
      unfold Builtin.len_
      have g0 : (#[x.den ι β] : Array Value)[0]? = some (x.den ι β) := rfl
      rw [ht, g0]
      split at he
      · cases he
        rename_i hd
        simp only [Sem.run_bind, run_underlying hd, Result.andThen_ok, Sem.run_pure, goInt, E.den]
      · cases he
        rename_i hd
        simp only [Sem.run_bind, run_underlying hd, Result.andThen_ok, Sem.run_pure, goInt, E.den, SV.den]
      · cases he
        rename_i hd
        simp only [Sem.run_bind, run_underlying hd, Result.andThen_ok, Sem.run_pure, goInt, E.den, SV.den]
        rfl
      · cases he
        rename_i hd
        simp only [Sem.run_bind, run_underlying hd, Result.andThen_ok, Sem.run_pure, goInt, E.den, SV.den]
      · cases he
    simp only [execOp, Sem.run_bind, resolve, e1, Sem.run_pure, Result.andThen_ok, invoke, builtin, key, RunsTo, SV.den]
  · cases h2

theorem foldMx_den : ∀ (l : List SV) (e : E) (k : IntKind) (x : E), foldMx e k l = some x → (List.foldlM Builtin.max2 (.int k (e.den ι)) (SV.denL ι β l)).run c.P w = .ok (.int k (x.den ι)) w
  | [], e, k, x, h => by
    simp only [foldMx] at h
    injection h with h; subst h; simp [SV.denL]
  | .int k' y :: l, e, k, x, h => by
    have ih := foldMx_den l (mkMx e y) k x (by simpa [foldMx] using h)
    rw [mkMx_den] at ih
    simp only [SV.denL, SV.den, List.foldlM_cons, Sem.run_bind, Builtin.max2, Sem.run_pure, Result.andThen_ok]
    exact ih
theorem foldMn_den : ∀ (l : List SV) (e : E) (k : IntKind) (x : E), foldMn e k l = some x → (List.foldlM Builtin.min2 (.int k (e.den ι)) (SV.denL ι β l)).run c.P w = .ok (.int k (x.den ι)) w
  | [], e, k, x, h => by
    simp only [foldMn] at h
    injection h with h; subst h; simp [SV.denL]
  | .int k' y :: l, e, k, x, h => by
    have ih := foldMn_den l (mkMn e y) k x (by simpa [foldMn] using h)
    rw [mkMn_den] at ih
    simp only [SV.denL, SV.den, List.foldlM_cons, Sem.run_bind, Builtin.min2, Sem.run_pure, Result.andThen_ok]
    exact ih
theorem opMax_ok (hs : a.tmps.toList = SV.denL ι β s) {args : Array Operand} {ts : Array TypeId} (h : (opMax s args).pick ι = some r) :
    RunsTo ι β nxt w ((execOp a.eval ⟨dst, .call ⟨.builtin .max, args, ts⟩, type, pos, after, guard⟩).run c.P w) r := by
  unfold opMax at h
  obtain ⟨vs, hvs, h1⟩ := pick_opt h
  have evs := evalOs_den hs hvs
  split at h1
  · rename_i k e l
    obtain ⟨x, hx, h3⟩ := pick_opt h1
    obtain rfl := pick_val h3
    have e1 : (args.map a.eval).toList = .int k (e.den ι) :: SV.denL ι β l := by simp [evs, SV.denL, SV.den]
    have key : (Builtin.max_ ts type (args.map a.eval)).run c.P w = .ok (.int k (x.den ι)) w := by
      unfold Builtin.max_
      rw [e1]
      exact foldMx_den l e k x hx
    simp only [execOp, Sem.run_bind, resolve, Sem.run_pure, Result.andThen_ok, invoke, builtin, key, RunsTo, SV.den]
  · cases h1
theorem opMin_ok (hs : a.tmps.toList = SV.denL ι β s) {args : Array Operand} {ts : Array TypeId} (h : (opMin s args).pick ι = some r) :
    RunsTo ι β nxt w ((execOp a.eval ⟨dst, .call ⟨.builtin .min, args, ts⟩, type, pos, after, guard⟩).run c.P w) r := by
  unfold opMin at h
  obtain ⟨vs, hvs, h1⟩ := pick_opt h
  have evs := evalOs_den hs hvs
  split at h1
  · rename_i k e l
    obtain ⟨x, hx, h3⟩ := pick_opt h1
    obtain rfl := pick_val h3
    have e1 : (args.map a.eval).toList = .int k (e.den ι) :: SV.denL ι β l := by simp [evs, SV.denL, SV.den]
    have key : (Builtin.min_ ts type (args.map a.eval)).run c.P w = .ok (.int k (x.den ι)) w := by
      unfold Builtin.min_
      rw [e1]
      exact foldMn_den l e k x hx
    simp only [execOp, Sem.run_bind, resolve, Sem.run_pure, Result.andThen_ok, invoke, builtin, key, RunsTo, SV.den]
  · cases h1
end
end Go.Proofs.YtjmpoiafcdphbaaSx
