/- States: what stays true of them from operation to operation. -/
import Derived.Test.YtjmpoiafcdphbaaSx9
namespace Go.Proofs.YtjmpoiafcdphbaaSx
open Go.RowKit
set_option linter.unusedVariables false
set_option linter.unusedSimpArgs false

mutual
theorem under_den {n : Nat} {β β' : Bt} {ι : Env} (hb : Agree n β β') : ∀ v : SV, v.under n = true → v.den ι β' = v.den ι β
  | .int _ _, _ => rfl
  | .bool _, _ => rfl
  | .ptr b off, h => by
    simp only [SV.under, decide_eq_true_eq] at h
    simp only [SV.den, (hb b h).1]
  | .ptx b off ix, h => by
    simp only [SV.under, decide_eq_true_eq] at h
    simp only [SV.den, (hb b h).1]
  | .gptr _ _, _ => rfl
  | .nilptr, _ => rfl
  | .slice b off l c, h => by
    simp only [SV.under, decide_eq_true_eq] at h
    simp only [SV.den, (hb b h).1]
  | .nilslice, _ => rfl
  | .slc _, _ => rfl
  | .func fn x y, h => by
    simp only [SV.under, Bool.and_eq_true] at h
    simp only [SV.den, underL_den hb x h.1, underL_den hb y h.2]
  | .nilfunc, _ => rfl
  | .nilif, _ => rfl
  | .str _, _ => rfl
  | .opq n', h => by
    simp only [SV.under, decide_eq_true_eq] at h
    simp only [SV.den, (hb n' h).2]
  | .any n', h => by
    simp only [SV.under, decide_eq_true_eq] at h
    simp only [SV.den, (hb n' h).2]
  | .rptr _ _ _ _, _ => rfl
  | .agg cs, h => by
    simp only [SV.under] at h
    simp only [SV.den, underL_den hb cs h]
  | .tup cs, h => by
    simp only [SV.under] at h
    simp only [SV.den, underL_den hb cs h]
theorem underL_den {n : Nat} {β β' : Bt} {ι : Env} (hb : Agree n β β') : ∀ l : List SV, SV.underL n l = true → SV.denL ι β' l = SV.denL ι β l
  | [], _ => rfl
  | v :: l, h => by
    simp only [SV.underL, Bool.and_eq_true] at h
    simp only [SV.denL, under_den hb v h.1, underL_den hb l h.2]
end

def StabL (ι : Env) (n : Nat) (β : Bt) (l : List SV) : Prop := ∀ β', Agree n β β' → SV.denL ι β' l = SV.denL ι β l
def StM (c : Ctx) (w0 : World) (X : Nat → Prop) (ι : Env) (β : Bt) (mem : Mem) (nxt : Nat) (w : World) : Prop := ∀ β', Agree nxt β β' → AbsM c w0 X ι β' mem nxt w
structure OkT (ι : Env) (β : Bt) (s : St) (a : Act) : Prop where
  tmps : ∀ β', Agree s.nxt β β' → a.tmps.toList = SV.denL ι β' s.tmps
  asm : AsmOk ι s.asm
  dfr : a.defers = []
def GlobOk (ι : Env) (β : Bt) (glob : Mem) (w : World) : Prop := ∀ g cs, (g, cs) ∈ glob → ∃ T fr, w.heap[g]? = some (.cells (SV.denL ι β cs).toArray T fr)

section
variable {c : Ctx} {w0 : World} {X : Nat → Prop} {ι : Env} {β : Bt} {mem : Mem} {nxt : Nat} {w w' : World}

theorem AbsM.globs (h : AbsM c w0 X ι β mem nxt w) : GlobOk ι β c.glob w := by
  intro g cs hg
  obtain ⟨h1, h2, T, fr, hT⟩ := h.glob g cs hg
  exact ⟨T, fr, by rw [h.fr.block g h1 h2]; exact hT⟩
theorem AbsM.size0 (h : AbsM c w0 X ι β mem nxt w) : c.base ≤ w.heap.size := Nat.le_trans h.base.1 h.fr.size
theorem lt_of_some {α : Type} {xs : Array α} {i : Nat} {x : α} (h : xs[i]? = some x) : i < xs.size := by
  rcases Nat.lt_or_ge i xs.size with h' | h'
  · exact h'
  · rw [Array.getElem?_eq_none h'] at h; cases h
theorem AbsM.inside (h : AbsM c w0 X ι β mem nxt w) {b : Nat} (hb : b ∈ mem.map (·.1)) : β.blk b < w.heap.size := by
  obtain ⟨⟨b', cs⟩, hm, rfl⟩ := List.mem_map.1 hb
  obtain ⟨T, hT⟩ := h.blocks _ _ hm
  exact lt_of_some hT
theorem AbsM.below (h : AbsM c w0 X ι β mem nxt w) (k : Below w.heap.size w w') : AbsM c w0 X ι β mem nxt w' := by
  refine ⟨fun b cs hb => ?_, h.inj, h.nodup, h.lt, h.wr, h.glob, h.fr.trans ⟨k.os, k.tape, k.output, k.size, fun i hi _ => k.block i hi⟩, h.base.1, h.base.2.1, fun i hi => (k.block i (Nat.lt_of_lt_of_le hi (Nat.le_trans h.base.1 h.fr.size))).trans (h.base.2.2 i hi)⟩
  obtain ⟨T, hT⟩ := h.blocks b cs hb
  exact ⟨T, by rw [k.block _ (lt_of_some hT)]; exact hT⟩
theorem AbsM.more (h : AbsM c w0 X ι β mem nxt w) {n : Nat} (hn : nxt ≤ n) : AbsM c w0 X ι β mem n w :=
  ⟨h.blocks, h.inj, h.nodup, fun b hb => Nat.lt_of_lt_of_le (h.lt b hb) hn, h.wr, h.glob, h.fr, h.base⟩
theorem StM.below (h : StM c w0 X ι β mem nxt w) (k : Below w.heap.size w w') : StM c w0 X ι β mem nxt w' := fun β' hb => (h β' hb).below k
theorem StM.move (h : StM c w0 X ι β mem nxt w) {β1 : Bt} {n : Nat} (hb : Agree nxt β β1) (hn : nxt ≤ n) : StM c w0 X ι β1 mem n w := fun β' hb' => (h β' (hb.trans hb' hn)).more hn
theorem StM.self (h : StM c w0 X ι β mem nxt w) : StM { c with ro := nxt } w (fun _ => False) ι β mem nxt w := by
  intro β' hb
  have k := h β' hb
  refine ⟨k.blocks, k.inj, k.nodup, k.lt, fun b hb hro => ?_, fun g cs hg => ?_, Fr.refl _ _, Nat.le_trans k.base.1 k.fr.size, fun _ h => h.elim, k.base.2.2⟩
  · have := k.lt b hb
    have hro : nxt ≤ b := hro
    omega
  · obtain ⟨T, fr, hT⟩ := k.globs g cs hg
    exact ⟨lt_of_some hT, fun h => h, T, fr, hT⟩
theorem StM.drawn (h : StM c w0 X ι β mem nxt w) : StM c w0 X ι β mem nxt { w with drawn := w.drawn + 1 } :=
  h.below ⟨rfl, rfl, rfl, Nat.le_refl _, fun _ _ => rfl⟩

/-! ### What an operation came to, whatever is not known yet -/
variable {res : Result Next}
theorem run_val {v : SV} (hr : ∀ β', Agree nxt β β' → RunsTo ι β' nxt w res (.val v)) : res = .ok (.value (v.den ι β)) w ∧ ∀ β', Agree nxt β β' → v.den ι β' = v.den ι β := by
  have h0 : res = .ok (.value (v.den ι β)) w := hr β (Agree.refl _ _)
  refine ⟨h0, fun β' hb => ?_⟩
  have h1 : res = .ok (.value (v.den ι β')) w := hr β' hb
  rw [h0] at h1
  injection h1 with h1 _; injection h1 with h1; exact h1.symm
theorem run_enter {g : Nat} {args : List SV} (hr : ∀ β', Agree nxt β β' → RunsTo ι β' nxt w res (.enter g args)) : res = .ok (.enter g (SV.denL ι β args).toArray) w ∧ StabL ι nxt β args := by
  have h0 : res = .ok (.enter g (SV.denL ι β args).toArray) w := hr β (Agree.refl _ _)
  refine ⟨h0, fun β' hb => ?_⟩
  have h1 : res = .ok (.enter g (SV.denL ι β' args).toArray) w := hr β' hb
  rw [h0] at h1
  injection h1 with h1 _; injection h1 with _ h1
  have h2 : SV.denL ι β args = SV.denL ι β' args := congrArg Array.toList h1
  exact h2.symm
theorem run_sto {b : Nat} {cs : List SV} (hr : ∀ β', Agree nxt β β' → RunsTo ι β' nxt w res (.sto b cs)) (hM : StM c w0 X ι β mem nxt w) (hb : b ∈ mem.map (·.1)) (hro : c.ro ≤ b) :
    ∃ w1, res = .ok .skip w1 ∧ StM c w0 X ι β (msetL b cs mem) nxt w1 := by
  obtain ⟨w1, T, h0, _, _⟩ := hr β (Agree.refl _ _)
  refine ⟨w1, h0, fun β' hag => ?_⟩
  obtain ⟨w2, T', h1, hbut, hcell⟩ := hr β' hag
  rw [h0] at h1
  injection h1 with _ h1; subst h1
  have k := hM β' hag
  refine ⟨fun b' cs' hm => ?_, ?_, ?_, ?_, ?_, k.glob, ?_, k.base.1, k.base.2.1, fun i hi => ?_⟩
  · rcases msetL_mem b cs mem k.nodup b' cs' hm with ⟨rfl, rfl⟩ | ⟨h1, h2⟩
    · exact ⟨T', hcell⟩
    · obtain ⟨T2, hT2⟩ := k.blocks b' cs' h2
      refine ⟨T2, ?_⟩
      rw [hbut.block _ (fun h => h1 (k.inj _ _ (List.mem_map.2 ⟨_, h2, rfl⟩) hb h))]
      exact hT2
  · rw [msetL_keys]; exact k.inj
  · rw [msetL_keys]; exact k.nodup
  · rw [msetL_keys]; exact k.lt
  · rw [msetL_keys]; exact k.wr
  · refine ⟨hbut.os.trans k.fr.os, hbut.tape.trans k.fr.tape, hbut.output.trans k.fr.output, by rw [hbut.size]; exact k.fr.size, fun i hi hx => ?_⟩
    rw [hbut.block i (fun h => by
      rcases k.wr b hb hro with h1 | h1
      · omega
      · rw [h] at hx; exact hx h1)]
    exact k.fr.block i hi hx
  · rw [hbut.block i (fun h => by
      rcases k.wr b hb hro with h1 | h1
      · have := k.base.1; omega
      · have := k.base.2.1 _ h1; omega)]
    exact k.base.2.2 i hi
theorem run_new {v : SV} {cs : List SV} (hr : ∀ β', Agree nxt β β' → RunsTo ι β' nxt w res (.new v cs)) (hM : StM c w0 X ι β mem nxt w) :
    ∃ val w1 β1, res = .ok (.value val) w1 ∧ Agree nxt β β1 ∧ (∀ β', Agree (nxt + 1) β1 β' → v.den ι β' = val) ∧ StM c w0 X ι β1 ((nxt, cs) :: mem) (nxt + 1) w1 := by
  let β1 : Bt := ⟨fun i => if i = nxt then w.heap.size else β.blk i, β.val, β.one⟩
  have hag : Agree nxt β β1 := fun i hi => ⟨by show (if i = nxt then _ else _) = _; rw [if_neg (by omega)], rfl⟩
  have hb1 : β1.blk nxt = w.heap.size := by show (if nxt = nxt then _ else _) = _; rw [if_pos rfl]
  obtain ⟨T, h0⟩ := hr β1 hag hb1
  refine ⟨v.den ι β1, _, β1, h0, hag, ?_, ?_⟩
  · intro β' hb'
    have hx : Agree nxt β β' := hag.trans hb' (Nat.le_succ _)
    obtain ⟨T', h1⟩ := hr β' hx (by rw [(hb' nxt (Nat.lt_succ_self _)).1, hb1])
    rw [h0] at h1
    injection h1 with h1 _; injection h1 with h1; exact h1.symm
  · intro β' hb'
    have hx : Agree nxt β β' := hag.trans hb' (Nat.le_succ _)
    have hbn : β'.blk nxt = w.heap.size := by rw [(hb' nxt (Nat.lt_succ_self _)).1, hb1]
    obtain ⟨T', h1⟩ := hr β' hx hbn
    rw [h0] at h1
    injection h1 with _ h1
    rw [h1]
    have k := hM β' hx
    refine ⟨fun b' cs' hm => ?_, ?_, ?_, ?_, ?_, k.glob, ?_, k.base.1, k.base.2.1, fun i hi => ?_⟩
    · rcases List.mem_cons.1 hm with e | hm
      · injection e with e1 e2; subst e1; subst e2
        exact ⟨T', by rw [hbn]; simp⟩
      · obtain ⟨T2, hT2⟩ := k.blocks b' cs' hm
        refine ⟨T2, ?_⟩
        show (w.heap.push _)[_]? = _
        rw [Array.getElem?_push, if_neg (by have := lt_of_some hT2; omega)]
        exact hT2
    · intro b b' hb hb' he
      simp only [List.map_cons, List.mem_cons] at hb hb'
      rcases hb with rfl | hb <;> rcases hb' with rfl | hb'
      · rfl
      · have := k.inside hb'; omega
      · have := k.inside hb; omega
      · exact k.inj b b' hb hb' he
    · rw [List.map_cons, List.nodup_cons]
      exact ⟨fun h => by have := k.lt _ h; simp at this, k.nodup⟩
    · intro b hb
      rw [List.map_cons, List.mem_cons] at hb
      rcases hb with rfl | hb
      · exact Nat.lt_succ_self _
      · have := k.lt b hb; omega
    · intro b hb hro
      rw [List.map_cons, List.mem_cons] at hb
      rcases hb with rfl | hb
      · left; rw [hbn]; exact k.fr.size
      · exact k.wr b hb hro
    · refine k.fr.trans ⟨rfl, rfl, rfl, by simp, fun i hi _ => ?_⟩
      show (w.heap.push _)[_]? = _
      rw [Array.getElem?_push, if_neg (by omega)]
    · show (w.heap.push _)[_]? = _
      have := k.base.1
      have := k.fr.size
      rw [Array.getElem?_push, if_neg (by omega)]
      exact k.base.2.2 i hi

/-! ### Frames -/
def putS (d : Option Tmp) (v : SV) (s : List SV) : List SV := match d with | some d => s.set d v | none => s
theorem put_den {a : Act} {s : List SV} (hs : a.tmps.toList = SV.denL ι β s) (d : Option Tmp) (v : SV) : (a.put d (v.den ι β)).tmps.toList = SV.denL ι β (putS d v s) := by
  cases d with
  | none => exact hs
  | some d => simp [Act.put, putS, hs, denL_map]
theorem putK_put {α : Type} (d : Option Tmp) (v : SV) (s : List SV) (k : List SV → α) : putK d v s k = k (putS d v s) := putK_eq d v s k

theorem nthOp_eq : ∀ (l : List Oper) (j : Nat), nthOp l j = l[j]?
  | [], j => by cases j <;> rfl
  | _ :: _, 0 => rfl
  | _ :: l, j + 1 => by simp [nthOp, nthOp_eq l j]

theorem set_same {l : List SV} {d : Nat} {q : B} {t : Bool} (h : l[d]? = some (.bool q)) (hq : q.den ι = t) : SV.denL ι β (l.set d (.bool (.lit t))) = SV.denL ι β l := by
  rw [denL_map, denL_map, List.map_set]
  apply List.ext_getElem?
  intro i
  rw [List.getElem?_set]
  split
  · rename_i e
    subst e
    simp only [List.length_map, List.getElem?_map, h, Option.map_some, SV.den, B.den, hq]
    have := (List.getElem?_eq_some_iff.1 h).1
    simp [this]
  · rfl

/-- Is the operation wanted? -/
theorem guardT_ok {α : Type} {ops : Array Oper} {o : Oper} {s : St} {a : Act} {k : Bool → St → T α} {y : α} (hs : OkT ι β s a) (h : (guardT ops.toList o s k).pick ι = some y) :
    ∃ s', (k (Region.wanted o (yielded ops a.tmps)) s').pick ι = some y ∧ OkT ι β s' a ∧ s'.mem = s.mem ∧ s'.nxt = s.nxt := by
  unfold guardT at h
  split at h
  · rename_i hg
    exact ⟨s, by unfold Region.wanted; rw [hg]; exact h, hs, rfl, rfl⟩
  · rename_i j want hg
    have no : yielded ops a.tmps j = none → (k false s).pick ι = some y → ∃ s', (k (Region.wanted o (yielded ops a.tmps)) s').pick ι = some y ∧ OkT ι β s' a ∧ s'.mem = s.mem ∧ s'.nxt = s.nxt := by
      intro hy h
      refine ⟨s, ?_, hs, rfl, rfl⟩
      unfold Region.wanted
      rw [hg]
      simp only [hy]
      exact h
    rw [nthOp_eq] at h
    have hops : ops.toList[j]? = ops[j]? := by simp
    rw [hops] at h
    split at h
    · rename_i oj hoj
      split at h
      · rename_i d hd
        have hy : yielded ops a.tmps j = (match a.tmps[d]? with | some (.bool b) => some b | _ => none) := by
          unfold yielded; rw [hoj, Option.bind_some, hd, Option.bind_some]
          cases a.tmps[d]? with
          | none => rfl
          | some v => cases v <;> rfl
        have htm : a.tmps[d]? = (s.tmps[d]?).map (SV.den ι β) := by
          rw [← Array.getElem?_toList, hs.tmps β (Agree.refl _ _), denL_get]
        rw [nthSV_eq] at h
        split at h
        · rename_i q hq
          rw [hq] at htm
          simp only [Option.map_some, SV.den] at htm
          rw [htm] at hy
          simp only at hy
          obtain ⟨l, hl, h1 | h1⟩ := pick_ifA hs.asm h
          · obtain ⟨hq1, h1⟩ := h1
            simp only [setK_eq] at h1
            refine ⟨{ s with tmps := s.tmps.set d (.bool (.lit true)), asm := l }, ?_, ⟨fun β' hb => ?_, hl, hs.dfr⟩, rfl, rfl⟩
            · unfold Region.wanted; rw [hg]; simp only [hy, hq1]
              have : ((some true : Option Bool) == some want) = (true == want) := by cases want <;> rfl
              rw [this]; exact h1
            · rw [hs.tmps β' hb]; exact (set_same hq hq1).symm
          · obtain ⟨hq1, h1⟩ := h1
            simp only [setK_eq] at h1
            refine ⟨{ s with tmps := s.tmps.set d (.bool (.lit false)), asm := l }, ?_, ⟨fun β' hb => ?_, hl, hs.dfr⟩, rfl, rfl⟩
            · unfold Region.wanted; rw [hg]; simp only [hy, hq1]
              have : ((some false : Option Bool) == some want) = (false == want) := by cases want <;> rfl
              rw [this]; exact h1
            · rw [hs.tmps β' hb]; exact (set_same hq hq1).symm
        · rename_i hq
          rw [hq] at htm
          simp only [Option.map_some, SV.den] at htm
          rw [htm] at hy
          exact no hy h
        · cases h
      · rename_i hd
        refine no ?_ h
        unfold yielded; rw [hoj]; simp only [Option.bind_some, hd, Option.bind_none]
    · rename_i hoj
      refine no ?_ h
      unfold yielded; rw [hoj]; simp only [Option.bind_none]
end
end Go.Proofs.YtjmpoiafcdphbaaSx
