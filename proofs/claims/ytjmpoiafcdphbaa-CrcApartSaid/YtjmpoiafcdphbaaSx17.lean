/- A function that was reckoned once, at a template, told as fresh unknowns. -/
import Derived.Test.YtjmpoiafcdphbaaSx16
namespace Go.Proofs.YtjmpoiafcdphbaaSx
open Go.RowKit
set_option linter.unusedVariables false
set_option linter.unusedSimpArgs false

mutual
def E.small (m : Nat) : E → Bool
  | .lit _ => true
  | .var n => decide (n < m)
  | .bin _ _ a b => E.small m a && E.small m b
  | .wrap _ a => E.small m a
  | .mx a b => E.small m a && E.small m b
  | .mn a b => E.small m a && E.small m b
  | .ite c a b => B.small m c && (E.small m a && E.small m b)
  | .slen n => decide (n < m)
  | .app _ _ => false
def B.small (m : Nat) : B → Bool
  | .lit _ => true
  | .var n => decide (n < m)
  | .lt a b => E.small m a && E.small m b
  | .le a b => E.small m a && E.small m b
  | .eq a b => E.small m a && E.small m b
  | .not a => B.small m a
  | .and a b => B.small m a && B.small m b
  | .or a b => B.small m a && B.small m b
  | .beq a b => B.small m a && B.small m b
  | .ite c a b => B.small m c && (B.small m a && B.small m b)
end
def SameTo (m : Nat) (ι ι' : Env) : Prop := ∀ i, i < m → ι'.int i = ι.int i ∧ ι'.bool i = ι.bool i ∧ ι'.sl i = ι.sl i
section
variable {m : Nat} {ι ι' : Env}
mutual
theorem E.small_den (hs : SameTo m ι ι') : ∀ e : E, E.small m e = true → e.den ι' = e.den ι
  | .lit _, _ => rfl
  | .var n, h => by simp only [E.small, decide_eq_true_eq] at h; simp only [E.den, (hs n h).1]
  | .bin op k a b, h => by simp only [E.small, Bool.and_eq_true] at h; simp only [E.den, E.small_den hs a h.1, E.small_den hs b h.2]
  | .wrap k a, h => by simp only [E.small] at h; simp only [E.den, E.small_den hs a h]
  | .mx a b, h => by simp only [E.small, Bool.and_eq_true] at h; simp only [E.den, E.small_den hs a h.1, E.small_den hs b h.2]
  | .mn a b, h => by simp only [E.small, Bool.and_eq_true] at h; simp only [E.den, E.small_den hs a h.1, E.small_den hs b h.2]
  | .ite c a b, h => by simp only [E.small, Bool.and_eq_true] at h; simp only [E.den, B.small_den hs c h.1, E.small_den hs a h.2.1, E.small_den hs b h.2.2]
  | .slen n, h => by simp only [E.small, decide_eq_true_eq] at h; simp only [E.den, (hs n h).2.2]
  | .app _ _, h => by cases h
theorem B.small_den (hs : SameTo m ι ι') : ∀ b : B, B.small m b = true → b.den ι' = b.den ι
  | .lit _, _ => rfl
  | .var n, h => by simp only [B.small, decide_eq_true_eq] at h; simp only [B.den, (hs n h).2.1]
  | .lt a b, h => by simp only [B.small, Bool.and_eq_true] at h; simp only [B.den, E.small_den hs a h.1, E.small_den hs b h.2]
  | .le a b, h => by simp only [B.small, Bool.and_eq_true] at h; simp only [B.den, E.small_den hs a h.1, E.small_den hs b h.2]
  | .eq a b, h => by simp only [B.small, Bool.and_eq_true] at h; simp only [B.den, E.small_den hs a h.1, E.small_den hs b h.2]
  | .not a, h => by simp only [B.small] at h; simp only [B.den, B.small_den hs a h]
  | .and a b, h => by simp only [B.small, Bool.and_eq_true] at h; simp only [B.den, B.small_den hs a h.1, B.small_den hs b h.2]
  | .or a b, h => by simp only [B.small, Bool.and_eq_true] at h; simp only [B.den, B.small_den hs a h.1, B.small_den hs b h.2]
  | .beq a b, h => by simp only [B.small, Bool.and_eq_true] at h; simp only [B.den, B.small_den hs a h.1, B.small_den hs b h.2]
  | .ite c a b, h => by simp only [B.small, Bool.and_eq_true] at h; simp only [B.den, B.small_den hs c h.1, B.small_den hs a h.2.1, B.small_den hs b h.2.2]
end
end

/-- Is it the template? -/
def eqS : SV → SV → Bool
  | .int k (.var n), .int k' (.var n') => eqK k k' && Nat.beq n n'
  | .bool (.var n), .bool (.var n') => Nat.beq n n'
  | .slc n, .slc n' => Nat.beq n n'
  | _, _ => false
def eqSL : List SV → List SV → Bool
  | [], [] => true
  | x :: xs, y :: ys => eqS x y && eqSL xs ys
  | _, _ => false
def eqA : List SV → List SV → Bool
  | [], [] => true
  | .agg xs :: as, .agg ys :: bs => eqSL xs ys && eqA as bs
  | x :: as, y :: bs => eqS x y && eqA as bs
  | _, _ => false
theorem eqS_eq {x y : SV} (h : eqS x y = true) : x = y := by
  unfold eqS at h
  split at h
  · simp only [Bool.and_eq_true] at h
    have h1 : _ = _ := of_decide_eq_true h.1
    rw [h1, Nat.eq_of_beq_eq_true h.2]
  · rw [Nat.eq_of_beq_eq_true h]
  · rw [Nat.eq_of_beq_eq_true h]
  · cases h
theorem eqSL_eq : ∀ {xs ys : List SV}, eqSL xs ys = true → xs = ys
  | [], [], _ => rfl
  | x :: xs, y :: ys, h => by
    simp only [eqSL, Bool.and_eq_true] at h
    rw [eqS_eq h.1, eqSL_eq h.2]
  | [], _ :: _, h => by cases h
  | _ :: _, [], h => by cases h
theorem eqA_eq : ∀ {xs ys : List SV}, eqA xs ys = true → xs = ys
  | xs, ys, h => by
    unfold eqA at h
    split at h
    · rfl
    · simp only [Bool.and_eq_true] at h
      rw [eqSL_eq h.1, eqA_eq h.2]
    · simp only [Bool.and_eq_true] at h
      rw [eqS_eq h.1, eqA_eq h.2]
    · cases h

inductive FK where
  | int (k : IntKind)
  | bool
  | opq
/-- The answer, told: a fresh unknown for each cell. -/
def told (base n : Nat) : List FK → Nat → List SV
  | [], _ => []
  | .int k :: l, i => .int k (.var (base + i)) :: told base n l (i + 1)
  | .bool :: l, i => .bool (.var (base + i)) :: told base n l (i + 1)
  | .opq :: l, i => .opq (n + i) :: told base n l (i + 1)
def fits (m : Nat) : List FK → List SV → Bool
  | [], [] => true
  | .int k :: l, .int k' e :: cs => eqK k k' && (E.small m e && fits m l cs)
  | .bool :: l, .bool b :: cs => B.small m b && fits m l cs
  | .opq :: l, .opq _ :: cs => fits m l cs
  | _, _ => false
def conTold (svs : List SV) (base : Nat) (fk : List FK) : ConFn := fun args n => match eqA args svs with | true => some (.agg (told base n fk 0), n + fk.length) | false => none
def extOf (base : Nat) (cs : List SV) (ι0 : Env) : Env :=
  { ext0 with
    int := fun i => match cs[i - base]? with | some (.int _ e) => e.den ι0 | _ => 0
    bool := fun i => match cs[i - base]? with | some (.bool b) => b.den ι0 | _ => false }
/-- The fresh unknowns are what they stand for. -/
def Stands (base m : Nat) (cs : List SV) (ι : Env) : Prop := ∀ i, (∀ k e, cs[i]? = some (.int k e) → E.small m e = true → ι.int (base + i) = e.den ι) ∧ (∀ b, cs[i]? = some (.bool b) → B.small m b = true → ι.bool (base + i) = b.den ι)

theorem told_den {base n m : Nat} {ι : Env} {β' β1 : Bt} {all : List SV} (hst : Stands base m all ι) : ∀ (fk : List FK) (cs : List SV) (i : Nat), fits m fk cs = true → (∀ j, j < cs.length → all[i + j]? = cs[j]?) →
    (∀ j q, cs[j]? = some (.opq q) → β'.val (n + (i + j)) = β1.val q) → SV.denL ι β' (told base n fk i) = SV.denL ι β1 cs
  | [], [], i, _, _, _ => rfl
  | .int k :: l, .int k' e :: cs, i, h, ha, ho => by
    simp only [fits, Bool.and_eq_true] at h
    have hk : k = k' := of_decide_eq_true h.1
    subst hk
    have h0 := ha 0 (by simp)
    simp only [Nat.add_zero, List.getElem?_cons_zero] at h0
    simp only [told, SV.denL, SV.den, E.den, (hst i).1 _ _ h0 h.2.1]
    rw [told_den hst l cs (i + 1) h.2.2 (fun j hj => by have := ha (j + 1) (by simp; omega); simpa [Nat.add_assoc, Nat.add_comm 1 j] using this) (fun j q hq => by have := ho (j + 1) q (by simpa using hq); simpa [Nat.add_assoc, Nat.add_comm 1 j] using this)]
  | .bool :: l, .bool b :: cs, i, h, ha, ho => by
    simp only [fits, Bool.and_eq_true] at h
    have h0 := ha 0 (by simp)
    simp only [Nat.add_zero, List.getElem?_cons_zero] at h0
    simp only [told, SV.denL, SV.den, B.den, (hst i).2 _ h0 h.1]
    rw [told_den hst l cs (i + 1) h.2 (fun j hj => by have := ha (j + 1) (by simp; omega); simpa [Nat.add_assoc, Nat.add_comm 1 j] using this) (fun j q hq => by have := ho (j + 1) q (by simpa using hq); simpa [Nat.add_assoc, Nat.add_comm 1 j] using this)]
  | .opq :: l, .opq q :: cs, i, h, ha, ho => by
    simp only [fits] at h
    have h0 := ho 0 q rfl
    simp only [Nat.add_zero] at h0
    simp only [told, SV.denL, SV.den, h0]
    rw [told_den hst l cs (i + 1) h (fun j hj => by have := ha (j + 1) (by simp; omega); simpa [Nat.add_assoc, Nat.add_comm 1 j] using this) (fun j q hq => by have := ho (j + 1) q (by simpa using hq); simpa [Nat.add_assoc, Nat.add_comm 1 j] using this)]
  | [], _ :: _, _, h, _, _ => by cases h
  | .int _ :: _, [], _, h, _, _ => by cases h
  | .bool :: _, [], _, h, _, _ => by cases h
  | .opq :: _, [], _, h, _, _ => by cases h

theorem fits_length {m : Nat} : ∀ {fk : List FK} {cs : List SV}, fits m fk cs = true → fk.length = cs.length
  | [], [], _ => rfl
  | .int k :: l, .int k' e :: cs, h => by simp only [fits, Bool.and_eq_true] at h; simp [fits_length h.2.2]
  | .bool :: l, .bool b :: cs, h => by simp only [fits, Bool.and_eq_true] at h; simp [fits_length h.2]
  | .opq :: l, .opq q :: cs, h => by simp only [fits] at h; simp [fits_length h]
  | [], _ :: _, h => by cases h
  | .int _ :: _, [], h => by cases h
  | .bool :: _, [], h => by cases h
  | .opq :: _, [], h => by cases h

theorem told_ok {c0 : Ctx} {ι : Env} {svs cs : List SV} {fk : List FK} {base m g N D nxt : Nat} (H0 : Hyp c0 ι) (hg0 : c0.glob = []) (hu : SV.underL 0 svs = true)
    (hp : ((execCall N D c0 g svs [] 0 []).bind fun x => .leaf x.1).pick ι = some (.agg cs)) (hfit : fits m fk cs = true) (hst : Stands base m cs ι) (β : Bt) (w : World)
    (hb1 : c0.base ≤ w.heap.size) (hb2 : ∀ k, k < c0.base → w.heap[k]? = c0.bw.heap[k]?) :
    Calls c0.P g (SV.denL ι β svs).toArray w (fun e w' => ∃ β1, Agree nxt β β1 ∧ (∀ β', Agree (nxt + fk.length) β1 β' → e = .returned ((SV.agg (told base nxt fk 0)).den ι β')) ∧ Below w.heap.size w w') := by
  obtain ⟨⟨v', mm, k, l⟩, h1, h2⟩ := (pick_bind _ _ _).1 hp
  have h2 : some v' = some (SV.agg cs) := h2
  injection h2 with h2; subst h2
  have hM : StM c0 w (fun _ => False) ι β [] 0 w := fun β' _ => by
    refine ⟨fun _ _ h => (by cases h), fun _ _ h => (by cases h), List.nodup_nil, fun _ h => (by cases h), fun _ h => (by cases h), fun g cs hg => ?_, Fr.refl _ _, hb1, fun _ h => h.elim, hb2⟩
    rw [hg0] at hg; cases hg
  have := execCall_ok (ι := ι) N D c0 H0 w (fun _ => False) β g svs [] 0 [] w (.agg cs) mm k l (fun _ _ h => (by cases h)) (fun β' hb => underL_den hb svs hu) hM h1
  refine Calls.mono this fun e W' ⟨_, _, β1, _, he, hM'⟩ => ?_
  let γ : Bt := ⟨β.blk, fun i => if nxt ≤ i then (match cs[i - nxt]? with | some (.opq q) => β1.val q | _ => .bool false) else β.val i, fun i => by
    split
    · split
      · exact β1.one _
      · rfl
    · exact β.one _⟩
  refine ⟨γ, fun i hi => ⟨rfl, ?_⟩, fun β' hb => ?_, ?_⟩
  · show (if nxt ≤ i then _ else _) = _
    rw [if_neg (by omega)]
  · rw [he β1 (Agree.refl _ _)]
    congr 1
    simp only [SV.den]
    congr 2
    refine (told_den hst fk cs 0 hfit (fun j _ => by rw [Nat.zero_add]) (fun j q hq => ?_)).symm
    have hj : j < cs.length := by
      rcases Nat.lt_or_ge j cs.length with h | h
      · exact h
      · rw [List.getElem?_eq_none h] at hq; cases hq
    rw [Nat.zero_add]
    have hl := fits_length hfit
    rw [(hb (nxt + j) (by omega)).2]
    show (if nxt ≤ nxt + j then _ else _) = _
    rw [if_pos (by omega), Nat.add_sub_cancel_left, hq]
  · have k := (hM' β1 (Agree.refl _ _)).fr
    exact ⟨k.os, k.tape, k.output, k.size, fun i hi => k.block i hi (fun h => h)⟩

/-- The cells' unknowns, and behind them what the told answer stands for. -/
theorem same_ext (cells : List Value) (ext : Env) : SameTo cells.length (envOf cells ext0) (envOf cells ext) := fun i hi => by
  obtain ⟨v, h⟩ : ∃ v, cells[i]? = some v := ⟨cells[i], by simp [hi]⟩
  refine ⟨?_, ?_, ?_⟩ <;> simp only [envOf, h] <;> cases v <;> rfl
theorem stands_ext {base m : Nat} {cs : List SV} {cells : List Value} (hm : m = cells.length) (hb : m ≤ base) : Stands base m cs (envOf cells (extOf base cs (envOf cells ext0))) := by
  subst hm
  have hs := same_ext cells (extOf base cs (envOf cells ext0))
  intro i
  have hn : cells[base + i]? = none := by rw [List.getElem?_eq_none (by omega)]
  refine ⟨fun k e hi he => ?_, fun b hi he => ?_⟩
  · rw [E.small_den hs e he]
    show (match cells[base + i]? with | some (.int _ n) => n | some _ => 0 | none => (extOf base cs (envOf cells ext0)).int (base + i)) = _
    rw [hn]
    simp only [extOf, Nat.add_sub_cancel_left, hi]
  · rw [B.small_den hs b he]
    show (match cells[base + i]? with | some (.bool b) => b | some _ => false | none => (extOf base cs (envOf cells ext0)).bool (base + i)) = _
    rw [hn]
    simp only [extOf, Nat.add_sub_cancel_left, hi]

/-- The same, where there are more cells than the template's. -/
theorem stands_more {base m : Nat} {cs : List SV} {cells : List Value} (hm : m ≤ cells.length) (hb : cells.length ≤ base) : Stands base m cs (envOf cells (extOf base cs (envOf cells ext0))) := by
  have hs : SameTo m (envOf cells ext0) (envOf cells (extOf base cs (envOf cells ext0))) := fun i hi => same_ext cells _ i (Nat.lt_of_lt_of_le hi hm)
  intro i
  have hn : cells[base + i]? = none := by rw [List.getElem?_eq_none (by omega)]
  refine ⟨fun k e hi he => ?_, fun b hi he => ?_⟩
  · rw [E.small_den hs e he]
    show (match cells[base + i]? with | some (.int _ n) => n | some _ => 0 | none => (extOf base cs (envOf cells ext0)).int (base + i)) = _
    rw [hn]
    simp only [extOf, Nat.add_sub_cancel_left, hi]
  · rw [B.small_den hs b he]
    show (match cells[base + i]? with | some (.bool b) => b | some _ => false | none => (extOf base cs (envOf cells ext0)).bool (base + i)) = _
    rw [hn]
    simp only [extOf, Nat.add_sub_cancel_left, hi]
theorem AllIs.row {w : World} {ks : List CK} {cells : List Value} (h : AllIs w ks cells) (ext : Env) {i : Nat} {k : IntKind} (hk : ks[i]? = some (.ints k)) : ∃ zs, IsRow k w ((envOf cells ext).sa i) ((envOf cells ext).sl i) ((envOf cells ext).sc i) zs := by
  obtain ⟨v, h1, h2⟩ := h.get hk
  obtain ⟨a, l, c, zs, rfl, hr⟩ := h2
  refine ⟨zs, ?_⟩
  have e1 : (envOf cells ext).sa i = a := by simp only [envOf, h1]
  have e2 : (envOf cells ext).sl i = l := by simp only [envOf, h1]
  have e3 : (envOf cells ext).sc i = c := by simp only [envOf, h1]
  rw [e1, e2, e3]; exact hr

/-- One told function. -/
theorem hyp_told {c c0 : Ctx} {ι : Env} {svs cs : List SV} {fk : List FK} {base m g N D : Nat} (hcon : c.con = [(g, conTold svs base fk)]) (hP : c0.P = c.P) (hbase : c0.base = c.base) (hbw : c0.bw = c.bw)
    (H0 : Hyp c0 ι) (hg0 : c0.glob = []) (hu : SV.underL 0 svs = true)
    (hp : ((execCall N D c0 g svs [] 0 []).bind fun x => .leaf x.1).pick ι = some (.agg cs)) (hfit : fits m fk cs = true) (hst : Stands base m cs ι) (hr : c.rows = [] := by rfl) (hl : c.lps = [] := by rfl) : Hyp c ι := by
  refine ⟨hP ▸ H0.mixed, ?_, rows_nil hr, lps_nil hl⟩
  refine (fun g' f hf args nxt v n hfa hn β w hgl hb1 hb2 hs => ?_)
  rw [hcon] at hf
  have hf : (Bool.rec none (some (conTold svs base fk)) (Nat.beq g g') : Option ConFn) = some f := hf
  cases hg : Nat.beq g g' with
  | false => rw [hg] at hf; cases hf
  | true =>
    rw [hg] at hf
    have hf : some (conTold svs base fk) = some f := hf
    injection hf with hf; subst hf
    have hg := Nat.eq_of_beq_eq_true hg
    subst hg
    unfold conTold at hfa
    split at hfa
    · rename_i ha
      have ha := eqA_eq ha
      subst ha
      injection hfa with hfa; injection hfa with e1 e2; subst e1; subst e2
      rw [← hP]
      exact told_ok H0 hg0 hu hp hfit hst β w (by rw [hbase]; exact hb1) (by rw [hbase, hbw]; exact hb2)
    · cases hfa
end Go.Proofs.YtjmpoiafcdphbaaSx
