/- A key is made: what it is, nothing is told of. -/
import Derived.Test.YtkglnkfoeedmoabSx17
import Derived.Test.YtkglnkfoeedmoabRows
import Derived.Laws.AppendOwn
import Derived.OwnWalk
namespace Go.Proofs.Ytkglnkfoeedmoab
open Go.RowKit Go.Proofs.YtkglnkfoeedmoabSx
theorem u8_info : (Try.prog.info? 5).map (fun i => (i.zero, i.size, i.bytes)) = some (some (.int .u8 0), 1, 1) := by kernel_rfl
theorem cell_in {w : World} {a : Addr} {v : Value} (h : w.cell? a = some v) : a.block < w.heap.size := by
  rcases Nat.lt_or_ge a.block w.heap.size with h' | h'
  · exact h'
  · simp [World.cell?, Array.getElem?_eq_none h'] at h
theorem key_calls {a : Option Addr} {len cap : Nat} {zs : List Int} {w : World} (h : IsRow .u8 w a len cap zs) :
    Calls Try.prog 22 #[.slice a len cap] w fun e w' => (∃ x l c, e = .returned (.slice x l c)) ∧ Below w.heap.size w w' := by
  obtain ⟨i0, hi, hz0, hz1, hz2⟩ := info_parts u8_info
  rcases h with ⟨rfl, rfl, rfl, rfl⟩ | ⟨x, rfl, hl, hm, hz, hcell, hwz⟩
  · go_enter Try.func22, Try.ntmps22
    go_wp2
    go_ret
    exact ⟨⟨_, _, _, rfl⟩, (Below.refl _ _).alloc (Nat.le_refl _) _⟩
  · by_cases h0 : len = 0
    · subst h0
      go_enter Try.func22, Try.ntmps22
      go_wp2
      go_ret
      exact ⟨⟨_, _, _, rfl⟩, (Below.refl _ _).alloc (Nat.le_refl _) _⟩
    · have hp : (0 : Int) < (len : Int) := by omega
      have hne : ((len : Int) == 0) = false := by simp; omega
      have news : ∀ m : Nat, m ≤ cap → ∀ j u, ((zs.take m).map fun z => Value.int .u8 z)[j]? = some u → (w.alloc (.cells #[] 5)).cell? (x.add j) = some u := by
        intro m hm' j u hj
        have hj' : j < zs.length := by
          rcases Nat.lt_or_ge j zs.length with h | h
          · exact h
          · rw [List.getElem?_eq_none (by simp; omega)] at hj; cases hj
        have hc := hcell j hj'
        have hin := cell_in hc
        have e : (w.alloc (.cells #[] 5)).cell? (x.add j) = w.cell? (x.add j) := ((Below.refl w.heap.size w).alloc (Nat.le_refl _) _).cell hin
        rw [e, hc]
        simp only [List.getElem?_map] at hj
        cases ht : (zs.take m)[j]? with
        | none => rw [ht] at hj; cases hj
        | some z =>
          rw [ht] at hj
          simp only [Option.map_some, Option.some.injEq] at hj
          subst hj
          rw [List.getElem?_take] at ht
          split at ht
          · rw [List.getD_eq_getElem?_getD, ht]; rfl
          · cases ht
      have own : (w.alloc (.cells #[] 5)).ownsRow w.heap.size 5 1 (.slice (some ⟨w.heap.size, 0, none⟩) 0 0) 0 [] :=
        ⟨rfl, .inr ⟨w.heap.size, 0, #[], rfl, Nat.le_refl _, heap_alloc_new _ _, Nat.le_refl _, Nat.zero_le _, rfl, rfl⟩⟩
      have ones : ∀ m : Nat, ∀ u ∈ ((zs.take m).map fun z => Value.int .u8 z), u.oneCell' = true := by
        intro m u hu
        obtain ⟨z, _, rfl⟩ := List.mem_map.1 hu
        rfl
      by_cases h64 : (len : Int) ≤ 64
      · have n1 := news len hl
        have o1 := ones len
        have l1 : ((zs.take len).map fun z => Value.int .u8 z).length = len * 1 := by simp; omega
        clear news ones hcell hwz
        go_enter Try.func22, Try.ntmps22
        go_wp2_with (first
          | (at_builtin; go_loud (refine wpList_append_own _ rfl _ _ 36 rfl w.heap.size 5 i0 (.int .u8 0) 1 1 Try.underlying36 hi hz0 hz1 hz2 rfl (by decide) _ 0 [] rfl own x len cap _ rfl l1 n1 o1 (by unfold maxLen at *; omega) (by omega) (by simp) ?_))
          | go_in)
        intro v' w1 hown' hgrow hnil
        go_wp2
        go_ret
        refine ⟨?_, ((Below.refl _ _).alloc (Nat.le_refl _) _).grown hgrow (by simp) (fun k hk => by
          have hk : some w.heap.size = some k := hk
          injection hk with hk; omega)⟩
        rcases hown'.2 with ⟨rfl, hn⟩ | ⟨g, c, cur, rfl, _⟩
        · exact ⟨_, _, _, rfl⟩
        · exact ⟨_, _, _, rfl⟩
      · have n1 := news 64 (by omega)
        have o1 := ones 64
        have l1 : ((zs.take 64).map fun z => Value.int .u8 z).length = 64 * 1 := by simp; omega
        clear news ones hcell hwz
        go_enter Try.func22, Try.ntmps22
        go_wp2_with (first
          | (at_builtin; go_loud (refine wpList_append_own _ rfl _ _ 36 rfl w.heap.size 5 i0 (.int .u8 0) 1 1 Try.underlying36 hi hz0 hz1 hz2 rfl (by decide) _ 0 [] rfl own x 64 cap _ rfl l1 n1 o1 (by unfold maxLen at *; omega) (by omega) (by simp) ?_))
          | go_in)
        intro v' w1 hown' hgrow hnil
        go_wp2
        go_ret
        refine ⟨?_, ((Below.refl _ _).alloc (Nat.le_refl _) _).grown hgrow (by simp) (fun k hk => by
          have hk : some w.heap.size = some k := hk
          injection hk with hk; omega)⟩
        rcases hown'.2 with ⟨rfl, hn⟩ | ⟨g, c, cur, rfl, _⟩
        · exact ⟨_, _, _, rfl⟩
        · exact ⟨_, _, _, rfl⟩

theorem row_stays {k : IntKind} {W w : World} {a : Option Addr} {len cap : Nat} {zs : List Int} (h : IsRow k W a len cap zs) (hw : ∀ i, i < W.heap.size → w.heap[i]? = W.heap[i]?) : IsRow k w a len cap zs := by
  rcases h with h | ⟨x, rfl, hl, hm, hz, hcell, hwz⟩
  · exact .inl h
  · refine .inr ⟨x, rfl, hl, hm, hz, fun i hi => ?_, hwz⟩
    have hc := hcell i hi
    rw [← hc]
    exact World.cell?_of_block (w := W) (hw _ (cell_in hc))
/-- What is said of keys: some value, of slices 5 to 8. -/
def keyCon : ConFn := fun args n => match args with | [.slc i] => (match Nat.ble 5 i && Nat.ble i 8 with | true => some (.opq n, n + 1) | false => none) | _ => none
theorem hyp_key {c : Ctx} {ι : Env} {W : World} (hcon : c.con = [(22, keyCon)]) (hP : c.P = Try.prog) (hm : Try.prog.follows .mixedOrders = true) (hbase : c.base = W.heap.size) (hbw : c.bw = W)
    (hrow : ∀ i, 5 ≤ i → i ≤ 8 → ∃ zs, IsRow .u8 W (ι.sa i) (ι.sl i) (ι.sc i) zs) (hr : c.rows = [] := by rfl) (hl : c.lps = [] := by rfl) : Hyp c ι := by
  refine ⟨by rw [hP]; exact hm, ?_, rows_nil hr, lps_nil hl⟩
  refine (fun g' f hf args nxt v n hfa hn β w hgl hb1 hb2 hs => ?_)
  rw [hcon] at hf
  have hf : (Bool.rec none (some keyCon) (Nat.beq 22 g') : Option ConFn) = some f := hf
  cases hg : Nat.beq 22 g' with
  | false => rw [hg] at hf; cases hf
  | true =>
    rw [hg] at hf
    have hf : some keyCon = some f := hf
    injection hf with hf; subst hf
    have hg := Nat.eq_of_beq_eq_true hg
    subst hg
    unfold keyCon at hfa
    split at hfa
    · rename_i i
      split at hfa
      · rename_i hi
        simp only [Bool.and_eq_true, Nat.ble_eq] at hi
        injection hfa with hfa; injection hfa with e1 e2; subst e1; subst e2
        obtain ⟨zs, hr⟩ := hrow i hi.1 hi.2
        have hr' := row_stays (w := w) hr (fun k hk => by have := hb2 k (by rw [hbase]; exact hk); rw [hbw] at this; exact this)
        rw [hP]
        refine (key_calls hr').mono fun e W' ⟨⟨x, l, cp, he⟩, hbel⟩ => ?_
        let γ : Bt := ⟨β.blk, fun j => if j = nxt then .slice x l cp else β.val j, fun j => by split; rfl; exact β.one _⟩
        refine ⟨γ, fun j hj => ⟨rfl, ?_⟩, fun β' hb => ?_, hbel⟩
        · show (if j = nxt then _ else _) = _
          rw [if_neg (by omega)]
        · rw [he]
          simp only [SV.den]
          rw [(hb nxt (Nat.lt_succ_self _)).2]
          show _ = Ending.returned (if nxt = nxt then _ else _)
          rw [if_pos rfl]
      · cases hfa
    · cases hfa
end Go.Proofs.Ytkglnkfoeedmoab
