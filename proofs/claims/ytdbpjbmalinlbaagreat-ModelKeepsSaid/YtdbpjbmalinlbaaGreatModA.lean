/- The model's world: a map of things by their keys, told as a function; The map's operations in a walk; contracts of New, Get, put; Contracts of Get and Of; Contract of Of. -/
import Derived.Test.YtdbpjbmalinlbaaGreatRulZi
import Derived.Maps.RangeWalk
import Derived.DeepKeys4
import Derived.Deep.RegionHeld2
namespace Go.Proofs.YtdbpjbmalinlbaaGreat
open Go.RowKit
open Go.Maps (Keyed)

theorem Tryz.laidOut : laidOutB Tryz.prog = true := by kernel_rfl
theorem Tryz.keyRow : 52 < Tryz.prog.types.size := of_decide_eq_true (by kernel_rfl)
theorem Tryz.keyWide : (match Tryz.prog.underlying 52 with | some (.array _ _) | some (.struct _) => true | _ => false) = true := by kernel_rfl
theorem Tryz.keyIs : Tryz.prog.keyType 52 = true := by kernel_rfl
theorem Tryz.keyAt3 : Tryz.prog.keyTypeAt 3 52 = true := by kernel_rfl
theorem keyLaw : Keyed Tryz.prog 52 := Keyed.of_law (deep_law_laid Tryz.laidOut (m := 3) (by omega) Tryz.keyRow Tryz.keyAt3 (by rw [Tryz.underlying52]))

def KyOk (k : Ky) : Prop := (0 ≤ k.1 ∧ k.1 ≤ 255) ∧ (0 ≤ k.2.1 ∧ k.2.1 ≤ 4294967295) ∧ (0 ≤ k.2.2 ∧ k.2.2 ≤ 4294967295)
def kyV (k : Ky) : Value := .agg #[.int .u8 k.1, .int .u32 k.2.1, .int .u32 k.2.2]
def kyL (k : Ky) : Lit := .string (keyBytes [.int .u8 k.1, .int .u32 k.2.1, .int .u32 k.2.2])
theorem Tryz.cells24 : Tryz.prog.cellsOf 52 = 3 := by kernel_rfl
theorem Tryz.cellsu8 : Tryz.prog.cellsOf 5 = 1 := by kernel_rfl
theorem Tryz.cellsu32 : Tryz.prog.cellsOf 23 = 1 := by kernel_rfl

set_option maxRecDepth 4000 in
theorem key_of {k : Ky} (h : KyOk k) : keyOf Tryz.prog 52 (kyV k) = some (kyL k) := by
  obtain ⟨⟨h1, h2⟩, ⟨h3, h4⟩, h5, h6⟩ := h
  have w1 : (Lit.int .u8 k.1).wf = true := by simp only [Lit.wf, Bool.and_eq_true, decide_eq_true_eq]; exact ⟨by assumption, by assumption⟩
  have w2 : (Lit.int .u32 k.2.1).wf = true := by simp only [Lit.wf, Bool.and_eq_true, decide_eq_true_eq]; exact ⟨by assumption, by assumption⟩
  have w3 : (Lit.int .u32 k.2.2).wf = true := by simp only [Lit.wf, Bool.and_eq_true, decide_eq_true_eq]; exact ⟨by assumption, by assumption⟩
  unfold keyOf
  rw [Tryz.underlying52]
  obtain ⟨m, hm⟩ : ∃ m, Tryz.prog.types.size + 1 = m + 2 := ⟨Tryz.prog.types.size - 1, by have := Tryz.keyRow; omega⟩
  simp only [Tryz.keyIs, Bool.true_and, hm]
  have hf : Value.formed Tryz.prog 52 (kyV k) = true := by simp [Value.formed, kyV, Tryz.underlying52, Tryz.cells24]
  rw [if_pos hf]
  simp [Program.keyLits, kyV, kyL, Value.cells, Tryz.underlying52, Tryz.underlying5, Tryz.underlying23, Tryz.cells24, Tryz.cellsu8, Tryz.cellsu32, w1, w2, w3]

theorem arr3 {cs : Array Value} (h : cs.size = 3) : ∃ a b c, cs = #[a, b, c] := by
  obtain ⟨l⟩ := cs
  match l, h with
  | [a, b, c], _ => exact ⟨a, b, c, rfl⟩

theorem lits_int {P : Program} {m : Nat} {t : TypeId} {q : IntKind} (ht : P.underlying t = some (.int q)) {v : Value} {ls : List Lit} (h : P.keyLits (m + 1) t [v] = some ls) : ∃ a, v = .int q a ∧ ls = [.int q a] ∧ (Lit.int q a).wf = true := by
  unfold Program.keyLits at h
  rw [ht] at h
  cases v <;> simp at h
  obtain ⟨⟨rfl, hw⟩, rfl⟩ := h
  exact ⟨_, rfl, rfl, hw⟩
theorem lits_key {m : Nat} {a b c : Value} {ls : List Lit} (h : Tryz.prog.keyLits (m + 2) 52 [a, b, c] = some ls) :
    ∃ x y z, Tryz.prog.keyLits (m + 1) 5 [a] = some x ∧ Tryz.prog.keyLits (m + 1) 23 [b] = some y ∧ Tryz.prog.keyLits (m + 1) 23 [c] = some z ∧ ls = x ++ (y ++ z) := by
  unfold Program.keyLits at h
  simp only [Tryz.underlying52, Tryz.cells24] at h
  simp only [List.mapM_cons, List.mapM_nil, List.drop, List.take, Tryz.cellsu8, Tryz.cellsu32] at h
  split at h
  · cases e1 : Tryz.prog.keyLits (m + 1) 5 [a] with
    | none => simp [e1] at h
    | some x =>
      cases e2 : Tryz.prog.keyLits (m + 1) 23 [b] with
      | none => simp [e1, e2] at h
      | some y =>
        cases e3 : Tryz.prog.keyLits (m + 1) 23 [c] with
        | none => simp [e1, e2, e3] at h
        | some z =>
          simp [e1, e2, e3] at h
          exact ⟨x, y, z, rfl, rfl, rfl, h.symm⟩
  · cases h
set_option maxRecDepth 4000 in
theorem key_inv {v : Value} {l : Lit} (h : keyOf Tryz.prog 52 v = some l) : ∃ k, KyOk k ∧ v = kyV k ∧ l = kyL k := by
  unfold keyOf at h
  rw [Tryz.underlying52] at h
  obtain ⟨m, hm⟩ : ∃ m, Tryz.prog.types.size + 1 = m + 2 := ⟨Tryz.prog.types.size - 1, by have := Tryz.keyRow; omega⟩
  simp only [Tryz.keyIs, Bool.true_and, hm] at h
  split at h
  · rename_i hf
    cases v <;> simp [Value.formed, Tryz.underlying52, Tryz.cells24] at hf
    obtain ⟨a, b, c, rfl⟩ := arr3 hf
    cases hl : Tryz.prog.keyLits (m + 2) 52 [a, b, c] with
    | none => simp [Value.cells, hl] at h
    | some ls =>
      simp [Value.cells, hl] at h
      subst h
      obtain ⟨x, y, z, h1, h2, h3, rfl⟩ := lits_key hl
      obtain ⟨a1, rfl, rfl, w1⟩ := lits_int Tryz.underlying5 h1
      obtain ⟨b1, rfl, rfl, w2⟩ := lits_int Tryz.underlying23 h2
      obtain ⟨c1, rfl, rfl, w3⟩ := lits_int Tryz.underlying23 h3
      simp only [Lit.wf, Bool.and_eq_true, decide_eq_true_eq] at w1 w2 w3
      exact ⟨(a1, b1, c1), ⟨w1, w2, w3⟩, rfl, rfl⟩
  · cases h
theorem kyV_inj {k k' : Ky} (h : kyV k = kyV k') : k = k' := by
  obtain ⟨a, b, c⟩ := k
  obtain ⟨a', b', c'⟩ := k'
  simp [kyV] at h
  obtain ⟨rfl, rfl, rfl⟩ := h
  rfl
theorem kyL_inj {k k' : Ky} (h : KyOk k) (h' : KyOk k') (e : kyL k = kyL k') : k = k' := kyV_inj (keyLaw.inj (key_of h) (e ▸ key_of h'))
theorem kyL_key (k : Ky) : WideAt.IsKeyLit (kyL k) := trivial

/-- How a thing reads. -/
def vlV (v : Vl) : Value := .agg #[.int .u64 v.1, .int .u64 v.2]
def vlD (v : Vl) : DataW Unit := .agg [.lit (.int .u64 v.1), .lit (.int .u64 v.2)]
def valR : Value → Option (DataW Unit × List MemPlace)
  | .agg ⟨[.int .u64 a, .int .u64 b]⟩ => some (vlD (a, b), [])
  | _ => none
theorem valR_mk (v : Vl) : valR (vlV v) = some (vlD v, []) := rfl
theorem valR_inv {v : Value} {z : DataW Unit × List MemPlace} (h : valR v = some z) : ∃ x, v = vlV x ∧ z = (vlD x, []) := by
  unfold valR at h
  split at h
  · rename_i a b
    cases h
    exact ⟨(a, b), rfl, rfl⟩
  · cases h
theorem vlD_inj {x y : Vl} (h : vlD x = vlD y) : x = y := by
  obtain ⟨a, b⟩ := x
  obtain ⟨c, d⟩ := y
  simp [vlD] at h
  obtain ⟨rfl, rfl⟩ := h
  rfl

/-- What is there, as a function. -/
abbrev Mp := Ky → Option Vl
def Mp.put (f : Mp) (k : Ky) (v : Vl) : Mp := fun k' => if k' = k then some v else f k'
def Mp.del (f : Mp) (k : Ky) : Mp := fun k' => if k' = k then none else f k'
/-- The datum D tells f. -/
def Tells (D : DataW Unit) (f : Mp) : Prop := Maps.Tidy D ∧ ∀ k, KyOk k → match f k with
  | none => Maps.has D (kyL k) = false
  | some v => ∀ z, D.atKey (kyL k) z = vlD v
theorem Tells.none {D : DataW Unit} {f : Mp} {k : Ky} (h : Tells D f) (hk : KyOk k) (e : f k = none) : Maps.has D (kyL k) = false := by
  have := h.2 k hk; rw [e] at this; exact this
theorem Tells.some {D : DataW Unit} {f : Mp} {k : Ky} {v : Vl} (h : Tells D f) (hk : KyOk k) (e : f k = some v) : ∀ z, D.atKey (kyL k) z = vlD v := by
  have := h.2 k hk; rw [e] at this; exact this
theorem tells_empty : Tells (.map []) (fun _ => none) := ⟨Maps.tidy_empty, fun _ _ => rfl⟩
theorem Tells.put {D : DataW Unit} {f : Mp} (h : Tells D f) {k : Ky} (hk : KyOk k) (v : Vl) : Tells (D.put (kyL k) (vlD v)) (f.put k v) := by
  refine ⟨h.1.put (kyL_key k) _, fun k' hk' => ?_⟩
  by_cases e : k' = k
  · subst e
    simp only [Mp.put, if_true]
    exact fun z => Maps.atKey_put_same h.1.isMap (kyL_key k') _ z
  · have hne : kyL k' ≠ kyL k := fun e' => e (kyL_inj hk' hk e')
    simp only [Mp.put, if_neg e]
    have := h.2 k' hk'
    cases hf : f k' with
    | none => rw [hf] at this; simp only; rw [Maps.has_put_other hne]; exact this
    | some v' => rw [hf] at this; simp only; intro z; rw [Maps.atKey_put_other hne]; exact this z
theorem Tells.del {D : DataW Unit} {f : Mp} (h : Tells D f) {k : Ky} (hk : KyOk k) : Tells (D.del (kyL k)) (f.del k) := by
  refine ⟨h.1.del _, fun k' hk' => ?_⟩
  by_cases e : k' = k
  · subst e
    simp only [Mp.del, if_true]
    exact Maps.has_del_same
  · have hne : kyL k' ≠ kyL k := fun e' => e (kyL_inj hk' hk e')
    simp only [Mp.del, if_neg e]
    have := h.2 k' hk'
    cases hf : f k' with
    | none => rw [hf] at this; simp only; rw [Maps.has_del_other hne]; exact this
    | some v' => rw [hf] at this; simp only; intro z; rw [Maps.atKey_del_other hne]; exact this z
theorem Tells.look {D : DataW Unit} {f : Mp} {k : Ky} (h : Tells D f) (hk : KyOk k) : D.atKey (kyL k) (vlD (0, 0)) = vlD ((f k).getD (0, 0)) ∧ Maps.has D (kyL k) = (f k).isSome := by
  cases e : f k with
  | none => exact ⟨Maps.atKey_of_not_has (h.none hk e) _, h.none hk e⟩
  | some v => exact ⟨h.some hk e _, Maps.has_true_of_atKey (h.some hk e)⟩

/-- Block b is a map of at most n things that is f. -/
def MapIs (w : World) (b n : Nat) (f : Mp) : Prop := ∃ D, w.ownsMap Tryz.prog 52 valR b n D ∧ Tells D f
theorem MapIs.lt {w : World} {b n : Nat} {f : Mp} (h : MapIs w b n f) : b < w.heap.size := by obtain ⟨D, h, _⟩ := h; exact h.lt
theorem MapIs.kept {w w' : World} {b n : Nat} {f : Mp} {row : Option Nat} (h : MapIs w b n f) (hg : w.grownBy w' row) (hne : some b ≠ row) : MapIs w' b n f := by
  obtain ⟨D, h, ht⟩ := h
  exact ⟨D, h.kept hg hne, ht⟩
theorem MapIs.below {w w' : World} {b n : Nat} {f : Mp} (h : MapIs w b n f) (B : Below w.heap.size w w') : MapIs w' b n f :=
  h.kept (row := none) ⟨B.os, B.tape, B.output, B.size, fun i hi _ => B.block i hi⟩ (by simp)
end Go.Proofs.YtdbpjbmalinlbaaGreat

namespace Go.Proofs.YtdbpjbmalinlbaaGreat
open Go.RowKit
open Go.Maps (Keyed)

theorem Tryz.zeroVal (w : World) : (zeroValue 48).run Tryz.prog w = .ok (vlV (0, 0)) w := by kernel_rfl

theorem step_of_wp {P : Program} {w : World} {ops : Array Oper} {o : Oper} {a : Act} {K : Act → World → Prop} {Q : Exit → Act → World → Prop} {E : Prop} (hgd : o.guard = none) (h : Oper.wp P o a w K Q) :
    if Region.wanted o (yielded ops a.tmps) = true then Oper.wp P o a w K Q else E := by
  have hw : Region.wanted o (yielded ops a.tmps) = true := by simp [Region.wanted, hgd]
  rw [if_pos hw]
  exact h

section
variable {w : World} {ops : Array Oper} {rest : List Oper} {o : Oper} {a : Act} {K : Act → World → Prop} {Q : Exit → Act → World → Prop} {b n : Nat} {f : Mp}

theorem drew_grown {w w' : World} {row : Option Nat} (h : w.drew.grownBy w' row) : w.grownBy w' row := ⟨h.os, h.tape, h.output, h.size, h.block⟩
theorem store_run (h : MapIs w b n f) (hn : n < maxLen) {k : Ky} (hk : KyOk k) (y : Vl) :
    ∃ w', (Instr.mapUpdate 53 (.map (some b)) (.agg #[.int .u8 k.1, .int .u32 k.2.1, .int .u32 k.2.2]) (.agg #[.int .u64 y.1, .int .u64 y.2])).run Tryz.prog w = .ok () w' ∧ MapIs w' b (n + 1) (f.put k y) ∧ w.grownBy w' (some b) := by
  obtain ⟨D, hown, ht⟩ := h
  obtain ⟨w', hrun, r1, r2⟩ := hown.update keyLaw Tryz.underlying53 hn (key_of hk) (valR_mk y)
  exact ⟨w', hrun, ⟨_, r1, ht.put hk y⟩, r2⟩
theorem look_run (h : MapIs w b n f) {k : Ky} (hk : KyOk k) :
    (Instr.lookup 53 (.map (some b)) (.agg #[.int .u8 k.1, .int .u32 k.2.1, .int .u32 k.2.2]) true).run Tryz.prog w = .ok (.tuple #[.agg #[.int .u64 ((f k).getD (0, 0)).1, .int .u64 ((f k).getD (0, 0)).2], .bool (f k).isSome]) w := by
  obtain ⟨D, hown, ht⟩ := h
  obtain ⟨v, ps, hrun, hv⟩ := hown.look_ok keyLaw Tryz.underlying53 (Tryz.zeroVal w) (valR_mk (0, 0)) (key_of hk)
  obtain ⟨y, rfl, hy⟩ := valR_inv hv
  obtain ⟨e1, e2⟩ := ht.look hk
  have e3 := congrArg Prod.fst hy
  simp only at e3
  rw [e1] at e3
  rw [← vlD_inj e3, e2] at hrun
  exact hrun
theorem wp_store_is (m x v : Operand) (hop : o.op = Op.mapUpdate 53 m x v) (hm : a.eval m = .map (some b)) (h : MapIs w b n f) (hn : n < maxLen) (k : Ky) (hk : KyOk k) (y : Vl) (hx : a.eval x = kyV k) (hv : a.eval v = vlV y)
    (hK : ∀ w', MapIs w' b (n + 1) (f.put k y) → w.grownBy w' (some b) → K (a.put o.dst undef) w') : o.wp Tryz.prog a w K Q := by
  obtain ⟨D, hown, ht⟩ := h
  obtain ⟨w', hrun, r1, r2⟩ := hown.update keyLaw Tryz.underlying53 hn (key_of hk) (valR_mk y)
  unfold Oper.wp
  simp [execOp, hop, hm, hx, hv, hrun, Result.andThen]
  exact hK w' ⟨_, r1, ht.put hk y⟩ r2
theorem wp_delete_is (m x : Operand) (hop : o.op = Op.call { callee := Callee.builtin Builtin.delete, args := #[m, x], argTypes := #[53, 52] }) (hm : a.eval m = .map (some b)) (h : MapIs w b n f) (k : Ky) (hk : KyOk k) (hx : a.eval x = kyV k)
    (hK : ∀ w', MapIs w' b n (f.del k) → w.grownBy w' (some b) → K (a.put o.dst (.tuple #[])) w') : o.wp Tryz.prog a w K Q := by
  obtain ⟨D, hown, ht⟩ := h
  obtain ⟨w', hrun, r1, r2⟩ := hown.drop keyLaw Tryz.underlying53 (key_of hk) o.type
  unfold Oper.wp
  simp [execOp, hop, resolve, invoke, builtin, hm, hx, hrun, Result.andThen]
  exact hK w' ⟨_, r1, ht.del hk⟩ r2.grown
theorem wp_look_is (m x : Operand) (hop : o.op = Op.lookup 53 m x true) (hm : a.eval m = .map (some b)) (h : MapIs w b n f) (k : Ky) (hk : KyOk k) (hx : a.eval x = kyV k)
    (hK : K (a.put o.dst (.tuple #[vlV ((f k).getD (0, 0)), .bool (f k).isSome])) w) : o.wp Tryz.prog a w K Q := by
  obtain ⟨D, hown, ht⟩ := h
  obtain ⟨v, ps, hrun, hv⟩ := hown.look_ok keyLaw Tryz.underlying53 (Tryz.zeroVal w) (valR_mk (0, 0)) (key_of hk)
  obtain ⟨y, rfl, hy⟩ := valR_inv hv
  obtain ⟨e1, e2⟩ := ht.look hk
  have e3 := congrArg Prod.fst hy
  simp only at e3
  rw [e1] at e3
  rw [← vlD_inj e3, e2] at hrun
  unfold Oper.wp
  simp [execOp, hop, hm, hx, hrun, Result.andThen]
  exact hK
end

set_option maxRecDepth 100000 in
theorem new_any (w : World) : Calls Tryz.prog 5 #[] w fun e w' => e = .returned (.pointer (some ⟨w.heap.size + 1, 0, none⟩)) ∧ MapIs w' w.heap.size 0 (fun _ => none) ∧ w'.heap[w.heap.size + 1]? = some (.cells #[.map (some w.heap.size)] 55) ∧ Below w.heap.size w w' := by
  have hmm := @run_makeMap Tryz.prog
  go_enter Tryz.func5, Tryz.ntmps5
  go_wp2
  go_ret
  have h1 : MapIs (w.alloc (.map #[] 0)) w.heap.size 0 (fun _ => none) := ⟨_, World.ownsMap_made w _ _ _, tells_empty⟩
  exact ⟨rfl, h1.below (below_alloc _ _), by have := heap_alloc_new (w.alloc (.map #[] 0)) (.cells #[.map (some w.heap.size)] 55); rwa [World.size_alloc] at this, below_trans (below_alloc _ _) (below_alloc _ _)⟩

/-- A world at hand: its one cell in block A, its map in block b. -/
structure WSt (A b n : Nat) (f : Mp) (w : World) : Prop where
  cell : w.heap[A]? = some (.cells #[.map (some b)] 55)
  is : MapIs w b n f
section
variable {A b n : Nat} {f : Mp} {w w' : World}
theorem WSt.ltA (S : WSt A b n f w) : A < w.heap.size := (Array.getElem?_eq_some_iff.1 S.cell).1
theorem WSt.ltb (S : WSt A b n f w) : b < w.heap.size := S.is.lt
theorem WSt.ne (S : WSt A b n f w) : A ≠ b := by
  obtain ⟨D, ⟨es, clock, hb, _⟩, _⟩ := S.is
  intro e
  have := S.cell
  rw [e, hb] at this
  cases this
theorem WSt.kept {row : Option Nat} (S : WSt A b n f w) (hg : w.grownBy w' row) (hA : some A ≠ row) (hb : some b ≠ row) : WSt A b n f w' :=
  ⟨(hg.block A S.ltA hA).trans S.cell, S.is.kept hg hb⟩
theorem WSt.below (S : WSt A b n f w) (B : Below w.heap.size w w') : WSt A b n f w' :=
  S.kept (row := none) ⟨B.os, B.tape, B.output, B.size, fun i hi _ => B.block i hi⟩ (by simp) (by simp)
theorem WSt.turned {n' : Nat} {f' : Mp} (S : WSt A b n f w) (hg : w.grownBy w' (some b)) (h : MapIs w' b n' f') : WSt A b n' f' w' :=
  ⟨(hg.block A S.ltA (by simpa using S.ne)).trans S.cell, h⟩
theorem WSt.c0 (S : WSt A b n f w) : w.cell? ⟨A, 0, none⟩ = some (.map (some b)) := by simp [cell_of_heap S.cell]
end
theorem MapIs.mono {w : World} {b n n' : Nat} {f : Mp} (h : MapIs w b n f) (hn : n ≤ n') : MapIs w b n' f := by
  obtain ⟨D, h, ht⟩ := h
  exact ⟨D, h.mono hn, ht⟩
def Mp.putP (f : Mp) (q : Pt) : Mp := if q.gone then f.del q.k else f.put q.k q.v

set_option maxRecDepth 100000 in
set_option maxHeartbeats 1000000 in
theorem put_w {A b n : Nat} {f : Mp} {w : World} (S : WSt A b n f w) (hn : n < maxLen) (q : Pt) (hk : KyOk q.k) :
    Calls Tryz.prog 18 #[.pointer (some ⟨A, 0, none⟩), .agg #[.int .u8 q.k.1, .int .u32 q.k.2.1, .int .u32 q.k.2.2, .int .u64 q.v.1, .int .u64 q.v.2, .bool q.gone]] w fun e w' =>
      e = .returned (.tuple #[]) ∧ WSt A b (n + 1) (f.putP q) w' ∧ w.grownBy w' (some b) := by
  cases hg : q.gone
  · go_enter Tryz.func18, Tryz.ntmps18
    go_upto_region 3 with fail
    have S1 := S.below (below_alloc w (.cells #[.int .u8 q.k.1, .int .u32 q.k.2.1, .int .u32 q.k.2.2, .int .u64 q.v.1, .int .u64 q.v.2, .bool false] 66))
    have g1 := World.grownBy_alloc w (.cells #[.int .u8 q.k.1, .int .u32 q.k.2.1, .int .u32 q.k.2.2, .int .u64 q.v.1, .int .u64 q.v.2, .bool false] 66) (some b)
    have pb := heap_alloc_new w (.cells #[.int .u8 q.k.1, .int .u32 q.k.2.1, .int .u32 q.k.2.2, .int .u64 q.v.1, .int .u64 q.v.2, .bool false] 66)
    obtain ⟨B, hB⟩ : ∃ v, v = w.heap.size := ⟨_, rfl⟩
    obtain ⟨w1, hw1⟩ : ∃ v, v = w.alloc (.cells #[.int .u8 q.k.1, .int .u32 q.k.2.1, .int .u32 q.k.2.2, .int .u64 q.v.1, .int .u64 q.v.2, .bool false] 66) := ⟨_, rfl⟩
    rw [← hw1] at S1 g1 pb ⊢
    rw [← hB] at pb ⊢
    have lB : B < w1.heap.size := (Array.getElem?_eq_some_iff.1 pb).1
    have hbB : some B ≠ some b := by have := S.ltb; simp; omega
    clear hw1 hB S
    have lA := S1.ltA
    have c0 := S1.c0
    have y0 : w1.cell? ⟨B, 0, none⟩ = some (.int .u8 q.k.1) := by simp [cell_of_heap pb]
    have y1 : w1.cell? ⟨B, 1, none⟩ = some (.int .u32 q.k.2.1) := by simp [cell_of_heap pb]
    have y2 : w1.cell? ⟨B, 2, none⟩ = some (.int .u32 q.k.2.2) := by simp [cell_of_heap pb]
    have y3 : w1.cell? ⟨B, 3, none⟩ = some (.int .u64 q.v.1) := by simp [cell_of_heap pb]
    have y4 : w1.cell? ⟨B, 4, none⟩ = some (.int .u64 q.v.2) := by simp [cell_of_heap pb]
    replace pb := Lib.hid pb
    have hi : MapIs w1.drew b n f := S1.is
    obtain ⟨w2, hrun, h2, g2⟩ := store_run hi hn hk q.v
    have g3 := drew_grown g2
    go_region_held2 (fun w' => w'.cell? ⟨A, 0, none⟩ = some (.map (some b)) ∧ w'.cell? ⟨B, 0, none⟩ = some (.int .u8 q.k.1) ∧ w'.cell? ⟨B, 1, none⟩ = some (.int .u32 q.k.2.1) ∧ w'.cell? ⟨B, 2, none⟩ = some (.int .u32 q.k.2.2) ∧ w'.cell? ⟨B, 3, none⟩ = some (.int .u64 q.v.1) ∧ w'.cell? ⟨B, 4, none⟩ = some (.int .u64 q.v.2))
      (first | exact ⟨c0, y0, y1, y2, y3, y4⟩ | exact ⟨(S1.turned g3 h2).c0, (g3.cell_far ⟨B, 0, none⟩ lB hbB).trans y0, (g3.cell_far ⟨B, 1, none⟩ lB hbB).trans y1, (g3.cell_far ⟨B, 2, none⟩ lB hbB).trans y2, (g3.cell_far ⟨B, 3, none⟩ lB hbB).trans y3, (g3.cell_far ⟨B, 4, none⟩ lB hbB).trans y4⟩ | go_keep)
      (fail)
    all_goals (
      go_end0
      exact ⟨rfl, by have := S1.turned g3 h2; simpa [Mp.putP, hg] using this, g1.trans g3⟩)
  · go_enter Tryz.func18, Tryz.ntmps18
    go_upto_region 2 with fail
    have S1 := S.below (below_alloc w (.cells #[.int .u8 q.k.1, .int .u32 q.k.2.1, .int .u32 q.k.2.2, .int .u64 q.v.1, .int .u64 q.v.2, .bool true] 66))
    have g1 := World.grownBy_alloc w (.cells #[.int .u8 q.k.1, .int .u32 q.k.2.1, .int .u32 q.k.2.2, .int .u64 q.v.1, .int .u64 q.v.2, .bool true] 66) (some b)
    have pb := heap_alloc_new w (.cells #[.int .u8 q.k.1, .int .u32 q.k.2.1, .int .u32 q.k.2.2, .int .u64 q.v.1, .int .u64 q.v.2, .bool true] 66)
    obtain ⟨B, hB⟩ : ∃ v, v = w.heap.size := ⟨_, rfl⟩
    obtain ⟨w1, hw1⟩ : ∃ v, v = w.alloc (.cells #[.int .u8 q.k.1, .int .u32 q.k.2.1, .int .u32 q.k.2.2, .int .u64 q.v.1, .int .u64 q.v.2, .bool true] 66) := ⟨_, rfl⟩
    rw [← hw1] at S1 g1 pb ⊢
    rw [← hB] at pb ⊢
    have lB : B < w1.heap.size := (Array.getElem?_eq_some_iff.1 pb).1
    have hbB : some B ≠ some b := by have := S.ltb; simp; omega
    clear hw1 hB S
    have lA := S1.ltA
    have c0 := S1.c0
    have y0 : w1.cell? ⟨B, 0, none⟩ = some (.int .u8 q.k.1) := by simp [cell_of_heap pb]
    have y1 : w1.cell? ⟨B, 1, none⟩ = some (.int .u32 q.k.2.1) := by simp [cell_of_heap pb]
    have y2 : w1.cell? ⟨B, 2, none⟩ = some (.int .u32 q.k.2.2) := by simp [cell_of_heap pb]
    have y3 : w1.cell? ⟨B, 3, none⟩ = some (.int .u64 q.v.1) := by simp [cell_of_heap pb]
    have y4 : w1.cell? ⟨B, 4, none⟩ = some (.int .u64 q.v.2) := by simp [cell_of_heap pb]
    replace pb := Lib.hid pb
    go_region_held2 (fun w' => w'.cell? ⟨A, 0, none⟩ = some (.map (some b)) ∧ w'.cell? ⟨B, 0, none⟩ = some (.int .u8 q.k.1) ∧ w'.cell? ⟨B, 1, none⟩ = some (.int .u32 q.k.2.1) ∧ w'.cell? ⟨B, 2, none⟩ = some (.int .u32 q.k.2.2))
      (first | exact ⟨c0, y0, y1, y2⟩ | exact ⟨(S1.turned g3 h2).c0, (g3.cell_far ⟨B, 0, none⟩ lB hbB).trans y0, (g3.cell_far ⟨B, 1, none⟩ lB hbB).trans y1, (g3.cell_far ⟨B, 2, none⟩ lB hbB).trans y2⟩ | go_keep)
      ((refine step_of_wp rfl (wp_delete_is _ _ (by rfl) (by rfl) (show MapIs w1.drew b n f from S1.is) q.k hk (by rfl) ?_); intro w2 h2 g2; have g3 := drew_grown g2))
    all_goals (
      go_wp2_with fail
      exact bodyPost_ret (v := .tuple #[]) (by simp [results, Tryz.results18, go_sem]) rfl ⟨rfl, by have := S1.turned g3 (h2.mono (Nat.le_succ n)); simpa [Mp.putP, hg] using this, g1.trans g3⟩)
end Go.Proofs.YtdbpjbmalinlbaaGreat

namespace Go.Proofs.YtdbpjbmalinlbaaGreat
open Go.RowKit

theorem two_cells {w : World} {B : Nat} {a b : Value} {ty : TypeId} {fr : Nat × Nat} (h : w.heap[B]? = some (.cells #[a, b] ty fr)) : w.cell? ⟨B, 0, none⟩ = some a ∧ w.cell? ⟨B, 1, none⟩ = some b := by
  refine ⟨?_, ?_⟩ <;> rw [cell_of_row w B _ _ ty fr h] <;> rfl
theorem three_cells {w : World} {B : Nat} {a b c : Value} {ty : TypeId} {fr : Nat × Nat} (h : w.heap[B]? = some (.cells #[a, b, c] ty fr)) : w.cell? ⟨B, 0, none⟩ = some a ∧ w.cell? ⟨B, 1, none⟩ = some b ∧ w.cell? ⟨B, 2, none⟩ = some c := by
  refine ⟨?_, ?_, ?_⟩ <;> rw [cell_of_row w B _ _ ty fr h] <;> rfl

theorem fill2w {wr : World} {B : Nat} {a b : Value} {ty : TypeId} (h : wr.heap[B]? = some (.cells #[a, b] ty)) (a' b' : Value) :
    ((wr.setCell ⟨B, 0, none⟩ a').setCell ⟨B, 1, none⟩ b').heap[B]? = some (.cells #[a', b'] ty) := by
  simp [World.setCell, Array.getElem?_modify, h]

set_option maxRecDepth 100000 in
set_option maxHeartbeats 1000000 in
theorem get_w {A b n : Nat} {f : Mp} {w : World} (S : WSt A b n f w) (k : Ky) (hk : KyOk k) (v : Vl) (is : Bool) (hv : (f k).getD (0, 0) = v) (his : (f k).isSome = is) :
    Calls Tryz.prog 13 #[.pointer (some ⟨A, 0, none⟩), .agg #[.int .u8 k.1, .int .u32 k.2.1, .int .u32 k.2.2]] w fun e w' =>
      e = .returned (.tuple #[.agg #[.int .u64 v.1, .int .u64 v.2], .bool is]) ∧ Below w.heap.size w w' := by
  go_enter Tryz.func13, Tryz.ntmps13
  go_upto_region 1 with fail
  have B1 := (below_alloc w (.cells #[.int .u8 k.1, .int .u32 k.2.1, .int .u32 k.2.2] 52)).alloc (by simp) (.cells #[.int .u64 0, .int .u64 0] 48)
  have kb := heap_alloc_new w (.cells #[.int .u8 k.1, .int .u32 k.2.1, .int .u32 k.2.2] 52)
  have vb := heap_alloc_new (w.alloc (.cells #[.int .u8 k.1, .int .u32 k.2.1, .int .u32 k.2.2] 52)) (.cells #[.int .u64 0, .int .u64 0] 48)
  replace kb := (below_alloc (w.alloc (.cells #[.int .u8 k.1, .int .u32 k.2.1, .int .u32 k.2.2] 52)) (.cells #[.int .u64 0, .int .u64 0] 48)).block _ (by simp) |>.trans kb
  rw [World.size_alloc] at vb
  obtain ⟨w1, hw1⟩ : ∃ v, v = (w.alloc (.cells #[.int .u8 k.1, .int .u32 k.2.1, .int .u32 k.2.2] 52)).alloc (.cells #[.int .u64 0, .int .u64 0] 48) := ⟨_, rfl⟩
  rw [← hw1] at B1 kb vb ⊢
  clear hw1
  have S1 := S.below B1
  have c0 := S1.c0
  have lA := S1.ltA
  obtain ⟨KB, hKB⟩ : ∃ b, b = w.heap.size := ⟨_, rfl⟩
  have B2 : Below KB w w1 := hKB ▸ B1
  rw [← hKB] at kb vb ⊢
  clear B1 S
  have hKw := Lib.hid (show KB = w.heap.size from hKB)
  have hKle : w.heap.size ≤ KB := by omega
  clear hKB
  have lK : KB < w1.heap.size := (Array.getElem?_eq_some_iff.1 kb).1
  have lV : KB + 1 < w1.heap.size := (Array.getElem?_eq_some_iff.1 vb).1
  obtain ⟨k0, k1, k2⟩ := three_cells kb
  have hi1 : MapIs w1.drew b n f := S1.is
  have hi2 : MapIs (w1.alloc (.cells #[.int .u64 0, .int .u64 0] 48)).drew b n f := S1.is.below (below_alloc _ _).drew
  have hr1 := look_run hi1 hk
  have hr2 := look_run hi2 hk
  rw [hv, his] at hr1 hr2
  replace kb := Lib.hid kb
  replace vb := Lib.hid vb
  go_region_held2 (fun w' => w'.cell? ⟨A, 0, none⟩ = some (.map (some b)) ∧ w'.cell? ⟨KB, 0, none⟩ = some (.int .u8 k.1) ∧ w'.cell? ⟨KB, 1, none⟩ = some (.int .u32 k.2.1) ∧ w'.cell? ⟨KB, 2, none⟩ = some (.int .u32 k.2.2))
    (first | exact ⟨c0, k0, k1, k2⟩ | exact ⟨keepA c0, keepA k0, keepA k1, keepA k2⟩ | go_keep)
    ((fail))
  all_goals (
    have wb := ((below_alloc w1 (.cells #[.int .u64 v.1, .int .u64 v.2] 48)).drew.block _ lV).trans vb.out
    have B3 := B2.trans ((below_alloc w1 (.cells #[.int .u64 v.1, .int .u64 v.2] 48)).drew.mono (by omega))
    obtain ⟨w2, hw2⟩ : ∃ u, u = (w1.alloc (.cells #[.int .u64 v.1, .int .u64 v.2] 48)).drew := ⟨_, rfl⟩
    have nb : w2.heap[w1.heap.size]? = some (.cells #[.int .u64 v.1, .int .u64 v.2] 48) := by rw [hw2]; exact heap_alloc_new w1 _
    rw [← hw2] at wb B3 ⊢
    clear hw2
    obtain ⟨x0, x1⟩ := two_cells wb
    obtain ⟨n0, n1⟩ := two_cells nb
    have f0 := frozen_of_heap wb 0
    have f1 := frozen_of_heap wb 1
    go_wp2_with fail
    have fb := fill2w wb (.int .u64 v.1) (.int .u64 v.2)
    have B4 := (B3.setCell (p := ⟨KB + 1, 0, none⟩) (Nat.le_succ _) (.int .u64 v.1)).setCell (p := ⟨KB + 1, 1, none⟩) (Nat.le_succ _) (.int .u64 v.2)
    obtain ⟨w3, hw3⟩ : ∃ u, u = (w2.setCell ⟨KB + 1, 0, none⟩ (.int .u64 v.1)).setCell ⟨KB + 1, 1, none⟩ (.int .u64 v.2) := ⟨_, rfl⟩
    rw [← hw3] at fb B4 ⊢
    clear hw3
    obtain ⟨z0, z1⟩ := two_cells fb
    rw [hKw.out] at B4
    exact bodyPost_ret (v := .tuple #[.agg #[.int .u64 v.1, .int .u64 v.2], .bool is]) (by simp [results, Tryz.results13, go_sem, z0, z1]) rfl ⟨rfl, B4⟩)
end Go.Proofs.YtdbpjbmalinlbaaGreat

namespace Go.Proofs.YtdbpjbmalinlbaaGreat
open Go.RowKit

theorem seenAt_six {w : World} {x : Nat} {a : Option Addr} {n c : Nat} {vs : List Cel} (h : SeenAt x w (.slice a n c) vs) {i : Nat} {q : Cel} (hi : vs[i]? = some q) :
    ∃ b off, a = some ⟨b, off, none⟩ ∧ b < x ∧ w.cell? ⟨b, off + i * 6, none⟩ = some (.int .u8 q.k.1) ∧ w.cell? ⟨b, off + i * 6 + 1, none⟩ = some (.int .u32 q.k.2.1) ∧ w.cell? ⟨b, off + i * 6 + 2, none⟩ = some (.int .u32 q.k.2.2) ∧
      w.cell? ⟨b, off + i * 6 + 3, none⟩ = some (.int .u64 q.v.1) ∧ w.cell? ⟨b, off + i * 6 + 4, none⟩ = some (.int .u64 q.v.2) ∧ w.cell? ⟨b, off + i * 6 + 5, none⟩ = some (.bool q.is) := by
  obtain ⟨a', c', hv, _, h⟩ := h
  cases hv
  rcases h with rfl | ⟨b, off, ha, hb, h⟩
  · simp at hi
  · exact ⟨b, off, ha, hb, h i q hi 0 _ rfl, h i q hi 1 _ rfl, h i q hi 2 _ rfl, h i q hi 3 _ rfl, h i q hi 4 _ rfl, h i q hi 5 _ rfl⟩

def ofS (f : Mp) (c : Cel) : Mp := if c.is then f.put c.k c.v else f
def ofL (s : List Cel) : Mp := s.foldl ofS (fun _ => none)
theorem ofL_take {s : List Cel} {j : Nat} {c : Cel} (h : s[j]? = some c) : ofL (s.take (j + 1)) = ofS (ofL (s.take j)) c := by
  rw [List.take_add_one, h]; simp [ofL, List.foldl_append]

theorem below_grown {w w' : World} {row : Option Nat} {base : Nat} (hg : w.grownBy w' row) (hb : base ≤ w.heap.size) (hr : ∀ b, row = some b → base ≤ b) : Below base w w' :=
  ⟨hg.os, hg.tape, hg.output, hg.size, fun b hlt => hg.block b (by omega) (fun e => by have := hr b e.symm; omega)⟩
theorem six_cells {w : World} {B : Nat} {a b c d e f : Value} {ty : TypeId} {fr : Nat × Nat} (h : w.heap[B]? = some (.cells #[a, b, c, d, e, f] ty fr)) :
    w.cell? ⟨B, 0, none⟩ = some a ∧ w.cell? ⟨B, 1, none⟩ = some b ∧ w.cell? ⟨B, 2, none⟩ = some c ∧ w.cell? ⟨B, 3, none⟩ = some d ∧ w.cell? ⟨B, 4, none⟩ = some e ∧ w.cell? ⟨B, 5, none⟩ = some f := by
  refine ⟨?_, ?_, ?_, ?_, ?_, ?_⟩ <;> rw [cell_of_row w B _ _ ty fr h] <;> rfl

end Go.Proofs.YtdbpjbmalinlbaaGreat
