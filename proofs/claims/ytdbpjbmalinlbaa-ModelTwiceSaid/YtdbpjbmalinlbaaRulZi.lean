/- The law's own look. -/
import Derived.Test.YtdbpjbmalinlbaaRulZh
import Derived.Deep.DeepCutAuto
namespace Go.Proofs.Ytdbpjbmalinlbaa
open Go.RowKit

theorem Try.infoCel : (Try.prog.info? 49).map (fun i => (i.zero, i.size, i.bytes)) = some (some (.agg #[.int .u8 0, .int .u32 0, .int .u32 0, .int .u64 0, .int .u64 0, .bool false]), 6, 40) := by kernel_rfl

def celCells (l : List Cel) : List Value := l.flatMap celRow
theorem celCells_snoc (l : List Cel) (c : Cel) : celCells (l ++ [c]) = celCells l ++ celRow c := by simp [celCells]
theorem celCells_at {l : List Cel} : ∀ (j : Nat) (q : Cel) (i : Nat), l[j]? = some q → i < 6 → (celCells l)[j * 6 + i]? = (celRow q)[i]? := by
  induction l with
  | nil => intro j b i h; simp at h
  | cons q l ih =>
    intro j b i h hi
    have hc : celCells (q :: l) = celRow q ++ celCells l := rfl
    rw [hc]
    cases j with
    | zero =>
      simp at h; subst h
      rw [List.getElem?_append_left (by simp [celRow]; omega)]
      simp
    | succ j =>
      rw [List.getElem?_append_right (by simp [celRow]; omega), ← ih j b i (by simpa using h) hi]
      congr 1
      simp [celRow]; omega
theorem keysCells_at {l : List Ky} : ∀ (j : Nat) (q : Ky) (i : Nat), l[j]? = some q → i < 3 → (keysCells l)[j * 3 + i]? = (keyRow q)[i]? := by
  induction l with
  | nil => intro j b i h; simp at h
  | cons q l ih =>
    intro j b i h hi
    have hc : keysCells (q :: l) = keyRow q ++ keysCells l := rfl
    rw [hc]
    cases j with
    | zero =>
      simp at h; subst h
      rw [List.getElem?_append_left (by simp [keyRow]; omega)]
      simp
    | succ j =>
      rw [List.getElem?_append_right (by simp [keyRow]; omega), ← ih j b i (by simpa using h) hi]
      congr 1
      simp [keyRow]; omega
theorem cel_cells {w : World} {base g c : Nat} {l : List Cel} (h : w.ownsRow base 49 6 (.slice (some ⟨g, 0, none⟩) l.length c) l.length (celCells l)) {j : Nat} {q : Cel} (hj : l[j]? = some q) :
    w.cell? ⟨g, j * 6, none⟩ = some (.int .u8 q.k.1) ∧ w.cell? ⟨g, j * 6 + 1, none⟩ = some (.int .u32 q.k.2.1) ∧ w.cell? ⟨g, j * 6 + 2, none⟩ = some (.int .u32 q.k.2.2) ∧ w.cell? ⟨g, j * 6 + 3, none⟩ = some (.int .u64 q.v.1) ∧ w.cell? ⟨g, j * 6 + 4, none⟩ = some (.int .u64 q.v.2) ∧
      w.cell? ⟨g, j * 6 + 5, none⟩ = some (.bool q.is) ∧ g < w.heap.size := by
  have hlt := (List.getElem?_eq_some_iff.1 hj).1
  have e : ∀ i, i < 6 → w.cell? ⟨g, j * 6 + i, none⟩ = (celRow q)[i]? := fun i hi => (h.cellAt (j * 6 + i) (by omega)).trans (celCells_at j q i hj hi)
  exact ⟨e 0 (by omega), e 1 (by omega), e 2 (by omega), e 3 (by omega), e 4 (by omega), e 5 (by omega), (owns_lt (b := g) h rfl).2⟩
theorem key_cells {w : World} {base g c : Nat} {l : List Ky} (h : w.ownsRow base 24 3 (.slice (some ⟨g, 0, none⟩) l.length c) l.length (keysCells l)) {j : Nat} {q : Ky} (hj : l[j]? = some q) :
    w.cell? ⟨g, j * 3, none⟩ = some (.int .u8 q.1) ∧ w.cell? ⟨g, j * 3 + 1, none⟩ = some (.int .u32 q.2.1) ∧ w.cell? ⟨g, j * 3 + 2, none⟩ = some (.int .u32 q.2.2) ∧ g < w.heap.size := by
  have hlt := (List.getElem?_eq_some_iff.1 hj).1
  have e : ∀ i, i < 3 → w.cell? ⟨g, j * 3 + i, none⟩ = (keyRow q)[i]? := fun i hi => (h.cellAt (j * 3 + i) (by omega)).trans (keysCells_at j q i hj hi)
  exact ⟨e 0 (by omega), e 1 (by omega), e 2 (by omega), (owns_lt (b := g) h rfl).2⟩
theorem seen_of_owns {w : World} {base : Nat} {v : Value} {cs : List Cel} (h : w.ownsRow base 49 6 v cs.length (celCells cs)) : SeenAt w.heap.size w v cs := by
  have hf := h
  rcases h.2 with ⟨rfl, h0⟩ | ⟨g, cap, cur, rfl, hb, hg, hn, _⟩
  · have := List.eq_nil_of_length_eq_zero h0
    subst this
    exact ⟨none, 0, rfl, Nat.le_refl _, .inl rfl⟩
  · refine ⟨_, cap, rfl, hn, .inr ⟨g, 0, rfl, (owns_lt (b := g) hf rfl).2, fun i c hi j v hj => ?_⟩⟩
    have hlt := (List.getElem?_eq_some_iff.1 hi).1
    have hj6 : j < 6 := by have := (List.getElem?_eq_some_iff.1 hj).1; simpa [celRow] using this
    rw [Nat.zero_add, hf.cellAt (i * 6 + j) (by omega), celCells_at i c j hi hj6]
    exact hj

/-- What look knows of a cell: nothing is above what it was handed. -/
def CelOk (vs : List Cel) (c : Cel) : Prop := VlOk c.v ∧ ∀ M : Int, 0 ≤ M → (∀ v ∈ vs, v.v.1 ≤ M) → c.v.1 ≤ M
theorem celOk_zero (vs : List Cel) (k : Ky) : CelOk vs ⟨k, (0, 0), false⟩ := ⟨(show VlOk (0, 0) from ⟨by decide, by decide⟩), fun _ h _ => h⟩
def LookOk (t : T (List Pt × Rp)) (vs : List Cel) (ks : List Ky) (cs : List Cel) : Prop :=
  ks.length = cs.length ∧ (∀ n, n < cs.length → ∃ k, t.run (cs.take n) = .need k) ∧ ∀ c ∈ cs, CelOk vs c
theorem lookOk_nil (t : T (List Pt × Rp)) (vs : List Cel) : LookOk t vs [] [] := ⟨rfl, fun _ h => by simp at h, by simp⟩
theorem LookOk.short {o : OpV} (ho : OpOk o) {vs : List Cel} {ks : List Ky} {cs : List Cel} (h : LookOk (runT o) vs ks cs) : cs.length ≤ 12 := by
  rcases Nat.eq_zero_or_pos cs.length with h0 | h0
  · omega
  · obtain ⟨k, hk⟩ := h.2.1 (cs.length - 1) (by omega)
    have := Fine.need (V := Vb False) (Q := Lf False) (fine_run ho) (fun _ _ hB => hB.elim) hk
    simp at this; omega
theorem LookOk.snoc {t : T (List Pt × Rp)} {vs : List Cel} {ks : List Ky} {cs : List Cel} {k k' : Ky} {c : Cel} (h : LookOk t vs ks cs) (hr : t.run cs = .need k') (hc : CelOk vs c) : LookOk t vs (ks ++ [k]) (cs ++ [c]) := by
  refine ⟨by simp [h.1], fun n hn => ?_, fun q hq => ?_⟩
  · rcases Nat.lt_or_ge n cs.length with hl | hl
    · rw [List.take_append_of_le_length (by omega)]
      exact h.2.1 n hl
    · have : n = cs.length := by simp at hn; omega
      subst this
      rw [List.take_append_of_le_length (by omega), List.take_length]
      exact ⟨_, hr⟩
  · rcases List.mem_append.1 hq with hq | hq
    · exact h.2.2 q hq
    · obtain rfl := List.mem_singleton.1 hq
      exact hc

/-- The world of look: the operation in block BO, the keys and the cells in rows of their own behind it. -/
structure LookSt (w : World) (o : OpV) (BO : Nat) (u7 u8 : Value) (ks : List Ky) (cs : List Cel) (wr : World) : Prop where
  below : Below BO w wr
  op : wr.heap[BO]? = some (.cells #[.int .u8 o.kind, .int .u32 o.who, .int .u32 o.whom, .int .u32 o.what, .int .u32 o.id, .int .u64 o.n, .int .u64 o.price] 32)
  keys : wr.ownsRow (BO + 1) 24 3 u7 ks.length (keysCells ks)
  seen : wr.ownsRow (BO + 1) 49 6 u8 cs.length (celCells cs)
  apart : ∀ b, u7.ownBlock = some b → u8.ownBlock ≠ some b
section
variable {w wr wx w3 : World} {o : OpV} {BO : Nat} {u7 u8 : Value} {ks : List Ky} {cs : List Cel}
theorem LookSt.lt (L : LookSt w o BO u7 u8 ks cs wr) : BO < wr.heap.size := (Array.getElem?_eq_some_iff.1 L.op).1
theorem LookSt.step (L : LookSt w o BO u7 u8 ks cs wr) (B : Below wr.heap.size wr wx) : LookSt w o BO u7 u8 ks cs wx :=
  ⟨L.below.trans (B.mono (Nat.le_of_lt L.lt)), (B.block _ L.lt).trans L.op, owns_keep L.keys fun _ hb => B.block _ (owns_lt L.keys hb).2, owns_keep L.seen fun _ hb => B.block _ (owns_lt L.seen hb).2, L.apart⟩
theorem LookSt.cells (L : LookSt w o BO u7 u8 ks cs wr) : wr.cell? ⟨BO, 0, none⟩ = some (.int .u8 o.kind) ∧ wr.cell? ⟨BO, 1, none⟩ = some (.int .u32 o.who) ∧ wr.cell? ⟨BO, 2, none⟩ = some (.int .u32 o.whom) ∧ wr.cell? ⟨BO, 3, none⟩ = some (.int .u32 o.what) ∧ wr.cell? ⟨BO, 4, none⟩ = some (.int .u32 o.id) ∧
    wr.cell? ⟨BO, 5, none⟩ = some (.int .u64 o.n) ∧ wr.cell? ⟨BO, 6, none⟩ = some (.int .u64 o.price) := by
  refine ⟨?_, ?_, ?_, ?_, ?_, ?_, ?_⟩ <;> simp [cell_of_heap L.op]
theorem grown_heap {ob : Obj} {row : Option Nat} {b : Nat} (hg : (wx.alloc ob).grownBy w3 row) (hb : b < wx.heap.size) (hne : row ≠ some b) : w3.heap[b]? = wx.heap[b]? := by
  rw [hg.block b (by simp; omega) (fun e => hne e.symm)]
  exact Below.heap_alloc _ _ _ hb
theorem LookSt.pushKey {g cap n H : Nat} {k : Ky} {ob : Obj} (L : LookSt w o BO u7 u8 ks cs wx) (hg : (wx.alloc ob).grownBy w3 u7.ownBlock) (hown : w3.ownsRow (BO + 1) 24 3 (.slice (some ⟨g, 0, none⟩) n cap) n (keysCells ks ++ keyRow k))
    (hn : n = ks.length + 1) (hat : u7.ownBlock = some g ∨ g = H) (hH : H = wx.heap.size + 1) : LookSt w o BO (.slice (some ⟨g, 0, none⟩) n cap) u8 (ks ++ [k]) cs w3 := by
  have lo := L.lt
  have lk := fun b hb => owns_lt (b := b) L.keys hb
  have ls := fun b hb => owns_lt (b := b) L.seen hb
  have hgs := hg.size
  simp at hgs
  refine ⟨⟨hg.os.trans L.below.os, hg.tape.trans L.below.tape, hg.output.trans L.below.output, by have := L.below.size; omega, fun b hb => ?_⟩, ?_, ?_, owns_keep L.seen fun b hb => ?_, fun b hb hb2 => ?_⟩
  · exact (grown_heap hg (by omega) (fun e => by have := (lk b e).1; omega)).trans (L.below.block b hb)
  · exact (grown_heap hg lo (fun e => by have := (lk _ e).1; omega)).trans L.op
  · rw [keysCells_snoc, List.length_append]
    subst hn
    exact hown
  · exact grown_heap hg (ls b hb).2 (fun e => L.apart b e hb)
  · simp [Value.ownBlock] at hb
    subst hb
    rcases hat with e | e
    · exact L.apart _ e hb2
    · have := (ls _ hb2).2; omega
theorem LookSt.pushCel {g cap n H : Nat} {c : Cel} {ob : Obj} (L : LookSt w o BO u7 u8 ks cs wx) (hg : (wx.alloc ob).grownBy w3 u8.ownBlock) (hown : w3.ownsRow (BO + 1) 49 6 (.slice (some ⟨g, 0, none⟩) n cap) n (celCells cs ++ celRow c))
    (hn : n = cs.length + 1) (hat : u8.ownBlock = some g ∨ g = H) (hH : H = wx.heap.size + 1) : LookSt w o BO u7 (.slice (some ⟨g, 0, none⟩) n cap) ks (cs ++ [c]) w3 := by
  have lo := L.lt
  have lk := fun b hb => owns_lt (b := b) L.keys hb
  have ls := fun b hb => owns_lt (b := b) L.seen hb
  have hgs := hg.size
  simp at hgs
  refine ⟨⟨hg.os.trans L.below.os, hg.tape.trans L.below.tape, hg.output.trans L.below.output, by have := L.below.size; omega, fun b hb => ?_⟩, ?_, owns_keep L.keys fun b hb => ?_, ?_, fun b hb hb2 => ?_⟩
  · exact (grown_heap hg (by omega) (fun e => by have := (ls b e).1; omega)).trans (L.below.block b hb)
  · exact (grown_heap hg lo (fun e => by have := (ls _ e).1; omega)).trans L.op
  · exact grown_heap hg (lk b hb).2 (fun e => L.apart b hb e)
  · rw [celCells_snoc, List.length_append]
    subst hn
    exact hown
  · simp [Value.ownBlock] at hb2
    subst hb2
    rcases hat with e | e
    · exact L.apart _ hb e
    · have := (lk _ hb).2; omega
theorem look_next (ho : OpOk o) (L : LookSt w o BO u7 u8 ks cs wr) (hc : ∀ c ∈ cs, VlOk c.v) (hl : cs.length ≤ 4000) {k : Ky} (hr : (runT o).run cs = .need k) :
    Calls Try.prog 31 #[opV o, u8] wr fun e w' => e = .returned (.tuple #[.agg #[.int .u8 k.1, .int .u32 k.2.1, .int .u32 k.2.2], .bool true]) ∧ Below wr.heap.size wr w' := by
  refine (next_any (t := runT o) (seen_of_owns L.seen) hl ho hc (run_any o)).mono fun e w' ⟨h1, h2⟩ => ⟨?_, h1⟩
  rw [hr] at h2
  exact h2
theorem look_stop (ho : OpOk o) (L : LookSt w o BO u7 u8 ks cs wr) (hc : ∀ c ∈ cs, VlOk c.v) (hl : cs.length ≤ 4000) (hr : ∀ k, (runT o).run cs ≠ .need k) :
    Calls Try.prog 31 #[opV o, u8] wr fun e w' => (∃ k : Ky, e = .returned (.tuple #[.agg #[.int .u8 k.1, .int .u32 k.2.1, .int .u32 k.2.2], .bool false])) ∧ Below wr.heap.size wr w' := by
  refine (next_any (t := runT o) (seen_of_owns L.seen) hl ho hc (run_any o)).mono fun e w' ⟨h1, h2⟩ => ⟨⟨nextK ((runT o).run cs), ?_⟩, h1⟩
  have : nextB ((runT o).run cs) = false := by
    cases h : (runT o).run cs with
    | need k => exact absurd h (hr k)
    | ok a s => rfl
    | over c => rfl
  rw [this] at h2
  exact h2
/-- A box of six cells is written over. -/
theorem fill6 {B : Nat} {a b c d e f : Value} {ty : TypeId} (h : wr.heap[B]? = some (.cells #[a, b, c, d, e, f] ty)) (a' b' c' d' e' f' : Value) :
    ((((((wr.setCell ⟨B, 0, none⟩ a').setCell ⟨B, 1, none⟩ b').setCell ⟨B, 2, none⟩ c').setCell ⟨B, 3, none⟩ d').setCell ⟨B, 4, none⟩ e').setCell ⟨B, 5, none⟩ f').heap[B]? = some (.cells #[a', b', c', d', e', f'] ty) := by
  simp [World.setCell, Array.getElem?_modify, h]
theorem fill2 {B : Nat} {a b c d e f : Value} {ty : TypeId} (h : wr.heap[B]? = some (.cells #[a, b, c, d, e, f] ty)) (d' e' : Value) :
    ((wr.setCell ⟨B, 3, none⟩ d').setCell ⟨B, 4, none⟩ e').heap[B]? = some (.cells #[a, b, c, d', e', f] ty) := by
  simp [World.setCell, Array.getElem?_modify, h]
theorem fill1 {B : Nat} {a b c d e f : Value} {ty : TypeId} (h : wr.heap[B]? = some (.cells #[a, b, c, d, e, f] ty)) (f' : Value) :
    (wr.setCell ⟨B, 5, none⟩ f').heap[B]? = some (.cells #[a, b, c, d, e, f'] ty) := by
  simp [World.setCell, Array.getElem?_modify, h]
end
end Go.Proofs.Ytdbpjbmalinlbaa
