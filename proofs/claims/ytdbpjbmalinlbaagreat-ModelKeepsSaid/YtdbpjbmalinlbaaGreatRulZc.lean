/- Batches of craft: what a recipe changes. -/
import Derived.Test.YtdbpjbmalinlbaaGreatRulZ0
namespace Go.Proofs.YtdbpjbmalinlbaaGreat
open Go.RowKit

theorem Tryz.infoBatch : (Tryz.prog.info? 141).map (fun i => (i.zero, i.size, i.bytes)) = some (some (.agg #[.int .u8 0, .int .u32 0, .int .u32 0, .int .u64 0, .int .u64 0, .int .u64 0]), 6, 40) := by kernel_rfl

/-- An item that a recipe changes: which, how much less, how much more, how much there is. -/
structure Bt where
  item : Int
  lost : Int
  got : Int
  hv : Int
def btRow (who : Int) (b : Bt) : List Value := [.int .u8 3, .int .u32 who, .int .u32 b.item, .int .u64 b.lost, .int .u64 b.got, .int .u64 b.hv]
def btCells (who : Int) (l : List Bt) : List Value := l.flatMap (btRow who)
theorem btCells_snoc (who : Int) (l : List Bt) (b : Bt) : btCells who (l ++ [b]) = btCells who l ++ btRow who b := by simp [btCells]
theorem btCells_app (who : Int) (l m : List Bt) : btCells who (l ++ m) = btCells who l ++ btCells who m := by simp [btCells]
theorem btCells_len (who : Int) (l : List Bt) : (btCells who l).length = l.length * 6 := by
  induction l with
  | nil => rfl
  | cons b l ih =>
    have : btCells who (b :: l) = btRow who b ++ btCells who l := rfl
    rw [this, List.length_append, ih, List.length_cons]
    simp [btRow]; omega
def BtOk (b : Bt) : Prop := U64 b.lost ∧ U64 b.got ∧ U64 b.hv

theorem cnt_u {l : List (Int × Int)} (h : ∀ p ∈ l, U64 p.2) (item : Int) : U64 (cnt l item) := by
  induction l with
  | nil => unfold U64 cnt; omega
  | cons p l ih =>
    unfold cnt
    split
    · exact h p (by simp)
    · exact ih fun q hq => h q (by simp [hq])
theorem needs_u (id n : Int) : (∀ p ∈ needsI id n, U64 p.2) ∧ ∀ p ∈ needsO id n, U64 p.2 := by
  obtain ⟨h1, h2⟩ := inL_small id
  have key : ∀ (l : List (Int × Int)), (∀ p ∈ l, 0 ≤ p.2 ∧ p.2 ≤ 1000) → 1 ≤ n → n ≤ 1000 → ∀ p ∈ mulL n l, U64 p.2 := by
    intro l hl n1 n2 p hp
    obtain ⟨q, hq, rfl⟩ := List.mem_map.1 hp
    obtain ⟨q0, q1⟩ := hl q hq
    have a := Int.mul_le_mul q1 n2 (by omega) (by omega)
    have b := Int.mul_nonneg q0 (show 0 ≤ n by omega)
    exact ⟨b, by dsimp only; omega⟩
  unfold needsI needsO
  constructor <;> (split; · simp)
  · exact key _ h1 (by omega) (by omega)
  · exact key _ h2 (by omega) (by omega)

section
variable {x : Nat} {o : OpV} {w0 w w' : World} {R : Res (List Pt × Rp)} {s : List Cel} {p : List Pt} {r : Rp} {t : T (List Pt × Rp)}

/-- The batches lie in a row of their own. -/
def Bat (x base : Nat) (who : Int) (v : Value) (l : List Bt) (w : World) : Prop :=
  w.ownsRow base 141 6 v l.length (btCells who l) ∧ ∀ b, v.ownBlock = some b → Far x w b
theorem Bat.nil (base : Nat) (who : Int) : Bat x base who (.slice none 0 0) [] w := ⟨⟨rfl, .inl ⟨rfl, rfl⟩⟩, by simp [Value.ownBlock]⟩
theorem Bat.step {base : Nat} {who : Int} {v : Value} {l : List Bt} (A : Bat x base who v l w) (S : Step x w w') : Bat x base who v l w' :=
  ⟨owns_keep A.1 fun b hb => S.block _ (A.2 b hb), fun b hb => S.far _ (A.2 b hb)⟩
theorem Bat.world {base : Nat} {who : Int} {v : Value} {l : List Bt} (_ : Bat x base who v l w) : ∃ v, v = w := ⟨w, rfl⟩
theorem Bat.shape {base : Nat} {who : Int} {v : Value} {l : List Bt} (A : Bat x base who v l w) : ∃ a c, v = .slice a l.length c := by
  rcases A.1.2 with ⟨rfl, h⟩ | ⟨g, c, _, rfl, _⟩
  · exact ⟨none, 0, by rw [h]⟩
  · exact ⟨_, c, rfl⟩
theorem Bat.row {base n c : Nat} {who : Int} {a : Option Addr} {l : List Bt} (A : Bat x base who (.slice a n c) l w) (hl : 0 < l.length) : ∃ g, a = some ⟨g, 0, none⟩ := by
  rcases A.1.2 with ⟨h, h0⟩ | ⟨g, _, _, h, _⟩
  · omega
  · simp at h; exact ⟨g, h.1⟩
theorem Bat.snoc {base g cap n H : Nat} {who : Int} {v : Value} {l : List Bt} {b : Bt} {ob : Obj} (h : St x o w0 R p r t s w) (A : Bat x base who v l w) (hb : base = w0.heap.size) (hx0 : x < w0.heap.size) (hg : (w.alloc ob).grownBy w' v.ownBlock)
    (hown : w'.ownsRow base 141 6 (.slice (some ⟨g, 0, none⟩) n cap) n (btCells who l ++ btRow who b)) (hn : n = l.length + 1) (hat : v.ownBlock = some g ∨ g = H) (hH : H = w.heap.size + 1) :
    St x o w0 R p r t s w' ∧ Bat x base who (.slice (some ⟨g, 0, none⟩) n cap) (l ++ [b]) w' := by
  obtain ⟨h1, f1⟩ := A
  subst hb
  have lk := fun b hb => owns_lt (b := b) h1 hb
  have lg := owns_lt (b := g) hown rfl
  have hxw := h.lt
  have hgs := hg.size
  simp only [World.size_alloc] at hgs
  have hblk : ∀ b, b < w.heap.size → v.ownBlock ≠ some b → w'.heap[b]? = w.heap[b]? := fun b hb hne => by
    rw [hg.block b (by simp; omega) (fun e => hne e.symm)]
    exact Below.heap_alloc _ _ _ hb
  have hX : w'.heap[x]? = w.heap[x]? := hblk x hxw (fun e => (f1 x e).2.1 rfl)
  have hfar : ∀ b, Far x w b → Far x w' b := fun b hb => ⟨by have := hb.1; omega, hb.2.1, fun cs ty fr pv h1 h2 => hb.2.2 cs ty fr pv (by rw [← hX]; exact h1) h2⟩
  obtain ⟨S, Hh, hRes⟩ := h
  have hnewfar : ∀ b, w.heap.size ≤ b → b < w'.heap.size → Far x w' b := by
    obtain ⟨sv, pv, h1, _, h3, _⟩ := Hh
    intro b hb hb'
    refine ⟨hb', by omega, fun cs ty fr qv h5 h6 h7 => ?_⟩
    rw [hX, h1] at h5
    cases h5
    simp [handCells] at h6
    subst h6
    have := (owns_lt h3 h7).2
    omega
  have hSs := S.size
  refine ⟨⟨⟨⟨hg.os.trans S.below.os, hg.tape.trans S.below.tape, hg.output.trans S.below.output, by omega, fun b hb => ?_⟩, fun b hb => hfar b (S.far b hb), fun b hb => ?_⟩, Hh.keep fun b hb hc => ?_, hRes⟩, ⟨?_, fun b hb => ?_⟩⟩
  · exact (hblk b (by omega) (fun e => by have := (lk b e).1; omega)).trans (S.below.block b hb)
  · exact (hblk b (S.far b hb).1 (fun e => by have := (lk b e).1; have := hb.1; omega)).trans (S.block b hb)
  · rcases hc with hc | hc
    · exact hblk b hb (fun e => by have := (lk b e).1; omega)
    · exact hblk b hb (fun e => hc (f1 b e))
  · rw [btCells_snoc, List.length_append]
    subst hn
    exact hown
  · simp [Value.ownBlock] at hb
    subst hb
    rcases hat with e | e
    · exact hfar _ (f1 _ e)
    · exact hnewfar _ (by omega) lg.2
theorem Bat.notNew {base : Nat} {who : Int} {v : Value} {l : List Bt} (A : Bat x base who v l w) : some w.heap.size ≠ v.ownBlock := fun e => by have := (owns_lt A.1 e.symm).2; omega
theorem Box.grown {B : Nat} {a b c : Value} {ty : TypeId} {v : Value} {ob : Obj} (K : Box x B (.cells #[a, b, c] ty) w) (hg : (w.alloc ob).grownBy w' v.ownBlock) (hne : some B ≠ v.ownBlock) :
    w'.cell? ⟨B, 0, none⟩ = some a ∧ w'.cell? ⟨B, 1, none⟩ = some b ∧ w'.cell? ⟨B, 2, none⟩ = some c := by
  have h : w'.heap[B]? = some (.cells #[a, b, c] ty) := by
    rw [hg.block B (by have := K.lt; simp; omega) hne, Below.heap_alloc _ _ _ K.lt]
    exact K.2
  exact ⟨by simp [cell_of_heap h], by simp [cell_of_heap h], by simp [cell_of_heap h]⟩
theorem btCells_at {who : Int} : ∀ (l : List Bt) (j : Nat) (b : Bt) (i : Nat), l[j]? = some b → i < 6 → (btCells who l)[j * 6 + i]? = (btRow who b)[i]? := by
  intro l
  induction l with
  | nil => intro j b i h; simp at h
  | cons q l ih =>
    intro j b i h hi
    have hc : btCells who (q :: l) = btRow who q ++ btCells who l := rfl
    rw [hc]
    cases j with
    | zero =>
      simp at h; subst h
      rw [List.getElem?_append_left (by simp [btRow]; omega)]
      simp
    | succ j =>
      rw [List.getElem?_append_right (by simp [btRow]; omega), ← ih j b i (by simpa using h) hi]
      congr 1
      simp [btRow]; omega
theorem btCells_set {who : Int} (a : Int) : ∀ (l : List Bt) (j : Nat) (b : Bt), l[j]? = some b → (btCells who l).set (j * 6 + 5) (.int .u64 a) = btCells who (l.set j { b with hv := a }) := by
  intro l
  induction l with
  | nil => intro j b h; simp at h
  | cons q l ih =>
    intro j b h
    have hc : ∀ q l, btCells who (q :: l) = btRow who q ++ btCells who l := fun _ _ => rfl
    cases j with
    | zero =>
      simp at h; subst h
      rw [List.set_cons_zero, hc, hc, List.set_append_left _ _ (by simp [btRow])]
      simp [btRow]
    | succ j =>
      rw [List.set_cons_succ, hc, hc, List.set_append_right _ _ (by simp [btRow]; omega), ← ih j b (by simpa using h)]
      congr 2
      simp [btRow]; omega
theorem Bat.cells {base g c n : Nat} {who : Int} {l : List Bt} (A : Bat x base who (.slice (some ⟨g, 0, none⟩) n c) l w) (hn : l.length = n) {j : Nat} {b : Bt} (hj : l[j]? = some b) :
    w.cell? ⟨g, j * 6, none⟩ = some (.int .u8 3) ∧ w.cell? ⟨g, j * 6 + 1, none⟩ = some (.int .u32 who) ∧ w.cell? ⟨g, j * 6 + 2, none⟩ = some (.int .u32 b.item) ∧ w.cell? ⟨g, j * 6 + 3, none⟩ = some (.int .u64 b.lost) ∧ w.cell? ⟨g, j * 6 + 4, none⟩ = some (.int .u64 b.got) ∧
      w.cell? ⟨g, j * 6 + 5, none⟩ = some (.int .u64 b.hv) ∧ (∀ i, w.frozen? ⟨g, i, none⟩ = false) ∧ g < w.heap.size ∧ base ≤ g ∧ g ≠ x := by
  have hlt := (List.getElem?_eq_some_iff.1 hj).1
  subst hn
  have e : ∀ i, i < 6 → w.cell? ⟨g, j * 6 + i, none⟩ = (btRow who b)[i]? := fun i hi => (A.1.cellAt (j * 6 + i) (by omega)).trans (btCells_at l j b i hj hi)
  exact ⟨e 0 (by omega), e 1 (by omega), e 2 (by omega), e 3 (by omega), e 4 (by omega), e 5 (by omega), fun i => A.1.frozenAt i, (A.2 g rfl).1, (owns_lt (b := g) A.1 rfl).1, (A.2 g rfl).2.1⟩
theorem Bat.set {base g c n : Nat} {who : Int} {l : List Bt} (A : Bat x base who (.slice (some ⟨g, 0, none⟩) n c) l w) (hn : l.length = n) (H : St x o w0 R p r t s w) (hx0 : x < w0.heap.size) (hb : base = w0.heap.size) {j : Nat} {b : Bt} (hj : l[j]? = some b) (a : Int) :
    St x o w0 R p r t s (w.setCell ⟨g, j * 6 + 5, none⟩ (.int .u64 a)) ∧ Bat x base who (.slice (some ⟨g, 0, none⟩) n c) (l.set j { b with hv := a }) (w.setCell ⟨g, j * 6 + 5, none⟩ (.int .u64 a)) := by
  subst hn
  have lg := (owns_lt (b := g) A.1 rfl).1
  have f := A.2 g rfl
  refine ⟨H.setFar (q := ⟨g, j * 6 + 5, none⟩) hx0 f (by show w0.heap.size ≤ g; omega) _, ?_, fun b hb => ?_⟩
  · have := (A.1.stored (j * 6 + 5) (.int .u64 a)).1
    rw [btCells_set a l j b hj] at this
    rw [List.length_set]
    exact this
  · simp [Value.ownBlock] at hb
    subst hb
    exact f.setCell (by show g ≠ x; exact f.2.1) _
end

theorem set_mid {α : Type} (d m : List α) (b c : α) {j : Nat} (hj : d.length = j) : (d ++ b :: m)[j]? = some b ∧ (d ++ b :: m).set j c = (d ++ [c]) ++ m := by
  subst hj
  constructor <;> simp
theorem drop_next {α : Type} {d m : List α} {b : α} {j : Nat} (h : d.drop j = b :: m) : d[j]? = some b ∧ d.drop (j + 1) = m := by
  constructor
  · have := congrArg (fun l => l[0]?) h
    simpa using this
  · have := congrArg (fun l => l.drop 1) h
    simpa [List.drop_drop, Nat.add_comm] using this
/-- What craft looks up: from item 8 - m on. -/
def askT (o : OpV) (f : List Bt → T (List Pt × Rp)) : Nat → List Bt → T (List Pt × Rp)
  | 0, l => f l
  | m + 1, l => if cnt (needsI o.what o.n) (7 - m) = 0 ∧ cnt (needsO o.what o.n) (7 - m) = 0 then askT o f m l
    else (amountT (stackK o.who (7 - m))).bind fun a => askT o f m (l ++ [⟨7 - m, cnt (needsI o.what o.n) (7 - m), cnt (needsO o.what o.n) (7 - m), a⟩])
def lessAll (f : List Bt → T (List Pt × Rp)) : List Bt → List Bt → T (List Pt × Rp)
  | l, [] => f l
  | l, b :: m => (lessT b.hv b.lost).bind fun a => lessAll f (l ++ [{ b with hv := a }]) m
def moreAll (o : OpV) : List Pt → List Bt → T (List Pt × Rp)
  | p, [] => .done (p, ⟨0, o.n, 0, 0⟩)
  | p, b :: m => (moreT b.hv b.got).bind fun a => moreAll o (p ++ [putP (stackK o.who b.item) a]) m
def craftT (o : OpV) : T (List Pt × Rp) := (mustT (purseK o.who)).bind fun _ => askT o (lessAll (moreAll o []) []) 7 []
end Go.Proofs.YtdbpjbmalinlbaaGreat
