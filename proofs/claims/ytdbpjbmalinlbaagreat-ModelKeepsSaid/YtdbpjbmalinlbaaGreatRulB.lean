/- The hand of package rule: what memory holds of it, and what calls leave of it. -/
import Derived.Test.YtdbpjbmalinlbaaGreatRulA
namespace Go.Proofs.YtdbpjbmalinlbaaGreat
open Go.RowKit

abbrev Ky := Int × Int × Int
abbrev Vl := Int × Int
/-- A cell that was looked up. -/
structure Cel where
  k : Ky
  v : Vl
  is : Bool
/-- What is put. -/
structure Pt where
  k : Ky
  v : Vl
  gone : Bool
structure OpV where
  kind : Int
  who : Int
  whom : Int
  what : Int
  id : Int
  n : Int
  price : Int
structure Rp where
  err : Int
  a : Int
  b : Int
  c : Int

def valV (v : Vl) : Value := .agg #[.int .u64 v.1, .int .u64 v.2]
def celRow (c : Cel) : List Value := [.int .u8 c.k.1, .int .u32 c.k.2.1, .int .u32 c.k.2.2, .int .u64 c.v.1, .int .u64 c.v.2, .bool c.is]
def ptRow (c : Pt) : List Value := [.int .u8 c.k.1, .int .u32 c.k.2.1, .int .u32 c.k.2.2, .int .u64 c.v.1, .int .u64 c.v.2, .bool c.gone]
def ptCells (l : List Pt) : List Value := l.flatMap ptRow
theorem ptCells_app (l m : List Pt) : ptCells (l ++ m) = ptCells l ++ ptCells m := by simp [ptCells]
theorem ptCells_len (l : List Pt) : (ptCells l).length = 6 * l.length := by
  induction l with
  | nil => rfl
  | cons x l ih =>
    have h : ptCells (x :: l) = ptRow x ++ ptCells l := by simp [ptCells]
    rw [h, List.length_append, ih]; simp [ptRow]; omega
def handCells (o : OpV) (sv pv : Value) (r : Rp) : Array Value :=
  #[.int .u8 o.kind, .int .u32 o.who, .int .u32 o.whom, .int .u32 o.what, .int .u32 o.id, .int .u64 o.n, .int .u64 o.price, sv, pv, .int .u16 r.err, .int .u64 r.a, .int .u64 r.b, .int .u64 r.c]

/-- The cells that are still to be seen: memory ahead of the hand. -/
def SeenAt (x : Nat) (w : World) (sv : Value) (s : List Cel) : Prop :=
  ∃ a cap, sv = .slice a s.length cap ∧ s.length ≤ cap ∧ (s = [] ∨ ∃ b off, a = some ⟨b, off, none⟩ ∧ b < x ∧ ∀ i c, s[i]? = some c → ∀ j v, (celRow c)[j]? = some v → w.cell? ⟨b, off + i * 6 + j, none⟩ = some v)

def OpOk (o : OpV) : Prop := (0 ≤ o.kind ∧ o.kind ≤ 255) ∧ (0 ≤ o.who ∧ o.who ≤ 4294967295) ∧ (0 ≤ o.whom ∧ o.whom ≤ 4294967295) ∧ (0 ≤ o.what ∧ o.what ≤ 4294967295) ∧ (0 ≤ o.id ∧ o.id ≤ 4294967295) ∧ (0 ≤ o.n ∧ o.n ≤ 18446744073709551615) ∧ (0 ≤ o.price ∧ o.price ≤ 18446744073709551615)
def VlOk (v : Vl) : Prop := (0 ≤ v.1 ∧ v.1 ≤ 18446744073709551615) ∧ (0 ≤ v.2 ∧ v.2 ≤ 18446744073709551615)

/-- A hand in block x. -/
def Hand (x : Nat) (o : OpV) (s : List Cel) (p : List Pt) (r : Rp) (w : World) : Prop :=
  ∃ sv pv, w.heap[x]? = some (.cells (handCells o sv pv r) 78 (0, 0)) ∧ SeenAt x w sv s ∧ w.ownsRow (x + 1) 66 6 pv p.length (ptCells p) ∧ (p.length ≤ 1000 ∧ s.length ≤ 4000) ∧ OpOk o ∧ ∀ c ∈ s, VlOk c.v

/-- Block b is neither the hand nor what it puts. -/
def Far (x : Nat) (w : World) (b : Nat) : Prop :=
  b < w.heap.size ∧ b ≠ x ∧ ∀ cs t fr pv, w.heap[x]? = some (.cells cs t fr) → cs[8]? = some pv → pv.ownBlock ≠ some b
/-- What calls on a hand in block x leave as it was. -/
structure Step (x : Nat) (w w' : World) : Prop where
  below : Below x w w'
  far : ∀ b, Far x w b → Far x w' b
  block : ∀ b, Far x w b → w'.heap[b]? = w.heap[b]?

theorem Step.refl (x : Nat) (w : World) : Step x w w := ⟨Below.refl _ _, fun _ h => h, fun _ _ => rfl⟩
theorem Step.trans {x : Nat} {a b c : World} (h : Step x a b) (k : Step x b c) : Step x a c :=
  ⟨h.below.trans k.below, fun i hi => k.far i (h.far i hi), fun i hi => (k.block i (h.far i hi)).trans (h.block i hi)⟩
theorem Step.size {x : Nat} {w w' : World} (h : Step x w w') : w.heap.size ≤ w'.heap.size := h.below.size
theorem Step.cell {x : Nat} {w w' : World} (h : Step x w w') {p : Addr} (hp : Far x w p.block) : w'.cell? p = w.cell? p := World.cell?_of_block (w := w) (h.block _ hp)
theorem Step.frozen {x : Nat} {w w' : World} (h : Step x w w') {p : Addr} (hp : Far x w p.block) : w'.frozen? p = w.frozen? p := World.frozen?_of_block (w := w) (h.block _ hp)
theorem Step.drew {x : Nat} {w w' : World} (h : Step x w w') : Step x w w'.drew := ⟨h.below.drew, h.far, h.block⟩
theorem Step.alloc {x : Nat} {w w' : World} (h : Step x w w') (hx : x < w'.heap.size) (o : Obj) : Step x w (w'.alloc o) :=
  h.trans ⟨(Below.refl _ _).alloc (by omega) o, fun b hb => ⟨by simp; have := hb.1; omega, hb.2.1, fun cs t fr pv h1 h2 => hb.2.2 cs t fr pv (by rw [Below.heap_alloc _ _ _ hx] at h1; exact h1) h2⟩, fun b hb => Below.heap_alloc _ _ _ hb.1⟩
/-- A store into the hand, but for what it puts. -/
theorem Step.setX {x : Nat} {w w' : World} (h : Step x w w') (i : Nat) (hi : i ≠ 8) (v : Value) : Step x w (w'.setCell ⟨x, i, none⟩ v) := by
  refine h.trans ⟨(Below.refl x _).setCell (p := ⟨x, i, none⟩) (Nat.le_refl _) v, fun b hb => ⟨by simp [World.setCell]; exact hb.1, hb.2.1, fun cs t fr pv h1 h2 => ?_⟩, fun b hb => Below.heap_setCell _ _ _ _ hb.2.1⟩
  simp only [World.setCell, Array.getElem?_modify, if_pos] at h1
  cases hw : w'.heap[x]? with
  | none => rw [hw] at h1; simp at h1
  | some ob =>
    rw [hw] at h1
    cases ob with
    | cells c e f =>
      simp at h1
      obtain ⟨rfl, rfl, rfl⟩ := h1
      refine hb.2.2 c e f pv hw ?_
      rw [Array.getElem?_setIfInBounds, if_neg hi] at h2
      exact h2
    | _ => simp at h1
/-- A store into a block that was made since. -/
theorem Step.setNew {x : Nat} {w w' : World} (h : Step x w w') (hx : x < w.heap.size) {p : Addr} (hp : w.heap.size ≤ p.block) (v : Value) : Step x w (w'.setCell p v) := by
  refine ⟨h.below.setCell (by omega) v, fun b hb => ?_, fun b hb => ?_⟩
  · obtain ⟨h1, h2, h3⟩ := h.far b hb
    refine ⟨by simp [World.setCell]; exact h1, h2, fun cs t fr pv h4 h5 => h3 cs t fr pv ?_ h5⟩
    rw [Below.heap_setCell _ _ _ _ (by omega)] at h4; exact h4
  · rw [Below.heap_setCell _ _ _ _ (by have := hb.1; omega)]; exact h.block b hb

section
variable {x : Nat} {o : OpV} {s : List Cel} {p : List Pt} {r : Rp} {w w' : World}

theorem Hand.lt (h : Hand x o s p r w) : x < w.heap.size := by
  obtain ⟨sv, pv, h1, _⟩ := h
  exact (Array.getElem?_eq_some_iff.1 h1).1
theorem Hand.opOk (h : Hand x o s p r w) : OpOk o := by obtain ⟨_, _, _, _, _, _, h, _⟩ := h; exact h
theorem Hand.valOk (h : Hand x o s p r w) : ∀ c ∈ s, VlOk c.v := by obtain ⟨_, _, _, _, _, _, _, h⟩ := h; exact h
theorem Hand.room (h : Hand x o s p r w) : p.length ≤ 1000 ∧ s.length ≤ 4000 := by obtain ⟨_, _, _, _, _, h, _⟩ := h; exact h
theorem owns_lt {e : TypeId} {size base n b : Nat} {v : Value} {xs : List Value} (h : w.ownsRow base e size v n xs) (hb : v.ownBlock = some b) : base ≤ b ∧ b < w.heap.size := by
  rcases h.2 with ⟨rfl, _⟩ | ⟨g, cap, cur, rfl, h2, h3, _⟩
  · simp [Value.ownBlock] at hb
  · simp [Value.ownBlock] at hb
    subst hb
    exact ⟨h2, (Array.getElem?_eq_some_iff.1 h3).1⟩
theorem owns_keep {e : TypeId} {size base n : Nat} {v : Value} {xs : List Value} (h : w.ownsRow base e size v n xs) (hb : ∀ b, v.ownBlock = some b → w'.heap[b]? = w.heap[b]?) : w'.ownsRow base e size v n xs := by
  refine ⟨h.1, ?_⟩
  rcases h.2 with h2 | ⟨g, cap, cur, h1, h2, h3, h4⟩
  · exact .inl h2
  · exact .inr ⟨g, cap, cur, h1, h2, by rw [hb g (by rw [h1]; rfl)]; exact h3, h4⟩
theorem SeenAt.keep {sv : Value} (h : SeenAt x w sv s) (hb : ∀ b, b < x → w'.heap[b]? = w.heap[b]?) : SeenAt x w' sv s := by
  obtain ⟨a, cap, h1, h2, h3⟩ := h
  refine ⟨a, cap, h1, h2, ?_⟩
  rcases h3 with h3 | ⟨b, off, h3, h4, h5⟩
  · exact .inl h3
  · exact .inr ⟨b, off, h3, h4, fun i c hi j v hj => by rw [World.cell?_of_block (w := w) (hb b h4)]; exact h5 i c hi j v hj⟩
theorem Hand.keep (h : Hand x o s p r w) (hb : ∀ b, b < w.heap.size → (b ≤ x ∨ ¬ Far x w b) → w'.heap[b]? = w.heap[b]?) : Hand x o s p r w' := by
  have hx := h.lt
  obtain ⟨sv, pv, h1, h2, h3, h4⟩ := h
  refine ⟨sv, pv, by rw [hb x hx (.inl (Nat.le_refl _))]; exact h1, h2.keep fun b hbx => hb b (by omega) (.inl (by omega)), owns_keep h3 fun b hbb => hb b (owns_lt h3 hbb).2 (.inr fun hf => ?_), h4⟩
  exact hf.2.2 _ _ _ pv h1 rfl hbb
theorem Hand.alloc (h : Hand x o s p r w) (ob : Obj) : Hand x o s p r (w.alloc ob) := h.keep fun _ hb _ => Below.heap_alloc _ _ _ hb
theorem Hand.drew (h : Hand x o s p r w) : Hand x o s p r w.drew := h.keep fun _ _ _ => rfl
theorem Hand.setFar (h : Hand x o s p r w) {q : Addr} (hq : Far x w q.block) (hl : x < q.block) (v : Value) : Hand x o s p r (w.setCell q v) :=
  h.keep fun b hb hc => Below.heap_setCell _ _ _ _ (by
    rintro rfl
    rcases hc with hc | hc
    · omega
    · exact hc hq)
/-- A new block is far. -/
theorem Hand.farNew (h : Hand x o s p r w) (ob : Obj) : Far x (w.alloc ob) w.heap.size := by
  have hx := h.lt
  obtain ⟨sv, pv, h1, h2, h3, h4⟩ := h
  refine ⟨by simp, by omega, fun cs t fr qv h5 h6 h7 => ?_⟩
  rw [Below.heap_alloc _ _ _ hx, h1] at h5
  cases h5
  simp [handCells] at h6
  subst h6
  have := (owns_lt h3 h7).2
  omega
theorem Far.alloc {b : Nat} (h : Far x w b) (hx : x < w.heap.size) (ob : Obj) : Far x (w.alloc ob) b := ((Step.refl x w).alloc hx ob).far b h
theorem Far.setCell {b : Nat} (h : Far x w b) {q : Addr} (hq : q.block ≠ x) (v : Value) : Far x (w.setCell q v) b :=
  ⟨by simp [World.setCell]; exact h.1, h.2.1, fun cs t fr pv h1 h2 => h.2.2 cs t fr pv (by rw [Below.heap_setCell _ _ _ _ (Ne.symm hq)] at h1; exact h1) h2⟩
/-- What lies ahead of the hand is far. -/
theorem Hand.farBelow (h : Hand x o s p r w) {b : Nat} (hb : b < x) : Far x w b := by
  have hx := h.lt
  obtain ⟨sv, pv, h1, h2, h3, h4⟩ := h
  refine ⟨by omega, by omega, fun cs t fr qv h5 h6 h7 => ?_⟩
  rw [h1] at h5
  cases h5
  simp [handCells] at h6
  subst h6
  have := (owns_lt h3 h7).1
  omega
theorem cell_of_heap {b : Nat} {cs : Array Value} {t : TypeId} {fr : Nat × Nat} (h : w.heap[b]? = some (.cells cs t fr)) (i : Nat) : w.cell? ⟨b, i, none⟩ = cs[i]? := by
  simp [World.cell?, h]
theorem frozen_of_heap {b : Nat} {cs : Array Value} {t : TypeId} (h : w.heap[b]? = some (.cells cs t (0, 0))) (i : Nat) : w.frozen? ⟨b, i, none⟩ = false := by
  simp [World.frozen?, h]
theorem Hand.frozen (h : Hand x o s p r w) (i : Nat) : w.frozen? ⟨x, i, none⟩ = false := by
  obtain ⟨sv, pv, h1, _⟩ := h
  exact frozen_of_heap h1 i
/-- The operation's cells. -/
theorem Hand.op (h : Hand x o s p r w) : w.cell? ⟨x, 0, none⟩ = some (.int .u8 o.kind) ∧ w.cell? ⟨x, 1, none⟩ = some (.int .u32 o.who) ∧ w.cell? ⟨x, 2, none⟩ = some (.int .u32 o.whom) ∧ w.cell? ⟨x, 3, none⟩ = some (.int .u32 o.what) ∧
    w.cell? ⟨x, 4, none⟩ = some (.int .u32 o.id) ∧ w.cell? ⟨x, 5, none⟩ = some (.int .u64 o.n) ∧ w.cell? ⟨x, 6, none⟩ = some (.int .u64 o.price) := by
  obtain ⟨sv, pv, h1, _⟩ := h
  simp [cell_of_heap h1, handCells]
theorem Hand.rep (h : Hand x o s p r w) : (∃ u, w.cell? ⟨x, 10, none⟩ = some u) ∧ (∃ u, w.cell? ⟨x, 11, none⟩ = some u) ∧ ∃ u, w.cell? ⟨x, 12, none⟩ = some u := by
  obtain ⟨sv, pv, h1, _⟩ := h
  simp [cell_of_heap h1, handCells]
theorem Hand.set {i : Nat} {v : Value} {r' : Rp} (h : Hand x o s p r w) (hi : ∀ sv pv, (handCells o sv pv r).setIfInBounds i v = handCells o sv pv r') : Hand x o s p r' (w.setCell ⟨x, i, none⟩ v) := by
  have hx := h.lt
  obtain ⟨sv, pv, h1, h2, h3, h4⟩ := h
  refine ⟨sv, pv, ?_, h2.keep fun b hb => Below.heap_setCell _ _ _ _ (by show b ≠ x; omega), owns_keep h3 fun b hb => Below.heap_setCell _ _ _ _ (by have := (owns_lt h3 hb).1; show b ≠ x; omega), h4⟩
  simp [World.setCell, Array.getElem?_modify, h1, hi]
theorem Hand.setA (h : Hand x o s p r w) (a : Int) : Hand x o s p { r with a := a } (w.setCell ⟨x, 10, none⟩ (.int .u64 a)) := h.set fun _ _ => by simp [handCells]
theorem Hand.setB (h : Hand x o s p r w) (a : Int) : Hand x o s p { r with b := a } (w.setCell ⟨x, 11, none⟩ (.int .u64 a)) := h.set fun _ _ => by simp [handCells]
theorem Hand.setC (h : Hand x o s p r w) (a : Int) : Hand x o s p { r with c := a } (w.setCell ⟨x, 12, none⟩ (.int .u64 a)) := h.set fun _ _ => by simp [handCells]
end

/-! ### What an operation does, as a tree of look-ups -/
inductive T (α : Type) where
  | done (a : α)
  | ask (k : Ky) (f : Option Vl → T α)
  | over (e : Int)
inductive Res (α : Type) where
  | ok (a : α) (s : List Cel)
  | need (k : Ky)
  | over (e : Int)
def Cel.ans (c : Cel) : Option Vl := if c.is then some c.v else none
def T.run {α : Type} : T α → List Cel → Res α
  | .done a, s => .ok a s
  | .over e, _ => .over e
  | .ask k _, [] => .need k
  | .ask _ f, c :: s => (f c.ans).run s
def T.bind {α β : Type} : T α → (α → T β) → T β
  | .done a, g => g a
  | .over e, _ => .over e
  | .ask k f, g => .ask k fun v => (f v).bind g
def Res.then {α β : Type} : Res α → (α → List Cel → Res β) → Res β
  | .ok a s, g => g a s
  | .need k, _ => .need k
  | .over e, _ => .over e
theorem T.run_bind {α β : Type} (t : T α) (g : α → T β) (s : List Cel) : (t.bind g).run s = (t.run s).then fun a s' => (g a).run s' := by
  induction t generalizing s with
  | done a => rfl
  | over e => rfl
  | ask k f ih =>
    cases s with
    | nil => rfl
    | cons c s => exact ih _ s

abbrev needsP (k : Ky) : Ending := .panicked [{ v := .iface 101 (keyV k), recovered := false }]
abbrev overP (e : Int) : Ending := .panicked [{ v := .iface 102 (.int .u16 e), recovered := false }]

/-- A hand of which nothing is asked any more. -/
def Dead (x : Nat) (o : OpV) (w : World) : Prop := ∃ s p r, Hand x o s p r w
/-- How a call on a hand ends: by what is still to be seen. -/
def Met {α : Type} (x : Nat) (o : OpV) (w : World) (val : α → Value) (pp : α → List Pt) (rr : α → Rp) (res : Res α) (e : Ending) (w' : World) : Prop :=
  Step x w w' ∧ match res with
    | .ok a s => e = .returned (val a) ∧ Hand x o s (pp a) (rr a) w'
    | .need k => e = needsP k ∧ Dead x o w'
    | .over c => e = overP c ∧ Dead x o w'
section
variable {α : Type} {x : Nat} {o : OpV} {s : List Cel} {p : List Pt} {r : Rp} {w w' : World} {val : α → Value} {pp : α → List Pt} {rr : α → Rp} {res : Res α} {e : Ending}
theorem Hand.dead (h : Hand x o s p r w) : Dead x o w := ⟨_, _, _, h⟩
theorem Met.ok {a : α} (S : Step x w w') (hr : res = .ok a s) (he : e = .returned (val a)) (H : Hand x o s (pp a) (rr a) w') : Met x o w val pp rr res e w' := by
  subst hr; exact ⟨S, he, H⟩
theorem Met.need {k : Ky} (S : Step x w w') (hr : res = .need k) (H : Dead x o w') : Met x o w val pp rr res (needsP k) w' := by
  subst hr; exact ⟨S, rfl, H⟩
theorem Met.over {c : Int} (S : Step x w w') (hr : res = .over c) (H : Dead x o w') : Met x o w val pp rr res (overP c) w' := by
  subst hr; exact ⟨S, rfl, H⟩
theorem Met.split (h : Met x o w val pp rr res e w') : Step x w w' ∧ ((∃ a s, Hid (res = .ok a s) ∧ e = .returned (val a) ∧ Hand x o s (pp a) (rr a) w') ∨ (∃ k, Hid (res = .need k) ∧ e = needsP k ∧ Dead x o w') ∨ (∃ c, Hid (res = .over c) ∧ e = overP c ∧ Dead x o w')) := by
  obtain ⟨S, h⟩ := h
  refine ⟨S, ?_⟩
  cases res with
  | ok a s => exact .inl ⟨a, s, Lib.hid rfl, h⟩
  | need k => exact .inr (.inl ⟨k, Lib.hid rfl, h⟩)
  | over c => exact .inr (.inr ⟨c, Lib.hid rfl, h⟩)
theorem Hand.below (h : Hand x o s p r w) (B : Below w.heap.size w w') : Hand x o s p r w' := h.keep fun b hb _ => B.block b hb
/-- A call that has nothing to do with the hand. -/
theorem Step.ofBelow (hx : x < w.heap.size) (B : Below w.heap.size w w') : Step x w w' := by
  have hs := B.size
  refine ⟨B.mono (by omega), fun b hb => ⟨by have := hb.1; omega, hb.2.1, fun cs t fr pv h1 h2 => hb.2.2 cs t fr pv (by rw [B.block x hx] at h1; exact h1) h2⟩, fun b hb => B.block b hb.1⟩
end
end Go.Proofs.YtdbpjbmalinlbaaGreat
