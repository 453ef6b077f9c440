/- The state of a walk through an operation: what is left of its tree. -/
import Derived.Test.YtdbpjbmalinlbaaGreatRulM
import Derived.Deep.RegionHeld2
namespace Go.Proofs.YtdbpjbmalinlbaaGreat
open Go.RowKit

/-- The hand stands in w; the whole, R, is what the tree t makes of what is still to be seen. -/
def St {β : Type} (x : Nat) (o : OpV) (w0 : World) (R : Res β) (p : List Pt) (r : Rp) (t : T β) (s : List Cel) (w : World) : Prop :=
  Step x w0 w ∧ Hand x o s p r w ∧ R = t.run s
/-- It ended by a panic. -/
def Pan {β : Type} (x : Nat) (o : OpV) (w0 : World) (R : Res β) (ch : List PanicEntry) (w' : World) : Prop :=
  Step x w0 w' ∧ Dead x o w' ∧ ((∃ k, R = .need k ∧ Ending.panicked ch = needsP k) ∨ ∃ c, R = .over c ∧ Ending.panicked ch = overP c)

/-- How an operation ends. -/
abbrev Mets' (x : Nat) (o : OpV) (w0 : World) (R : Res (List Pt × Rp)) : Ending → World → Prop :=
  Met x o w0 (fun _ : List Pt × Rp => .tuple #[]) (fun a => a.1) (fun a => a.2) R

section
variable {α β : Type} {x : Nat} {o : OpV} {w0 w w' : World} {R : Res β} {p : List Pt} {r : Rp} {t : T β} {s : List Cel} {ch : List PanicEntry} {k : Ky}

theorem St.step (h : St x o w0 R p r t s w) : Step x w0 w := h.1
theorem St.hand (h : St x o w0 R p r t s w) : Hand x o s p r w := h.2.1
theorem St.lt (h : St x o w0 R p r t s w) : x < w.heap.size := h.2.1.lt
theorem St.op (h : St x o w0 R p r t s w) : w.cell? ⟨x, 0, none⟩ = some (.int .u8 o.kind) ∧ w.cell? ⟨x, 1, none⟩ = some (.int .u32 o.who) ∧ w.cell? ⟨x, 2, none⟩ = some (.int .u32 o.whom) ∧ w.cell? ⟨x, 3, none⟩ = some (.int .u32 o.what) ∧
    w.cell? ⟨x, 4, none⟩ = some (.int .u32 o.id) ∧ w.cell? ⟨x, 5, none⟩ = some (.int .u64 o.n) ∧ w.cell? ⟨x, 6, none⟩ = some (.int .u64 o.price) := h.2.1.op
theorem St.rep (h : St x o w0 R p r t s w) : (∃ u, w.cell? ⟨x, 10, none⟩ = some u) ∧ (∃ u, w.cell? ⟨x, 11, none⟩ = some u) ∧ ∃ u, w.cell? ⟨x, 12, none⟩ = some u := h.2.1.rep
theorem St.opOk (h : St x o w0 R p r t s w) : OpOk o := h.2.1.opOk
theorem St.frozen (h : St x o w0 R p r t s w) (i : Nat) : w.frozen? ⟨x, i, none⟩ = false := h.2.1.frozen i
theorem St.alloc (h : St x o w0 R p r t s w) (ob : Obj) : St x o w0 R p r t s (w.alloc ob) := ⟨h.1.alloc h.lt ob, h.2.1.alloc ob, h.2.2⟩
theorem St.drew (h : St x o w0 R p r t s w) : St x o w0 R p r t s w.drew := ⟨h.1.drew, h.2.1.drew, h.2.2⟩
theorem St.below (h : St x o w0 R p r t s w) (B : Below w.heap.size w w') : St x o w0 R p r t s w' := ⟨h.1.trans (Step.ofBelow h.lt B), h.2.1.below B, h.2.2⟩
theorem St.setA (h : St x o w0 R p r t s w) (a : Int) : St x o w0 R p { r with a := a } t s (w.setCell ⟨x, 10, none⟩ (.int .u64 a)) := ⟨h.1.setX 10 (by decide) _, h.2.1.setA a, h.2.2⟩
theorem St.setB (h : St x o w0 R p r t s w) (a : Int) : St x o w0 R p { r with b := a } t s (w.setCell ⟨x, 11, none⟩ (.int .u64 a)) := ⟨h.1.setX 11 (by decide) _, h.2.1.setB a, h.2.2⟩
theorem St.setC (h : St x o w0 R p r t s w) (a : Int) : St x o w0 R p { r with c := a } t s (w.setCell ⟨x, 12, none⟩ (.int .u64 a)) := ⟨h.1.setX 12 (by decide) _, h.2.1.setC a, h.2.2⟩
/-- Another tree that runs alike. -/
theorem St.tree {t' : T β} (h : St x o w0 R p r t s w) (e : t = t') : St x o w0 R p r t' s w := by subst e; exact h
theorem T.bind_assoc {α β γ : Type} (t : T α) (f : α → T β) (g : β → T γ) : (t.bind f).bind g = t.bind fun v => (f v).bind g := by
  induction t with
  | done a => rfl
  | over e => rfl
  | ask k f ih => simp only [T.bind]; congr 1; funext v; exact ih v
theorem St.assoc {γ : Type} {t : T γ} {f : γ → T α} {g : α → T β} (h : St x o w0 R p r ((t.bind f).bind g) s w) : St x o w0 R p r (t.bind fun v => (f v).bind g) s w := h.tree (T.bind_assoc _ _ _)

theorem Pan.met {val : β → Value} {pp : β → List Pt} {rr : β → Rp} (h : Pan x o w0 R ch w') : Met x o w0 val pp rr R (.panicked ch) w' := by
  obtain ⟨S, D, ⟨k, hR, he⟩ | ⟨c, hR, he⟩⟩ := h
  · rw [he]; exact Met.need S hR D
  · rw [he]; exact Met.over S hR D
/-- The end. -/
theorem St.met {t' : T (List Pt × Rp)} {R : Res (List Pt × Rp)} (h : St x o w0 R p r t' s w) (e : t' = .done (p, r)) : Mets' x o w0 R (.returned (.tuple #[])) w := by
  subst e
  exact Met.ok h.1 h.2.2 rfl h.2.1

theorem St.key {f : FuncId} {args : Array Value} {v : Value} {ob : Obj} (hc : ∀ w : World, Calls Tryz.prog f args w fun e w' => e = .returned v ∧ w.alloc ob = w') (h : St x o w0 R p r t s w) :
    Calls Tryz.prog f args w fun e w' => e = .returned v ∧ St x o w0 R p r t s w' ∧ Step x w w' := (hc w).mono fun _ _ ⟨h1, h2⟩ => ⟨h1, by rw [← h2]; exact h.alloc _, by rw [← h2]; exact (Step.refl x w).alloc h.lt _⟩
theorem St.split {val : α → Value} {q : T α} {g : α → T β} {e : Ending} (h : St x o w0 R p r (q.bind g) s w) (M : Met x o w val (fun _ => p) (fun _ => r) (q.run s) e w') :
    (∃ v s', e = .returned (val v) ∧ q.run s = .ok v s' ∧ St x o w0 R p r (g v) s' w' ∧ Step x w w') ∨ (∃ ch, e = .panicked ch ∧ Pan x o w0 R ch w') := by
  obtain ⟨S, hs⟩ := M
  have hr : R = (q.run s).then fun a s' => (g a).run s' := h.2.2.trans (T.run_bind _ _ _)
  generalize hq : q.run s = res at hs hr
  cases res with
  | ok a s' => exact .inl ⟨a, s', hs.1, rfl, ⟨h.1.trans S, hs.2, hr⟩, S⟩
  | need k => exact .inr ⟨_, hs.1, h.1.trans S, hs.2, .inl ⟨k, hr, rfl⟩⟩
  | over c => exact .inr ⟨_, hs.1, h.1.trans S, hs.2, .inr ⟨c, hr, rfl⟩⟩
theorem St.must {g : Vl → T β} (h : St x o w0 R p r ((mustT k).bind g) s w) :
    Calls Tryz.prog 75 #[.pointer (some ⟨x, 0, none⟩), .agg #[.int .u8 k.1, .int .u32 k.2.1, .int .u32 k.2.2]] w fun e w' =>
      (∃ v s', e = .returned (.agg #[.int .u64 v.1, .int .u64 v.2]) ∧ VlOk v ∧ St x o w0 R p r (g v) s' w' ∧ Step x w w') ∨ (∃ ch, e = .panicked ch ∧ Pan x o w0 R ch w') := by
  refine (must_any k h.2.1).mono fun e w' M => ?_
  rcases h.split M with ⟨v, s', he, hq, H⟩ | P
  · exact .inl ⟨v, s', he, must_val hq h.2.1.valOk, H⟩
  · exact .inr P
theorem St.amount {g : Int → T β} (h : St x o w0 R p r ((amountT k).bind g) s w) :
    Calls Tryz.prog 80 #[.pointer (some ⟨x, 0, none⟩), .agg #[.int .u8 k.1, .int .u32 k.2.1, .int .u32 k.2.2]] w fun e w' =>
      (∃ v s', e = .returned (.int .u64 v) ∧ U64 v ∧ St x o w0 R p r (g v) s' w' ∧ Step x w w') ∨ (∃ ch, e = .panicked ch ∧ Pan x o w0 R ch w') := by
  refine (hamount_any k h.2.1).mono fun e w' M => ?_
  rcases h.split M with ⟨v, s', he, hq, H⟩ | P
  · exact .inl ⟨v, s', he, amount_val hq h.2.1.valOk, H⟩
  · exact .inr P
/-- A thing is looked up. -/
def seeT (k : Ky) : T (Option Vl) := .ask k .done
theorem see_val {v : Vl} {s' : List Cel} (h : (seeT k).run s = .ok (some v) s') (hv : ∀ c ∈ s, VlOk c.v) : VlOk v := by
  cases s with
  | nil => cases h
  | cons c s =>
    unfold seeT T.run at h
    unfold Cel.ans at h
    cases hc : c.is <;> simp [hc, T.run] at h
    obtain ⟨rfl, rfl⟩ := h
    exact hv c (by simp)
theorem St.see {g : Option Vl → T β} (h : St x o w0 R p r ((seeT k).bind g) s w) :
    Calls Tryz.prog 72 #[.pointer (some ⟨x, 0, none⟩), .agg #[.int .u8 k.1, .int .u32 k.2.1, .int .u32 k.2.2]] w fun e w' =>
      (∃ v s', e = .returned (.tuple #[.agg #[.int .u64 (v.getD (0, 0)).1, .int .u64 (v.getD (0, 0)).2], .bool v.isSome]) ∧ VlOk (v.getD (0, 0)) ∧ St x o w0 R p r (g v) s' w' ∧ Step x w w') ∨ (∃ ch, e = .panicked ch ∧ Pan x o w0 R ch w') := by
  refine (see_any k h.2.1).mono fun e w' M => ?_
  rcases h.split M with ⟨v, s', he, hq, H⟩ | P
  · refine .inl ⟨v, s', he, ?_, H⟩
    cases v with
    | none => exact ⟨⟨by decide, by decide⟩, ⟨by decide, by decide⟩⟩
    | some v => exact see_val hq h.2.1.valOk
  · exact .inr P
theorem St.out {q : T Int} {g : Int → T β} {e : Ending} (h : St x o w0 R p r (q.bind g) s w) (O : Out q e) (B : Below w.heap.size w w') :
    (∃ v, e = .returned (.int .u64 v) ∧ (0 ≤ v ∧ v ≤ 4611686018427387904) ∧ St x o w0 R p r (g v) s w' ∧ Step x w w') ∨ (∃ ch, e = .panicked ch ∧ Pan x o w0 R ch w') := by
  have h2 := h.below B
  rcases O with ⟨v, ht, he, hv⟩ | ⟨c, ht, he⟩
  · exact .inl ⟨v, he, hv, h2.tree (by rw [ht.out]; rfl), Step.ofBelow h.lt B⟩
  · exact .inr ⟨_, he, h2.1, h2.2.1.dead, .inr ⟨c, by rw [h.2.2, ht.out]; rfl, rfl⟩⟩
theorem St.more {a n : Int} {g : Int → T β} (h : St x o w0 R p r ((moreT a n).bind g) s w) (ha : U64 a) (hn : U64 n) :
    Calls Tryz.prog 77 #[.int .u64 a, .int .u64 n] w fun e w' =>
      (∃ v, e = .returned (.int .u64 v) ∧ (0 ≤ v ∧ v ≤ 4611686018427387904) ∧ St x o w0 R p r (g v) s w' ∧ Step x w w') ∨ (∃ ch, e = .panicked ch ∧ Pan x o w0 R ch w') :=
  (more_any a n w ha hn).mono fun _ _ ⟨O, B⟩ => h.out O B
theorem St.less {a n : Int} {g : Int → T β} (h : St x o w0 R p r ((lessT a n).bind g) s w) (ha : U64 a) (hn : U64 n) :
    Calls Tryz.prog 78 #[.int .u64 a, .int .u64 n] w fun e w' =>
      (∃ v, e = .returned (.int .u64 v) ∧ (0 ≤ v ∧ v ≤ 4611686018427387904) ∧ St x o w0 R p r (g v) s w' ∧ Step x w w') ∨ (∃ ch, e = .panicked ch ∧ Pan x o w0 R ch w') :=
  (less_any a n w ha hn).mono fun _ _ ⟨O, B⟩ => h.out O B
/-- A check. -/
def checkT (b : Bool) (c : Int) : T Unit := if b then .done () else .over c
theorem St.check {b : Bool} {c : Int} {g : Unit → T β} (h : St x o w0 R p r ((checkT b c).bind g) s w) :
    Calls Tryz.prog 69 #[.bool b, .int .u16 c] w fun e w' =>
      (e = .returned (.tuple #[]) ∧ Hid (b = true) ∧ St x o w0 R p r (g ()) s w' ∧ Step x w w') ∨ (∃ ch, e = .panicked ch ∧ Pan x o w0 R ch w') := by
  refine (check_any b c w).mono fun e w' ⟨he, hw⟩ => ?_
  subst hw
  rcases he with ⟨hb, he⟩ | ⟨hb, he⟩
  · exact .inl ⟨he, hb, h.tree (by rw [hb.out]; rfl), Step.refl _ _⟩
  · exact .inr ⟨_, he, h.1, h.2.1.dead, .inr ⟨c, by rw [h.2.2, hb.out]; rfl, rfl⟩⟩
theorem St.put {a : Int} (h : St x o w0 R p r t s w) (k : Ky) (hp : p.length + 1 ≤ 1000) :
    Calls Tryz.prog 74 #[.pointer (some ⟨x, 0, none⟩), .agg #[.int .u8 k.1, .int .u32 k.2.1, .int .u32 k.2.2], .int .u64 a] w fun e w' => e = .returned (.tuple #[]) ∧ St x o w0 R (p ++ [putP k a]) r t s w' ∧ Step x w w' :=
  (put_any k a h.2.1 hp).mono fun _ _ ⟨he, S, H⟩ => ⟨he, ⟨h.1.trans S, H, h.2.2⟩, S⟩
theorem St.set (h : St x o w0 R p r t s w) (k : Ky) (v : Vl) (hp : p.length + 1 ≤ 1000) :
    Calls Tryz.prog 84 #[.pointer (some ⟨x, 0, none⟩), .agg #[.int .u8 k.1, .int .u32 k.2.1, .int .u32 k.2.2], .agg #[.int .u64 v.1, .int .u64 v.2]] w fun e w' => e = .returned (.tuple #[]) ∧ St x o w0 R (p ++ [⟨k, v, false⟩]) r t s w' ∧ Step x w w' :=
  (set_any k v h.2.1 hp).mono fun _ _ ⟨he, S, H⟩ => ⟨he, ⟨h.1.trans S, H, h.2.2⟩, S⟩
theorem St.gone (h : St x o w0 R p r t s w) (k : Ky) (hp : p.length + 1 ≤ 1000) (cap B : Nat) (hB : w.heap.size = B) :
    Calls Tryz.prog 90 #[.pointer (some ⟨x, 0, none⟩), .slice (some ⟨B, 0, none⟩) 1 cap] (w.alloc (.cells #[.int .u8 k.1, .int .u32 k.2.1, .int .u32 k.2.2] 52)) fun e w' => e = .returned (.tuple #[]) ∧ St x o w0 R (p ++ [goneP k]) r t s w' ∧ Step x w w' :=
  (gone_one k h.2.1 hp cap B hB).mono fun _ _ ⟨he, S, H⟩ => ⟨he, ⟨h.1.trans S, H, h.2.2⟩, S⟩

/-- A block that has nothing to do with the hand. -/
def Box (x B : Nat) (ob : Obj) (w : World) : Prop := Far x w B ∧ w.heap[B]? = some ob
theorem Box.new (h : Hand x o s p r w) (ob : Obj) {B : Nat} (hB : w.heap.size = B) : Box x B ob (w.alloc ob) := by
  subst hB; exact ⟨h.farNew ob, heap_alloc_new w ob⟩
theorem Box.step {B : Nat} {ob : Obj} (h : Box x B ob w) (S : Step x w w') : Box x B ob w' := ⟨S.far _ h.1, (S.block _ h.1).trans h.2⟩
theorem Box.lt {B : Nat} {ob : Obj} (h : Box x B ob w) : B < w.heap.size := h.1.1
theorem Box.three {B : Nat} {a b c : Value} {ty : TypeId} (h : Box x B (.cells #[a, b, c] ty) w) : w.cell? ⟨B, 0, none⟩ = some a ∧ w.cell? ⟨B, 1, none⟩ = some b ∧ w.cell? ⟨B, 2, none⟩ = some c ∧ B < w.heap.size :=
  ⟨cell_of_heap h.2 0, cell_of_heap h.2 1, cell_of_heap h.2 2, h.lt⟩
theorem Box.two {B : Nat} {a b : Value} {ty : TypeId} (h : Box x B (.cells #[a, b] ty) w) : w.cell? ⟨B, 0, none⟩ = some a ∧ w.cell? ⟨B, 1, none⟩ = some b ∧ B < w.heap.size :=
  ⟨cell_of_heap h.2 0, cell_of_heap h.2 1, h.lt⟩
theorem Step.set10 {w : World} (v : Value) : Step x w (w.setCell ⟨x, 10, none⟩ v) := (Step.refl x w).setX 10 (by decide) v
theorem Step.set11 {w : World} (v : Value) : Step x w (w.setCell ⟨x, 11, none⟩ v) := (Step.refl x w).setX 11 (by decide) v
theorem Step.set12 {w : World} (v : Value) : Step x w (w.setCell ⟨x, 12, none⟩ v) := (Step.refl x w).setX 12 (by decide) v
theorem Box.newD (h : St x o w0 R p r t s w) (ob : Obj) : Box x w.heap.size ob (w.drew.alloc ob) := Box.new h.drew.hand ob rfl
theorem Box.newS (h : St x o w0 R p r t s w) (ob : Obj) : Box x w.heap.size ob (w.alloc ob) := Box.new h.hand ob rfl
theorem Box.froz {B : Nat} {cs : Array Value} {ty : TypeId} (h : Box x B (.cells cs ty) w) (i : Nat) : w.frozen? ⟨B, i, none⟩ = false := frozen_of_heap h.2 i
theorem Box.drew {B : Nat} {ob : Obj} (h : Box x B ob w) : Box x B ob w.drew := h
theorem Box.alloc {B : Nat} {ob ob' : Obj} (h : Box x B ob w) (hx : x < w.heap.size) : Box x B ob (w.alloc ob') := h.step ((Step.refl x w).alloc hx ob')
theorem St.setFar {q : Addr} (h : St x o w0 R p r t s w) (hx : x < w0.heap.size) (hq : Far x w q.block) (hl : w0.heap.size ≤ q.block) (v : Value) : St x o w0 R p r t s (w.setCell q v) :=
  ⟨h.1.setNew hx hl v, h.2.1.setFar hq (by omega) v, h.2.2⟩
theorem Box.put {B i : Nat} {cs : Array Value} {ty : TypeId} (h : Box x B (.cells cs ty) w) (v : Value) : Box x B (.cells (cs.setIfInBounds i v) ty) (w.setCell ⟨B, i, none⟩ v) :=
  ⟨h.1.setCell h.1.2.1 v, by simp [World.setCell, Array.getElem?_modify, h.2]⟩
/-- Another box is as it was. -/
theorem Box.other {B : Nat} {ob : Obj} {q : Addr} (h : Box x B ob w) (hq : q.block ≠ B) (hx : q.block ≠ x) (v : Value) : Box x B ob (w.setCell q v) :=
  ⟨h.1.setCell hx v, (Below.heap_setCell _ _ _ _ (Ne.symm hq)).trans h.2⟩
theorem Box.other10 {B : Nat} {ob : Obj} (h : Box x B ob w) (v : Value) : Box x B ob (w.setCell ⟨x, 10, none⟩ v) := h.step (Step.set10 v)
/-- A box of three cells is written over. -/
theorem St.fill3 {B : Nat} {a b c : Value} {ty : TypeId} (h : St x o w0 R p r t s w) (k : Box x B (.cells #[a, b, c] ty) w) (hx : x < w0.heap.size) (hB : w0.heap.size ≤ B) (a' b' c' : Value) :
    St x o w0 R p r t s (((w.setCell ⟨B, 0, none⟩ a').setCell ⟨B, 1, none⟩ b').setCell ⟨B, 2, none⟩ c') ∧ Box x B (.cells #[a', b', c'] ty) (((w.setCell ⟨B, 0, none⟩ a').setCell ⟨B, 1, none⟩ b').setCell ⟨B, 2, none⟩ c') := by
  have k1 := k.put (i := 0) a'
  have k2 := k1.put (i := 1) b'
  have k3 := k2.put (i := 2) c'
  exact ⟨((h.setFar (q := ⟨B, 0, none⟩) hx k.1 hB a').setFar (q := ⟨B, 1, none⟩) hx k1.1 hB b').setFar (q := ⟨B, 2, none⟩) hx k2.1 hB c', by simpa using k3⟩
theorem St.fill2 {B : Nat} {a b : Value} {ty : TypeId} (h : St x o w0 R p r t s w) (k : Box x B (.cells #[a, b] ty) w) (hx : x < w0.heap.size) (hB : w0.heap.size ≤ B) (a' b' : Value) :
    St x o w0 R p r t s ((w.setCell ⟨B, 0, none⟩ a').setCell ⟨B, 1, none⟩ b') ∧ Box x B (.cells #[a', b'] ty) ((w.setCell ⟨B, 0, none⟩ a').setCell ⟨B, 1, none⟩ b') := by
  have k1 := k.put (i := 0) a'
  have k2 := k1.put (i := 1) b'
  exact ⟨(h.setFar (q := ⟨B, 0, none⟩) hx k.1 hB a').setFar (q := ⟨B, 1, none⟩) hx k1.1 hB b', by simpa using k2⟩
theorem cell_past {B i j : Nat} {v u : Value} (h : x ≠ B) (hc : w.cell? ⟨x, j, none⟩ = some u) : (w.setCell ⟨B, i, none⟩ v).cell? ⟨x, j, none⟩ = some u := cell_off h hc
theorem Box.name {B : Nat} {ob : Obj} (_ : Box x B ob w) : ∃ b, b = B := ⟨B, rfl⟩
end
end Go.Proofs.YtdbpjbmalinlbaaGreat
