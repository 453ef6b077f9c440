/- The walk of ModelTwice. -/
import Derived.Test.YtdbpjbmalinlbaaGreatModN
namespace Go.Proofs.YtdbpjbmalinlbaaGreat
open Go.RowKit

/-- Operations that came in. -/
def OpsIn (w : World) (lv : Value) (ops : List OpV) : Prop :=
  (∃ a cap, lv = .slice a ops.length cap ∧ ops.length ≤ cap ∧ (ops = [] ∨ ∃ b off, a = some ⟨b, off, none⟩ ∧ b < w.heap.size ∧ ∀ i o, ops[i]? = some o →
    w.cell? ⟨b, off + i * 7, none⟩ = some (.int .u8 o.kind) ∧ w.cell? ⟨b, off + i * 7 + 1, none⟩ = some (.int .u32 o.who) ∧ w.cell? ⟨b, off + i * 7 + 2, none⟩ = some (.int .u32 o.whom) ∧ w.cell? ⟨b, off + i * 7 + 3, none⟩ = some (.int .u32 o.what) ∧
    w.cell? ⟨b, off + i * 7 + 4, none⟩ = some (.int .u32 o.id) ∧ w.cell? ⟨b, off + i * 7 + 5, none⟩ = some (.int .u64 o.n) ∧ w.cell? ⟨b, off + i * 7 + 6, none⟩ = some (.int .u64 o.price))) ∧ ∀ o ∈ ops, OpOk o
/-- Cells that came in, keys and all. -/
def CelsIn (w : World) (sv : Value) (s : List Cel) : Prop := SeenAt w.heap.size w sv s ∧ ∀ c ∈ s, KyOk c.k ∧ VlOk c.v

theorem ops_seven {w : World} {a : Option Addr} {n c : Nat} {ops : List OpV} (h : OpsIn w (.slice a n c) ops) {i : Nat} {o : OpV} (hi : ops[i]? = some o) :
    ∃ b off, a = some ⟨b, off, none⟩ ∧ b < w.heap.size ∧ w.cell? ⟨b, off + i * 7, none⟩ = some (.int .u8 o.kind) ∧ w.cell? ⟨b, off + i * 7 + 1, none⟩ = some (.int .u32 o.who) ∧ w.cell? ⟨b, off + i * 7 + 2, none⟩ = some (.int .u32 o.whom) ∧ w.cell? ⟨b, off + i * 7 + 3, none⟩ = some (.int .u32 o.what) ∧
    w.cell? ⟨b, off + i * 7 + 4, none⟩ = some (.int .u32 o.id) ∧ w.cell? ⟨b, off + i * 7 + 5, none⟩ = some (.int .u64 o.n) ∧ w.cell? ⟨b, off + i * 7 + 6, none⟩ = some (.int .u64 o.price) := by
  obtain ⟨⟨a', c', hv, _, h⟩, _⟩ := h
  cases hv
  rcases h with rfl | ⟨b, off, ha, hb, h⟩
  · simp at hi
  · exact ⟨b, off, ha, hb, h i o hi⟩

theorem ofS_other {f : Mp} {c : Cel} {k : Ky} (h : c.k ≠ k) : ofS f c k = f k := by
  unfold ofS
  split
  · unfold Mp.put; rw [if_neg (fun e => h e.symm)]
  · rfl
theorem fold_other {l : List Cel} {k : Ky} (h : ∀ c ∈ l, c.k ≠ k) : ∀ f : Mp, (l.foldl ofS f) k = f k := by
  induction l with
  | nil => intro f; rfl
  | cons c l ih =>
    intro f
    rw [List.foldl_cons, ih (fun a ha => h a (by simp [ha])), ofS_other (h c (by simp))]
theorem fold_there : ∀ {l : List Cel} {c : Cel} (f : Mp), l.Pairwise (fun a b => a.k ≠ b.k) → c ∈ l → c.is = true → (l.foldl ofS f) c.k = some c.v
  | [], _, _, _, h, _ => by simp at h
  | a :: l, c, f, p, h, hi => by
    obtain ⟨p1, p2⟩ := List.pairwise_cons.1 p
    rw [List.foldl_cons]
    rcases List.mem_cons.1 h with e | h
    · subst e
      rw [fold_other (fun b hb e => p1 b hb e.symm)]
      unfold ofS Mp.put
      rw [if_pos hi, if_pos rfl]
    · exact fold_there _ p2 h hi
/-- A world that is made of what another one tells is that one. -/
theorem ofL_all {f : Mp} {l : List Cel} (h : IsAll f l) : ofL l = f := by
  funext k
  unfold ofL
  cases e : f k with
  | some v =>
    obtain ⟨c, hc, rfl⟩ := h.all k v e
    obtain ⟨hi, _, hv⟩ := h.there c hc
    rw [fold_there _ h.apart hc hi, ← hv, e]
  | none =>
    refine fold_other (fun c hc ek => ?_) _
    have := (h.there c hc).2.2
    rw [ek, e] at this
    cases this
theorem ofS_ok {f : Mp} (h : MpOk f) {c : Cel} (hc : KyOk c.k ∧ VlOk c.v) : MpOk (ofS f c) := by
  intro k v e
  unfold ofS at e
  split at e
  · unfold Mp.put at e
    split at e
    · rename_i hk
      cases e
      exact ⟨hk ▸ hc.1, hc.2⟩
    · exact h k v e
  · exact h k v e
theorem ofL_ok {l : List Cel} (h : ∀ c ∈ l, KyOk c.k ∧ VlOk c.v) : MpOk (ofL l) := by
  unfold ofL
  have : ∀ (l : List Cel) (f : Mp), MpOk f → (∀ c ∈ l, KyOk c.k ∧ VlOk c.v) → MpOk (l.foldl ofS f) := by
    intro l
    induction l with
    | nil => exact fun f hf _ => hf
    | cons c l ih => exact fun f hf hl => ih _ (ofS_ok hf (hl c (by simp))) fun a ha => hl a (by simp [ha])
  exact this l _ (fun _ _ e => by cases e) h
theorem WSt.mono {A b n n' : Nat} {f : Mp} {w : World} (S : WSt A b n f w) (h : n ≤ n') : WSt A b n' f w := ⟨S.cell, S.is.mono h⟩
theorem step_len {f : Mp} (hf : MpOk f) {o : OpV} (ho : OpOk o) : (ev f (runT o)).1.length ≤ 100 := (Neat.ev hf (neat_run ho)).1
/-- A Do, told by bounds. -/
theorem doM_b {A b n : Nat} {f : Mp} {w : World} (S : WSt A b n f w) (hn : n + 200 < maxLen) (hf : MpOk f) (o : OpV) (ho : OpOk o) :
    Calls Tryz.prog 7 #[.pointer (some ⟨A, 0, none⟩), .agg #[.int .u8 o.kind, .int .u32 o.who, .int .u32 o.whom, .int .u32 o.what, .int .u32 o.id, .int .u64 o.n, .int .u64 o.price]] w fun e w' =>
      e = .returned (.agg #[.int .u16 (ev f (runT o)).2.err, .int .u64 (ev f (runT o)).2.a, .int .u64 (ev f (runT o)).2.b, .int .u64 (ev f (runT o)).2.c]) ∧ WSt A b (n + 100) (stepM f o) w' ∧ w.grownBy w' (some b) :=
  (doM_w S hn hf o ho).mono fun _ _ ⟨h1, h2, h3⟩ => ⟨h1, h2.mono (by have := step_len hf ho; omega), h3⟩

end Go.Proofs.YtdbpjbmalinlbaaGreat
