/- Package lock: maps of raw values; the table's state; Package lock: keys of a table, rising. -/
import Derived.Test.YtilknhackmccpaaLckJ
import Derived.Maps.RangeWalk
import Derived.Maps.Ext
import Derived.Deep.AppendLies
set_option linter.unusedVariables false
set_option linter.unusedSimpArgs false
namespace Go.Proofs.Ytilknhackmccpaa
open Go.RowKit Go.Sort Go.Lib Go.ChangeMaps Go.MapKept
open Go.Maps (Keyed)

/-- A key's type. -/
structure KT (κ : Type) where
  kt : TypeId
  law : Keyed Try.prog kt
  v : κ → Value
  l : κ → Lit
  ok : κ → Prop
  of : ∀ {k}, ok k → keyOf Try.prog kt (v k) = some (l k)
  inv : ∀ {u x}, keyOf Try.prog kt u = some x → ∃ k, ok k ∧ u = v k ∧ x = l k
  vinj : ∀ {k k'}, v k = v k' → k = k'
  isK : ∀ k, WideAt.IsKeyLit (l k)
def keyT : KT Ky := ⟨38, keyLaw, kyV, kyL, KyOk, key_of, key_inv, kyV_inj, kyL_key⟩
def numT : KT Int := ⟨23, law_u, .int .u32, .int .u32, U, U.key, fun h => by
  obtain ⟨k, h1, h2, h3⟩ := Maps.keyOf_int_inv Try.underlying23 h
  exact ⟨k, U.of h3, h1, h2⟩, fun h => by simpa using h, fun _ => trivial⟩

theorem nodup_len {α : Type} {l m : List α} (h : l.Nodup) (hs : l ⊆ m) : l.length ≤ m.length := by
  induction l generalizing m with
  | nil => exact Nat.zero_le _
  | cons a r ih =>
    obtain ⟨s, t, rfl⟩ := List.append_of_mem (hs (List.mem_cons_self ..))
    obtain ⟨h1, h2⟩ := List.nodup_cons.1 h
    have := ih (m := s ++ t) h2 (fun x hx => by
      have := hs (List.mem_cons_of_mem _ hx)
      simp only [List.mem_append, List.mem_cons] at this ⊢
      rcases this with h | rfl | h
      · exact .inl h
      · exact absurd hx h1
      · exact .inr h)
    simp only [List.length_append, List.length_cons] at this ⊢
    omega
/-- How a value reads: as itself. -/
def rawR (v : Value) : Option (DataW Value × List MemPlace) := some (.held v, [])
section
variable {κ : Type} (T : KT κ)
theorem KT.linj {k k' : κ} (h : T.ok k) (h' : T.ok k') (e : T.l k = T.l k') : k = k' := T.vinj (T.law.inj (T.of h) (e ▸ T.of h'))
def putF [DecidableEq κ] (f : κ → Option Value) (k : κ) (v : Value) : κ → Option Value := fun k' => if k' = k then some v else f k'
def delF [DecidableEq κ] (f : κ → Option Value) (k : κ) : κ → Option Value := fun k' => if k' = k then none else f k'
/-- The datum D tells f. -/
def TellsV (D : DataW Value) (f : κ → Option Value) : Prop := Maps.Tidy D ∧ ∀ k, T.ok k → match f k with
  | none => Maps.has D (T.l k) = false
  | some v => ∀ z, D.atKey (T.l k) z = .held v
variable {T}
theorem TellsV.none {D : DataW Value} {f : κ → Option Value} {k : κ} (h : TellsV T D f) (hk : T.ok k) (e : f k = none) : Maps.has D (T.l k) = false := by
  have := h.2 k hk; rw [e] at this; exact this
theorem TellsV.some {D : DataW Value} {f : κ → Option Value} {k : κ} {v : Value} (h : TellsV T D f) (hk : T.ok k) (e : f k = some v) : ∀ z, D.atKey (T.l k) z = .held v := by
  have := h.2 k hk; rw [e] at this; exact this
theorem tellsV_empty : TellsV T (.map []) (fun _ => none) := ⟨Maps.tidy_empty, fun _ _ => rfl⟩
theorem TellsV.put [DecidableEq κ] {D : DataW Value} {f : κ → Option Value} (h : TellsV T D f) {k : κ} (hk : T.ok k) (v : Value) : TellsV T (D.put (T.l k) (.held v)) (putF f k v) := by
  refine ⟨h.1.put (T.isK k) _, fun k' hk' => ?_⟩
  by_cases e : k' = k
  · subst e
    simp only [putF, if_true]
    exact fun z => Maps.atKey_put_same h.1.isMap (T.isK k') _ z
  · have hne : T.l k' ≠ T.l k := fun e' => e (T.linj hk' hk e')
    simp only [putF, if_neg e]
    have := h.2 k' hk'
    cases hf : f k' with
    | none => rw [hf] at this; simp only; rw [Maps.has_put_other hne]; exact this
    | some v' => rw [hf] at this; simp only; intro z; rw [Maps.atKey_put_other hne]; exact this z
theorem TellsV.del [DecidableEq κ] {D : DataW Value} {f : κ → Option Value} (h : TellsV T D f) {k : κ} (hk : T.ok k) : TellsV T (D.del (T.l k)) (delF f k) := by
  refine ⟨h.1.del _, fun k' hk' => ?_⟩
  by_cases e : k' = k
  · subst e
    simp only [delF, if_true]
    exact Maps.has_del_same
  · have hne : T.l k' ≠ T.l k := fun e' => e (T.linj hk' hk e')
    simp only [delF, if_neg e]
    have := h.2 k' hk'
    cases hf : f k' with
    | none => rw [hf] at this; simp only; rw [Maps.has_del_other hne]; exact this
    | some v' => rw [hf] at this; simp only; intro z; rw [Maps.atKey_del_other hne]; exact this z

/-- Block b is a map that is f; ks: its keys. -/
def MapV (T : KT κ) (w : World) (b : Nat) (ks : List κ) (f : κ → Option Value) : Prop :=
  (∃ D n, w.ownsMap Try.prog T.kt rawR b n D ∧ TellsV T D f ∧ n ≤ ks.length) ∧ (∀ k, k ∈ ks ↔ f k ≠ none) ∧ ∀ k ∈ ks, T.ok k
variable {w w' : World} {b : Nat} {ks : List κ} {f : κ → Option Value}
theorem MapV.lt (h : MapV T w b ks f) : b < w.heap.size := by obtain ⟨⟨D, n, h, _⟩, _⟩ := h; exact h.lt
theorem MapV.kept {row : Option Nat} (h : MapV T w b ks f) (hg : w.grownBy w' row) (hne : some b ≠ row) : MapV T w' b ks f := by
  obtain ⟨⟨D, n, h, ht⟩, hk⟩ := h
  exact ⟨⟨D, n, h.kept hg hne, ht⟩, hk⟩
theorem MapV.below {B : Nat} (h : MapV T w b ks f) (hB : RowKit.Below B w w') (hb : b < B) : MapV T w' b ks f := by
  obtain ⟨⟨D, n, h, ht⟩, hk⟩ := h
  obtain ⟨es, clock, h1, h2⟩ := h
  exact ⟨⟨D, n, ⟨es, clock, (hB.block b hb).trans h1, h2⟩, ht⟩, hk⟩
theorem mapV_made (w : World) : MapV T (w.alloc (.map #[] 0)) w.heap.size [] (fun _ => none) :=
  ⟨⟨_, 0, World.ownsMap_made w _ _ _, tellsV_empty, Nat.le_refl _⟩, by simp, by simp⟩
/-- No entry but those of the keys. -/
theorem ownsMap_keys {n : Nat} {D : DataW Value} (h : w.ownsMap Try.prog T.kt rawR b n D) (ht : TellsV T D f) (hks : ∀ k, f k ≠ none → k ∈ ks) : w.ownsMap Try.prog T.kt rawR b ks.length D := by
  obtain ⟨es, clock, hb, F, hs, rfl⟩ := h
  refine ⟨es, clock, hb, F, ?_, rfl⟩
  have hk : ∀ x ∈ es.toList, ∃ k, k ∈ ks ∧ x.key = T.v k := fun x hx => by
    obtain ⟨y, hy⟩ := F.reads x hx
    obtain ⟨k, h1, h2, h3⟩ := T.inv (WideElems.rd_key hy)
    refine ⟨k, hks k fun e => ?_, h2⟩
    have hn := ht.none h1 e
    have : Maps.has (DataW.map ((es.toList.map (WideElems.rg Try.prog T.kt rawR)).foldr DataW.insert [])) (T.l k) = true :=
      List.any_eq_true.2 ⟨WideElems.rg Try.prog T.kt rawR x, mem_sorted.2 (List.mem_map.2 ⟨x, hx, rfl⟩), by
        rw [WideElems.rg_of hy, h3]
        exact WideAt.sameKey_self (T.isK k)⟩
    rw [hn] at this
    cases this
  have hnd : (es.toList.map fun x => x.key).Nodup := by
    have := ((stamped_iff es clock).1 F.stamped).2.2
    rw [List.Nodup, List.pairwise_map]
    exact this
  have hsub : (es.toList.map fun x => x.key) ⊆ ks.map T.v := fun u hu => by
    obtain ⟨x, hx, rfl⟩ := List.mem_map.1 hu
    obtain ⟨k, h1, h2⟩ := hk x hx
    exact List.mem_map.2 ⟨k, h1, h2.symm⟩
  have := nodup_len hnd hsub
  simpa using this
/-- The keys. -/
def insS (ks : List κ) (k : κ) (ks' : List κ) : Prop := ks'.length ≤ ks.length + 1 ∧ ∀ x, x ∈ ks' ↔ x = k ∨ x ∈ ks
theorem MapV.store [DecidableEq κ] (h : MapV T w b ks f) {mt et : TypeId} (hm : Try.prog.underlying mt = some (.map T.kt et)) {k : κ} (hk : T.ok k) (u : Value) {ks' : List κ} (hi : insS ks k ks') (hn : ks.length < maxLen) :
    ∃ w', (Instr.mapUpdate mt (.map (some b)) (T.v k) u).run Try.prog w = .ok () w' ∧ MapV T w' b ks' (putF f k u) ∧ w.grownBy w' (some b) := by
  obtain ⟨⟨D, n, hown, ht, hnk⟩, hks, hok⟩ := h
  obtain ⟨w', hrun, r1, r2⟩ := hown.update T.law hm (Nat.lt_of_le_of_lt hnk hn) (T.of hk) (show rawR u = some (.held u, []) from rfl)
  have h2 : ∀ x, x ∈ ks' ↔ putF f k u x ≠ none := fun x => by
    rw [hi.2, putF]
    by_cases e : x = k
    · simp [e]
    · simp only [e, false_or, if_false]
      exact hks x
  exact ⟨w', hrun, ⟨⟨_, _, ownsMap_keys r1 (ht.put hk u) (fun x hx => (h2 x).2 hx), ht.put hk u, Nat.le_refl _⟩, h2, fun x hx => by
    rcases (hi.2 x).1 hx with rfl | hx
    · exact hk
    · exact hok x hx⟩, r2⟩
theorem MapV.drop [DecidableEq κ] (h : MapV T w b ks f) {mt et : TypeId} (hm : Try.prog.underlying mt = some (.map T.kt et)) {k : κ} (hk : T.ok k) (ty : TypeId) {ks' : List κ} (hi : ∀ x, x ∈ ks' ↔ x ≠ k ∧ x ∈ ks) :
    ∃ w', (Builtin.delete_ #[mt, T.kt] ty #[.map (some b), T.v k]).run Try.prog w = .ok (.tuple #[]) w' ∧ MapV T w' b ks' (delF f k) ∧ w.grownBy w' (some b) := by
  obtain ⟨⟨D, n, hown, ht, hnk⟩, hks, hok⟩ := h
  obtain ⟨w', hrun, r1, r2⟩ := hown.drop T.law hm (T.of hk) ty
  have h2 : ∀ x, x ∈ ks' ↔ delF f k x ≠ none := fun x => by
    rw [hi, delF]
    by_cases e : x = k
    · simp [e]
    · simp only [e, ne_eq, not_false_eq_true, true_and, if_false]
      exact hks x
  exact ⟨w', hrun, ⟨⟨_, _, ownsMap_keys r1 (ht.del hk) (fun x hx => (h2 x).2 hx), ht.del hk, Nat.le_refl _⟩, h2, fun x hx => hok x ((hi x).1 hx).2⟩, r2.grown⟩
theorem MapV.look (h : MapV T w b ks f) {mt et : TypeId} (hm : Try.prog.underlying mt = some (.map T.kt et)) {z : Value} (hz : (zeroValue et).run Try.prog w = .ok z w) {k : κ} (hk : T.ok k) :
    (Instr.lookup mt (.map (some b)) (T.v k) false).run Try.prog w = .ok ((f k).getD z) w ∧ (Instr.lookup mt (.map (some b)) (T.v k) true).run Try.prog w = .ok (.tuple #[(f k).getD z, .bool (f k).isSome]) w := by
  obtain ⟨⟨D, n, hown, ht, hnk⟩, hks, hok⟩ := h
  obtain ⟨v1, p1, r1, h1⟩ := hown.lookup T.law hm hz (show rawR z = some (.held z, []) from rfl) (T.of hk)
  obtain ⟨v2, p2, r2, h2⟩ := hown.look_ok T.law hm hz (show rawR z = some (.held z, []) from rfl) (T.of hk)
  have hat : D.atKey (T.l k) (.held z) = .held ((f k).getD z) ∧ Maps.has D (T.l k) = (f k).isSome := by
    cases e : f k with
    | none => exact ⟨Maps.atKey_of_not_has (ht.none hk e) _, ht.none hk e⟩
    | some v => exact ⟨ht.some hk e _, Maps.has_true_of_atKey (ht.some hk e)⟩
  rw [hat.1] at h1 h2
  rw [hat.2] at r2
  obtain rfl : v1 = (f k).getD z := by have := congrArg (fun o => o.map (·.1)) h1; simpa [rawR] using this
  obtain rfl : v2 = (f k).getD z := by have := congrArg (fun o => o.map (·.1)) h2; simpa [rawR] using this
  exact ⟨r1, r2⟩
end

/-- Blocks b1 and b2 alone may have turned. -/
structure Two (b1 b2 : Nat) (w w' : World) : Prop where
  os : w'.os = w.os
  tape : w'.tape = w.tape
  output : w'.output = w.output
  size : w.heap.size ≤ w'.heap.size
  block : ∀ i, i < w.heap.size → i ≠ b1 → i ≠ b2 → w'.heap[i]? = w.heap[i]?
section
variable {w w' w2 : World} {b1 b2 : Nat}
theorem Two.refl (b1 b2 : Nat) (w : World) : Two b1 b2 w w := ⟨rfl, rfl, rfl, Nat.le_refl _, fun _ _ _ _ => rfl⟩
theorem Two.trans (h : Two b1 b2 w w') (k : Two b1 b2 w' w2) : Two b1 b2 w w2 :=
  ⟨k.os.trans h.os, k.tape.trans h.tape, k.output.trans h.output, Nat.le_trans h.size k.size, fun i hi h1 h2 => (k.block i (Nat.lt_of_lt_of_le hi h.size) h1 h2).trans (h.block i hi h1 h2)⟩
theorem Two.of1 (h : w.grownBy w' (some b1)) : Two b1 b2 w w' := ⟨h.os, h.tape, h.output, h.size, fun i hi h1 _ => h.block i hi (by simpa using h1)⟩
theorem Two.of2 (h : w.grownBy w' (some b2)) : Two b1 b2 w w' := ⟨h.os, h.tape, h.output, h.size, fun i hi _ h1 => h.block i hi (by simpa using h1)⟩
theorem Two.of0 (h : RowKit.Below w.heap.size w w') : Two b1 b2 w w' := ⟨h.os, h.tape, h.output, h.size, fun i hi _ _ => h.block i hi⟩
theorem Two.below {B : Nat} (h : Two b1 b2 w w') (h1 : B ≤ b1) (h2 : B ≤ b2) (hB : B ≤ w.heap.size) : RowKit.Below B w w' :=
  ⟨h.os, h.tape, h.output, h.size, fun i hi => h.block i (by omega) (by omega) (by omega)⟩
/-- By two steps, of one block each. -/
theorem Two.split (h : Two b1 b2 w w') : ∃ m, w.grownBy m (some b1) ∧ m.grownBy w' (some b2) := by
  cases hb : w'.heap[b1]? with
  | none =>
    refine ⟨w, World.grownBy.refl _ _, h.os, h.tape, h.output, h.size, fun i hi hne => h.block i hi (fun e => ?_) (by simpa using hne)⟩
    rw [Array.getElem?_eq_none_iff] at hb
    have := h.size
    omega
  | some o =>
    refine ⟨setBlock w b1 o, ⟨rfl, rfl, rfl, by simp [setBlock], fun i hi hne => ?_⟩, ⟨h.os, h.tape, h.output, by simpa [setBlock] using h.size, fun i hi hne => ?_⟩⟩
    · have : b1 ≠ i := fun e => hne (by rw [e])
      simp [setBlock, Array.getElem?_setIfInBounds, this]
    · have hi' : i < w.heap.size := by simpa [setBlock] using hi
      by_cases e : b1 = i
      · subst e
        rw [hb]
        simp [setBlock, hi']
      · rw [h.block i hi' (Ne.symm e) (by simpa using hne)]
        simp [setBlock, Array.getElem?_setIfInBounds, e]
/-- Another block than the wants' has turned. -/
theorem Wants.of_blocks {v : Value} {l : List (Int × Int)} (h : Wants w v l) (hs : w.heap.size ≤ w'.heap.size) (hbl : ∀ g, WB w g → w'.heap[g]? = w.heap[g]?) : Wants w' v l := by
  obtain ⟨a, cap, e, hl, hz, hc⟩ := h
  refine ⟨a, cap, e, hl, hz, fun hne => ?_⟩
  obtain ⟨eb, off, h1, h2, h3⟩ := hc hne
  have hb := hbl eb h2
  have hcell : ∀ i, w'.cell? ⟨eb, i, none⟩ = w.cell? ⟨eb, i, none⟩ := fun i => by simp only [World.cell?, hb]
  exact ⟨eb, off, h1, h2.same hb, fun i hi => ⟨(hcell _).trans (h3 i hi).1, (hcell _).trans (h3 i hi).2⟩⟩
theorem Wants.but {v : Value} {l : List (Int × Int)} {g : Nat} (h : Wants w v l) (hg : w.grownBy w' (some g)) (hn : ¬ WB w g) : Wants w' v l :=
  h.of_blocks hg.size fun b hb => hg.block b hb.lt (fun e => hn (by cases e; exact hb))
theorem Wants.two {v : Value} {l : List (Int × Int)} (h : Wants w v l) (k : Two b1 b2 w w') (n1 : ∀ cs ty fr, w.heap[b1]? ≠ some (.cells cs ty fr)) (n2 : ∀ cs ty fr, w.heap[b2]? ≠ some (.cells cs ty fr)) : Wants w' v l :=
  h.of_blocks k.size fun b hb => k.block b hb.lt (fun e => by obtain ⟨cs, fr, h⟩ := hb; exact n1 _ _ _ (e ▸ h)) (fun e => by obtain ⟨cs, fr, h⟩ := hb; exact n2 _ _ _ (e ▸ h))
theorem MapV.nocells {κ : Type} {T : KT κ} {b : Nat} {ks : List κ} {f : κ → Option Value} (h : MapV T w b ks f) : ∀ cs ty fr, w.heap[b]? ≠ some (.cells cs ty fr) := by
  obtain ⟨⟨D, n, ⟨es, clock, h1, _⟩, _⟩, _⟩ := h
  intro cs ty fr
  rw [h1]
  simp
end

/-- Who holds, who is in line. -/
abbrev Lk := List (Int × Int) × List (Int × Int)
def holdV (h : Ky × Int) : Value := .agg #[.int .u8 h.1.1, .int .u32 h.1.2.1, .int .u32 h.1.2.2, .int .u8 h.2]
/-- A table: its keys, what is at each; who waits, for what. -/
structure Tb where
  ks : List Ky
  F : Ky → Lk
  hs : List Int
  W : Int → Option (Ky × Int)
def noLk : Value := .agg #[.slice none 0 0, .slice none 0 0]
structure TabIs (w : World) (TB b1 b2 : Nat) (T : Tb) (f : Ky → Option Value) : Prop where
  cell : w.heap[TB]? = some (.cells #[.map (some b1), .map (some b2)] 75)
  ne : b1 ≠ b2
  locks : MapV keyT w b1 T.ks f
  at_ : ∀ k, ∃ a b, (f k).getD noLk = .agg #[a, b] ∧ Wants w a (T.F k).1 ∧ Wants w b (T.F k).2
  waits : MapV numT w b2 T.hs (fun t => (T.W t).map holdV)
  sorted : T.ks.Pairwise KLt
  rising : T.hs.Pairwise (· < ·)
section
variable {w w' : World} {TB b1 b2 : Nat} {T : Tb} {f : Ky → Option Value}
theorem TabIs.lt (h : TabIs w TB b1 b2 T f) : TB < w.heap.size := (Array.getElem?_eq_some_iff.1 h.cell).1
theorem TabIs.n1 (h : TabIs w TB b1 b2 T f) : TB ≠ b1 := fun e => h.locks.nocells _ _ _ (e ▸ h.cell)
theorem TabIs.n2 (h : TabIs w TB b1 b2 T f) : TB ≠ b2 := fun e => h.waits.nocells _ _ _ (e ▸ h.cell)
theorem TabIs.c0 (h : TabIs w TB b1 b2 T f) : w.cell? ⟨TB, 0, none⟩ = some (.map (some b1)) := by rw [cell_of_heap h.cell]; rfl
theorem TabIs.c1 (h : TabIs w TB b1 b2 T f) : w.cell? ⟨TB, 1, none⟩ = some (.map (some b2)) := by rw [cell_of_heap h.cell]; rfl
theorem TabIs.below {B : Nat} (h : TabIs w TB b1 b2 T f) (hb : RowKit.Below B w w') (hB : w.heap.size ≤ B) : TabIs w' TB b1 b2 T f :=
  ⟨(hb.block TB (Nat.lt_of_lt_of_le h.lt hB)).trans h.cell, h.ne, h.locks.below hb (Nat.lt_of_lt_of_le h.locks.lt hB), fun k => by
    obtain ⟨a, b, e, h1, h2⟩ := h.at_ k
    exact ⟨a, b, e, h1.keep hb hB, h2.keep hb hB⟩, h.waits.below hb (Nat.lt_of_lt_of_le h.waits.lt hB), h.sorted, h.rising⟩
theorem TabIs.kept {row : Option Nat} (h : TabIs w TB b1 b2 T f) (hg : w.grownBy w' row) (hr : ∀ g, row = some g → w.heap.size ≤ g) : TabIs w' TB b1 b2 T f :=
  h.below (B := w.heap.size) ⟨hg.os, hg.tape, hg.output, hg.size, fun i hi => hg.block i hi (fun e => by have := hr i e.symm; omega)⟩ (Nat.le_refl _)
/-- One map has turned. -/
theorem TabIs.turn1 (h : TabIs w TB b1 b2 T f) (hg : w.grownBy w' (some b1)) {ks : List Ky} {f' : Ky → Option Value} {F' : Ky → Lk} (hm : MapV keyT w' b1 ks f') (hs : ks.Pairwise KLt)
    (ha : ∀ k, ∃ a b, (f' k).getD noLk = .agg #[a, b] ∧ Wants w a (F' k).1 ∧ Wants w b (F' k).2) : TabIs w' TB b1 b2 ⟨ks, F', T.hs, T.W⟩ f' :=
  ⟨(hg.block TB h.lt (by simpa using h.n1)).trans h.cell, h.ne, hm, fun k => by
    obtain ⟨a, b, e, h1, h2⟩ := ha k
    exact ⟨a, b, e, h1.two (b2 := b2) (Two.of1 hg) h.locks.nocells h.waits.nocells, h2.two (b2 := b2) (Two.of1 hg) h.locks.nocells h.waits.nocells⟩, h.waits.kept hg (by simpa using h.ne.symm), hs, h.rising⟩
theorem TabIs.turn2 (h : TabIs w TB b1 b2 T f) (hg : w.grownBy w' (some b2)) {hs : List Int} {W' : Int → Option (Ky × Int)} (hm : MapV numT w' b2 hs (fun t => (W' t).map holdV)) (hr : hs.Pairwise (· < ·)) : TabIs w' TB b1 b2 ⟨T.ks, T.F, hs, W'⟩ f :=
  ⟨(hg.block TB h.lt (by simpa using h.n2)).trans h.cell, h.ne, h.locks.kept hg (by simpa using h.ne), fun k => by
    obtain ⟨a, b, e, h1, h2⟩ := h.at_ k
    exact ⟨a, b, e, h1.two (b1 := b1) (Two.of2 hg) h.locks.nocells h.waits.nocells, h2.two (b1 := b1) (Two.of2 hg) h.locks.nocells h.waits.nocells⟩, hm, h.sorted, hr⟩
end
end Go.Proofs.Ytilknhackmccpaa

namespace Go.Proofs.Ytilknhackmccpaa
open Go.RowKit Go.Sort Go.Lib

/-- What has been met of a map's keys. -/
structure MetK (ks : List Ky) (left : Lit → Bool) (l : List Ky) : Prop where
  apart : l.Nodup
  there : ∀ k ∈ l, KyOk k ∧ k ∈ ks ∧ left (kyL k) = false
  all : ∀ k ∈ ks, left (kyL k) = false → k ∈ l
theorem metK_start {D : DataW Value} {f : Ky → Option Value} {ks : List Ky} (hok : ∀ k ∈ ks, KyOk k) (hks : ∀ k, k ∈ ks ↔ f k ≠ none) (ht : TellsV keyT D f) : MetK ks (Maps.has D) [] :=
  ⟨List.Pairwise.nil, fun _ h => by simp at h, fun k hk h => by
    cases e : f k with
    | none => exact absurd e ((hks k).1 hk)
    | some v => exact absurd (Maps.has_true_of_atKey (ht.some (hok k hk) e)) (by rw [show keyT.l k = kyL k from rfl, h]; simp)⟩
theorem MetK.step {ks : List Ky} {left : Lit → Bool} {l : List Ky} (hok : ∀ k ∈ ks, KyOk k) (M : MetK ks left l) {x : Ky} (hx : KyOk x) (hl : left (kyL x) = true) (hv : x ∈ ks) :
    MetK ks (fun z => left z && !z.sameKey (kyL x)) (l ++ [x]) := by
  have hne : ∀ a ∈ l, a ≠ x := fun a ha e => by
    have := (M.there a ha).2.2
    rw [e, hl] at this; cases this
  refine ⟨?_, fun a ha => ?_, fun k hk h => ?_⟩
  · rw [List.nodup_append]
    refine ⟨M.apart, by simp, fun a ha b hb => ?_⟩
    obtain rfl := List.mem_singleton.1 hb
    exact hne a ha
  · rcases List.mem_append.1 ha with ha | ha
    · obtain ⟨h1, h2, h3⟩ := M.there a ha
      exact ⟨h1, h2, by simp [h3]⟩
    · obtain rfl := List.mem_singleton.1 ha
      exact ⟨hx, hv, by simp [WideAt.sameKey_self (kyL_key a)]⟩
  · cases hkl : left (kyL k) with
    | false => simp [M.all k hk hkl]
    | true =>
      simp only [hkl, Bool.true_and, Bool.not_eq_false'] at h
      have := kyL_inj (hok k hk) hx (WideAt.sameKey_eq h)
      simp [this]
theorem KLt.trans {a b c : Ky} (h : KLt a b) (k : KLt b c) : KLt a c := by unfold KLt at *; omega
theorem KLt.irrefl (a : Ky) : ¬ KLt a a := by unfold KLt; omega
theorem KLt.total {a b : Ky} (h : ¬ KLt a b) (h' : ¬ KLt b a) : a = b := by
  obtain ⟨a1, a2, a3⟩ := a
  obtain ⟨c1, c2, c3⟩ := b
  unfold KLt at *
  simp only [Prod.mk.injEq] at *
  omega
/-- Two rising lists with the same members are one. -/
theorem one_list {α : Type} {R : α → α → Prop} (hirr : ∀ a, ¬ R a a) (htr : ∀ a b c, R a b → R b c → R a c) : ∀ {l m : List α}, l.Pairwise R → m.Pairwise R → (∀ x, x ∈ l ↔ x ∈ m) → l = m
  | [], [], _, _, _ => rfl
  | [], b :: m, _, _, h => absurd ((h b).2 (by simp)) (by simp)
  | a :: l, [], _, _, h => absurd ((h a).1 (by simp)) (by simp)
  | a :: l, b :: m, hl, hm, h => by
    obtain ⟨h1, h2⟩ := List.pairwise_cons.1 hl
    obtain ⟨h3, h4⟩ := List.pairwise_cons.1 hm
    have hab : a = b := by
      rcases List.mem_cons.1 ((h a).1 (by simp)) with e | e
      · exact e
      · rcases List.mem_cons.1 ((h b).2 (by simp)) with e' | e'
        · exact e'.symm
        · exact absurd (htr _ _ _ (h3 a e) (h1 b e')) (hirr b)
    subst hab
    congr 1
    refine one_list hirr htr h2 h4 fun x => ⟨fun hx => ?_, fun hx => ?_⟩
    · rcases List.mem_cons.1 ((h x).1 (by simp [hx])) with e | e
      · subst e; exact absurd (h1 x hx) (hirr x)
      · exact e
    · rcases List.mem_cons.1 ((h x).2 (by simp [hx])) with e | e
      · subst e; exact absurd (h3 x hx) (hirr x)
      · exact e
theorem sorted_ks {ks l : List Ky} (hk : ks.Pairwise KLt) (hs : SortedK l) (hn : l.Nodup) (hm : ∀ k, k ∈ l ↔ k ∈ ks) : l = ks := by
  refine one_list KLt.irrefl (fun _ _ _ => KLt.trans) ?_ hk hm
  rw [SortedK] at hs
  rw [List.Nodup] at hn
  have := hs.and hn
  refine this.imp fun {a b} h => ?_
  by_cases hab : KLt a b
  · exact hab
  · exact absurd (KLt.total hab h.1) h.2

/-- Block g is a row of N keys d. -/
def RK (w : World) (ty : TypeId) (g : Nat) (d : List Ky) : Prop := w.heap[g]? = some (.cells (kCells d).toArray ty (0, 0))
section
variable {w w' : World} {ty : TypeId} {g : Nat} {d : List Ky}
theorem kCells_length (l : List Ky) : (kCells l).length = l.length * 3 := ks_len l
theorem RK.lt (h : RK w ty g d) : g < w.heap.size := (Array.getElem?_eq_some_iff.1 h).1
theorem RK.cells (h : RK w ty g d) {i : Nat} {k : Ky} (hi : d[i]? = some k) : w.cell? ⟨g, i * 3, none⟩ = some (.int .u8 k.1) ∧ w.cell? ⟨g, i * 3 + 1, none⟩ = some (.int .u32 k.2.1) ∧ w.cell? ⟨g, i * 3 + 2, none⟩ = some (.int .u32 k.2.2) := by
  rw [cell_of_heap h, cell_of_heap h, cell_of_heap h, List.getElem?_toArray, List.getElem?_toArray, List.getElem?_toArray]
  have h0 := kCells_at i k 0 hi (by omega)
  have h1 := kCells_at i k 1 hi (by omega)
  have h2 := kCells_at i k 2 hi (by omega)
  rw [Nat.add_zero] at h0
  exact ⟨h0, h1, h2⟩
theorem RK.froz (h : RK w ty g d) (i : Nat) : w.frozen? ⟨g, i, none⟩ = false := by simp [World.frozen?, show w.heap[g]? = _ from h]
theorem kCells_set (d : List Ky) {i : Nat} (hi : i < d.length) (x : Ky) : kCells (d.set i x) = (((kCells d).set (i * 3) (.int .u8 x.1)).set (i * 3 + 1) (.int .u32 x.2.1)).set (i * 3 + 2) (.int .u32 x.2.2) := by
  apply List.ext_getElem?
  intro j
  by_cases hj : j < d.length * 3
  · obtain ⟨q, r, hr, rfl⟩ : ∃ q r, r < 3 ∧ j = q * 3 + r := ⟨j / 3, j % 3, by omega, by omega⟩
    have hq : q < d.length := by omega
    by_cases hqi : q = i
    · subst hqi
      rw [kCells_at q x r (by simp [hq]) hr]
      have hl := kCells_length d
      match r, hr with
      | 0, _ => rw [List.getElem?_set_ne (by omega), List.getElem?_set_ne (by omega), Nat.add_zero, List.getElem?_set_self (by omega)]; rfl
      | 1, _ => rw [List.getElem?_set_ne (by omega), List.getElem?_set_self (by rw [List.length_set]; omega)]; rfl
      | 2, _ => rw [List.getElem?_set_self (by rw [List.length_set, List.length_set]; omega)]; rfl
    · rw [List.getElem?_set_ne (by omega), List.getElem?_set_ne (by omega), List.getElem?_set_ne (by omega)]
      rw [kCells_at q d[q] r (by rw [List.getElem?_set_ne (Ne.symm hqi)]; exact List.getElem?_eq_getElem hq) hr, kCells_at q d[q] r (List.getElem?_eq_getElem hq) hr]
  · rw [List.getElem?_eq_none (by rw [kCells_length, List.length_set]; omega), List.getElem?_eq_none (by simp only [List.length_set]; rw [kCells_length]; omega)]
theorem RK.set (h : RK w ty g d) {i : Nat} (hi : i < d.length) (x : Ky) : RK (((w.setCell ⟨g, i * 3, none⟩ (.int .u8 x.1)).setCell ⟨g, i * 3 + 1, none⟩ (.int .u32 x.2.1)).setCell ⟨g, i * 3 + 2, none⟩ (.int .u32 x.2.2)) ty g (d.set i x) := by
  unfold RK
  rw [kCells_set d hi]
  simp [World.setCell, Array.getElem?_modify, show w.heap[g]? = _ from h]
theorem RK.kept {row : Option Nat} (h : RK w ty g d) (hg : w.grownBy w' row) (hne : some g ≠ row) : RK w' ty g d := (hg.block g h.lt hne).trans h
end
/-- The keys, to be read. -/
def KeysAt (w : World) (a : Option Addr) (ks : List Ky) : Prop := ks ≠ [] → ∃ eb, a = some ⟨eb, 0, none⟩ ∧ eb < w.heap.size ∧ ∀ i k, ks[i]? = some k → w.cell? ⟨eb, i * 3, none⟩ = some (.int .u8 k.1) ∧ w.cell? ⟨eb, i * 3 + 1, none⟩ = some (.int .u32 k.2.1) ∧ w.cell? ⟨eb, i * 3 + 2, none⟩ = some (.int .u32 k.2.2)
theorem KeysAt.below {w w' : World} {a : Option Addr} {ks : List Ky} {B : Nat} (h : KeysAt w a ks) (hb : RowKit.Below B w w') (hB : w.heap.size ≤ B) : KeysAt w' a ks := fun hne => by
  obtain ⟨eb, h1, h2, h3⟩ := h hne
  have hlt : eb < B := Nat.lt_of_lt_of_le h2 hB
  exact ⟨eb, h1, Nat.lt_of_lt_of_le h2 hb.size, fun i k hi => by
    obtain ⟨c0, c1, c2⟩ := h3 i k hi
    exact ⟨(hb.cell (p := ⟨eb, i * 3, none⟩) hlt).trans c0, (hb.cell (p := ⟨eb, i * 3 + 1, none⟩) hlt).trans c1, (hb.cell (p := ⟨eb, i * 3 + 2, none⟩) hlt).trans c2⟩⟩
theorem iter_ne_row {H : Type} {P : Program} {k : TypeId} {R : Value → Option (DataW H × List MemPlace)} {w : World} {b r n : Nat} {D : DataW H} {left : Lit → Bool} {cnt base : Nat} {e : TypeId} {size : Nat} {v : Value} {m : Nat} {xs : List Value}
    (h : w.ownsRow base e size v m xs) (hr : w.ranges P k R b r n D left cnt) : v.ownBlock ≠ some r := by
  obtain ⟨_, _, _, _, _, _, _, _, _, hit, _⟩ := hr
  intro e1
  rcases h.2 with ⟨rfl, _⟩ | ⟨g, cap, cur, rfl, _, hb, _⟩
  · simp [Value.ownBlock] at e1
  · simp [Value.ownBlock] at e1
    subst e1
    rw [hit] at hb
    cases hb
theorem row_ge {w : World} {base : Nat} {e : TypeId} {size : Nat} {v : Value} {m : Nat} {xs : List Value} (h : w.ownsRow base e size v m xs) : ∀ g, v.ownBlock = some g → base ≤ g ∧ g < w.heap.size := by
  intro g hg
  rcases h.2 with ⟨rfl, _⟩ | ⟨g', cap, cur, rfl, hb, hh, _⟩
  · cases hg
  · obtain rfl : g' = g := Option.some.inj hg
    exact ⟨hb, (Array.getElem?_eq_some_iff.1 hh).1⟩
theorem row_cells {w : World} {base : Nat} {e : TypeId} {a : Option Addr} {m c : Nat} {l : List Ky} (h : w.ownsRow base e 3 (.slice a m c) m (kCells l)) {i : Nat} {k : Ky} (hi : l[i]? = some k) :
    ∃ g, a = some ⟨g, 0, none⟩ ∧ g < w.heap.size ∧ w.cell? ⟨g, i * 3, none⟩ = some (.int .u8 k.1) ∧ w.cell? ⟨g, i * 3 + 1, none⟩ = some (.int .u32 k.2.1) ∧ w.cell? ⟨g, i * 3 + 2, none⟩ = some (.int .u32 k.2.2) := by
  have hl := h.1
  have him := (List.getElem?_eq_some_iff.1 hi).1
  rw [kCells_length] at hl
  rcases h.2 with ⟨e1, h0⟩ | ⟨g, cap, cur, e1, hb, hh, h1, h2, h3, h4⟩
  · omega
  · cases e1
    have hc : ∀ r, r < 3 → w.cell? ⟨g, i * 3 + r, none⟩ = (kRow k)[r]? := fun r hr => by
      rw [cell_of_heap hh, ← Array.getElem?_toList, ← kCells_at i k r hi hr, ← h4, List.getElem?_take_of_lt (by omega)]
    have h0 := hc 0 (by omega)
    rw [Nat.add_zero] at h0
    exact ⟨g, rfl, (Array.getElem?_eq_some_iff.1 hh).1, h0, hc 1 (by omega), hc 2 (by omega)⟩
theorem row_shape {w : World} {base : Nat} {e : TypeId} {size : Nat} {v : Value} {m : Nat} {xs : List Value} (h : w.ownsRow base e size v m xs) : ∃ a c, v = .slice a m c := by
  rcases h.2 with ⟨rfl, h0⟩ | ⟨g', cap, cur, rfl, _⟩
  · exact ⟨none, 0, by rw [h0]⟩
  · exact ⟨_, _, rfl⟩
theorem infoKey : (Try.prog.info? 112).map (fun i => (i.zero, i.size, i.bytes)) = some (some (.agg #[.int .u8 0, .int .u32 0, .int .u32 0]), 3, 12) := by kernel_rfl
theorem infoApi : (Try.prog.info? 38).map (fun i => (i.zero, i.size, i.bytes)) = some (some (.agg #[.int .u8 0, .int .u32 0, .int .u32 0]), 3, 12) := by kernel_rfl
theorem kCells_replicate (n : Nat) : kCells (List.replicate n (0, 0, 0)) = (madeCells (Value.agg #[.int .u8 0, .int .u32 0, .int .u32 0]).cells (n * 3)).toList := by
  apply List.ext_getElem?
  intro j
  by_cases hj : j < n * 3
  · obtain ⟨q, r, hr, rfl⟩ : ∃ q r, r < 3 ∧ j = q * 3 + r := ⟨j / 3, j % 3, by omega, by omega⟩
    have hm : (q * 3 + r) % 3 = r := by omega
    have e : (madeCells (Value.agg #[.int .u8 0, .int .u32 0, .int .u32 0]).cells (n * 3)).toList[q * 3 + r]? = some (#[Value.int .u8 0, .int .u32 0, .int .u32 0][r]!) := by
      simp [madeCells, Value.cells, hj, hm]
    have hq : (List.replicate n ((0, 0, 0) : Ky))[q]? = some (0, 0, 0) := by rw [List.getElem?_replicate, if_pos (by omega)]
    rw [kCells_at q (0, 0, 0) r hq hr, e]
    match r, hr with
    | 0, _ => rfl
    | 1, _ => rfl
    | 2, _ => rfl
  · rw [List.getElem?_eq_none (by rw [kCells_length, List.length_replicate]; omega), List.getElem?_eq_none (by rw [Array.length_toList, size_madeCells]; omega)]
theorem rk_made {w : World} {base g n : Nat} (h : w.ownsRow base 38 3 (.slice (some ⟨g, 0, none⟩) n n) n (madeCells (Value.agg #[.int .u8 0, .int .u32 0, .int .u32 0]).cells (n * 3)).toList) : RK w 38 g (List.replicate n (0, 0, 0)) := by
  rcases h.2 with ⟨h0, _⟩ | ⟨g', cap, cur, e, hb, hh, h1, h2, h3, h4⟩
  · cases h0
  · obtain ⟨rfl, rfl⟩ : g = g' ∧ n = cap := by simpa using e
    rw [RK, kCells_replicate, ← h4, List.take_of_length_le (by rw [Array.length_toList]; omega)]
    simpa using hh

set_option maxRecDepth 100000 in
set_option maxHeartbeats 4000000 in
theorem keys_u {w : World} {TB b1 b2 : Nat} {T : Tb} {f : Ky → Option Value} (S : TabIs w TB b1 b2 T f) (hn : T.ks.length ≤ 1000000) :
    Calls Try.prog 48 #[.pointer (some ⟨TB, 0, none⟩)] w fun e w' => ∃ a cap, e = .returned (.slice a T.ks.length cap) ∧ KeysAt w' a T.ks ∧ RowKit.Below w.heap.size w w' := by
  obtain ⟨⟨D, n, hown, ht, hnk⟩, hks, hok⟩ := S.locks
  have c0 := S.c0
  have lA := S.lt
  have hsrt := Lib.hid S.sorted
  have hnk2 : n ≤ 1000000 := by omega
  have M0 := Lib.hid (metK_start hok hks ht)
  have hK := Lib.hid hok
  have hcnt := hown.size_le
  have hb := hown.lt
  have hfk : Hid (∀ k v, KyOk k → (∀ z, D.atKey (kyL k) z = .held v) → k ∈ T.ks) := Lib.hid fun k v hk hat => (hks k).2 fun e => by
    have h1 := ht.none (k := k) hk e
    rw [Maps.has_true_of_atKey (k := keyT.l k) hat] at h1
    cases h1
  obtain ⟨ks, hkse⟩ : ∃ ks, T.ks = ks := ⟨_, rfl⟩
  rw [hkse] at M0 hK hsrt hnk hn hfk ⊢
  obtain ⟨ik, hik, ky0, ky1, ky2⟩ := info_parts infoKey
  obtain ⟨ia, hia, ay0, ay1, ay2⟩ := info_parts infoApi
  clear ht hok hks S
  go_enter Try.func48, Try.ntmps48
  go_wp2_with (first | (at_range; refine wpList_range_own _ rfl _ 72 rfl 38 80 keyLaw Try.underlying72 _ b1 n D rfl hown ?_; intro w0 hrg0 hg0 hs0))
  go_frame
  obtain ⟨R, hR⟩ : ∃ R, R = w.heap.size := ⟨_, rfl⟩
  have B0 : RowKit.Below R w w0 := ⟨hg0.os, hg0.tape, hg0.output, hg0.size, fun i hi => hg0.block i (by omega) (by simp)⟩
  rw [← hR] at hrg0 hs0 hb ⊢
  clear hg0 hown c0 lA
  have l0 : R < w0.heap.size := by omega
  replace hR := Lib.hid hR
  go_loopw [3] (fun u wr => ∃ (left : Lit → Bool) (cnt : Nat) (l : List Ky), wr.ranges Try.prog 38 rawR b1 R n D left cnt ∧ Hid (MetK ks left l) ∧ l.length + cnt ≤ n ∧ Hid (wr.ownsRow R 112 3 u l.length (kCells l)) ∧ Hid (RowKit.Below R w wr)) (fun _ wr => wr.rangeLeft b1 R)
  case atStart => exact ⟨_, _, [], hrg0, M0, by simpa using hcnt, Lib.hid ⟨rfl, .inl ⟨rfl, rfl⟩⟩, Lib.hid B0⟩
  case round =>
    clear hrg0 hs0 B0 l0 hcnt M0
    obtain ⟨left, cnt, l, hrg, M, hlc, O, B⟩ := hrel
    obtain ⟨a8, c8, rfl⟩ := row_shape O.out
    go_wp2_with (first
      | (at_next; refine wpList_next_ranges _ rfl _ rfl 38 keyLaw rawR (fun x : Ky => .agg #[.int .u8 x.1, .int .u32 x.2.1, .int .u32 x.2.2]) (fun c : Value => c)
          (fun key kl h => by obtain ⟨k, _, rfl, _⟩ := key_inv h; exact ⟨k, rfl⟩) (fun v y h => ⟨v, rfl⟩) b1 R n D left cnt rfl hrg ?_ ?_))
    · intro _ hl0
      have hso := sort_k l R (.slice a8 l.length c8) wr O.out (by omega)
      have hll : l.length ≤ 1000000 := by omega
      go_upto_region 6 with fail
      go_wp2_with (first
        | (go_at_call 69; refine hso.mono ?_; rintro e w2 ⟨rfl, l', hp, hs, ho, hg⟩)
        | (refine wpList_make_full _ (by rfl) _ _ _ (by rfl) R 38 ia _ 3 Try.underlying84 hia ay0 ay1 .i64 .i64 _ _ l.length (by rfl) (by rfl) rfl rfl (by rw [ay2]; omega) (by unfold maxLen; omega) (by have := hg.size; have := B.out.size; have := hR.out; omega) ?_; intro w3 ho3 hg3))
      have hlk : l' = ks := sorted_ks hsrt.out hs (hp.nodup_iff.2 M.out.apart) (fun k => by
        rw [hp.mem_iff]
        exact ⟨fun hk => (M.out.there k hk).2.1, fun hk => M.out.all k hk (hl0 _)⟩)
      have hlen := hp.length_eq
      subst hlk
      rw [← hlen] at ho ho3 ⊢
      have hK3 := rk_made ho3
      have B2 : RowKit.Below R w w2 := B.out.trans (below_of_grown hg (fun j hj => (row_ge O.out j hj).1) (by have := hR.out; have := B.out.size; omega))
      have B3 : RowKit.Below R w w3 := B2.trans (below_of_grown hg3 (by simp) (by have := hR.out; have := B2.size; omega))
      obtain ⟨m, hn'⟩ : ∃ m, l'.length = m := ⟨_, rfl⟩
      rw [hn'] at ho ho3 hK3 hn ⊢
      have oK := ho.kept hg3 (Classical.em _)
      have hge := row_ge ho
      obtain ⟨G, hG⟩ : ∃ G, w2.heap.size = G := ⟨_, rfl⟩
      rw [hG] at hK3 hge ⊢
      have hRG : R ≤ G := by rw [← hG]; have := B2.size; have := hR.out; omega
      clear hl0 hso hp hs ho ho3 hg hg3 B2 M O B hrg hlc hfk hK hsrt hnk hnk2 hll hlen hik ky0 ky1 ky2 hia ay0 ay1 ay2
      have hK0 := Lib.hid hK3
      have hBB := Lib.hid B3
      have oK0 := Lib.hid oK
      have hm0 : Hid ((List.replicate m ((0, 0, 0) : Ky)).length = m ∧ (List.replicate m ((0, 0, 0) : Ky)).take 0 = l'.take 0) := Lib.hid ⟨by simp, by simp⟩
      have hgG : Hid (Value.ownBlock (.slice a8 m c8) ≠ some G) := Lib.hid fun e => by have := (hge G e).2; omega
      clear hK3 B3 oK hG hge
      try go_frame
      go_loopw [28] (fun v28 wz => ∃ (i : Nat) (d : List Ky), v28 = .int .i64 i ∧ i ≤ m ∧ Hid (d.length = m ∧ d.take i = l'.take i) ∧ Hid (RK wz 38 G d) ∧ Hid (Value.ownBlock (.slice a8 m c8) ≠ some G) ∧ Hid (wz.ownsRow R 112 3 (.slice a8 m c8) m (kCells l')) ∧ Hid (RowKit.Below R w wz)) (fun v28 _ => m - (intOf v28).toNat)
      case atStart => exact ⟨0, _, rfl, Nat.zero_le _, hm0, hK0, hgG, oK0, hBB⟩
      case round =>
        clear hm0 hK0 oK0 hBB
        obtain ⟨i, d, rfl, hi, hd, hK, hgG', oK, hB⟩ := hrel
        by_cases him : i < m
        · have hil : i < l'.length := by omega
          obtain ⟨k, hk⟩ : ∃ k, l'[i]? = some k := ⟨_, List.getElem?_eq_getElem hil⟩
          obtain ⟨g, rfl, hg, c0, c1, c2⟩ := row_cells oK.out hk
          have hgG2 : g ≠ G := fun e => hgG'.out (by rw [e]; rfl)
          have hid : i < d.length := by have := hd.out.1; omega
          obtain ⟨o, ho⟩ : ∃ o, d[i]? = some o := ⟨_, List.getElem?_eq_getElem hid⟩
          have hii : (i : Int) < (m : Int) := by omega
          obtain ⟨k1, k2, k3⟩ := k
          simp only at c0 c1 c2
          have lG := hK.out.lt
          have hK2 : RK (wr.alloc (.cells #[.int .u8 k1, .int .u32 k2, .int .u32 k3] 112)) 38 G d := hK.out.kept (World.grownBy_alloc wr _ none) (by simp)
          have hB2 : RowKit.Below R w (wr.alloc (.cells #[.int .u8 k1, .int .u32 k2, .int .u32 k3] 112)) := hB.out.alloc (by omega) _
          have oK2 := oK.out.alloc (.cells #[.int .u8 k1, .int .u32 k2, .int .u32 k3] 112)
          have hx2 : Hid ((d.set i (k1, k2, k3)).length = m ∧ (d.set i (k1, k2, k3)).take (i + 1) = l'.take (i + 1)) := Lib.hid ⟨by rw [List.length_set]; exact hd.out.1, by
            rw [List.take_succ_eq_append_getElem (by rw [List.length_set]; exact hid), List.take_set_of_le (Nat.le_refl _), hd.out.2, List.take_succ_eq_append_getElem hil]
            have := (List.getElem?_eq_some_iff.1 hk).2
            simp [this]⟩
          have nb := heap_alloc_new wr (.cells #[.int .u8 k1, .int .u32 k2, .int .u32 k3] 112)
          replace hd := Lib.hid hd
          go_upto_region 11 with fail
          obtain ⟨KB, hKB⟩ : ∃ x, x = wr.heap.size := ⟨_, rfl⟩
          obtain ⟨w4, hw4⟩ : ∃ x, x = wr.alloc (.cells #[.int .u8 k1, .int .u32 k2, .int .u32 k3] 112) := ⟨_, rfl⟩
          rw [← hw4] at hK2 hB2 oK2 nb ⊢
          rw [← hKB] at nb ⊢
          have hGK : G ≠ KB := by omega
          obtain ⟨b0, b1', b2'⟩ := three_cells nb
          obtain ⟨o0, o1, o2⟩ := hK2.cells ho
          have z0 := hK2.froz (i * 3)
          have z1 := hK2.froz (i * 3 + 1)
          have z2 := hK2.froz (i * 3 + 2)
          have hS := Lib.hid (hK2.set hid (k1, k2, k3))
          have hG4 : w4.grownBy (((w4.setCell ⟨G, i * 3, none⟩ (.int .u8 k1)).setCell ⟨G, i * 3 + 1, none⟩ (.int .u32 k2)).setCell ⟨G, i * 3 + 2, none⟩ (.int .u32 k3)) (some G) := ((grown_set w4 G (i * 3) _).trans (grown_set _ G (i * 3 + 1) _)).trans (grown_set _ G (i * 3 + 2) _)
          have oS := Lib.hid (oK2.kept hG4 (.inr hgG'.out))
          have bS := Lib.hid (hB2.trans (below_of_grown hG4 (by intro j hj; cases hj; exact hRG) (by have := hR.out; have := hB2.size; omega)))
          have lK4 : G < w4.heap.size := hK2.lt
          replace hG4 := Lib.hid hG4
          replace hK2 := Lib.hid hK2
          replace nb := Lib.hid nb
          clear hw4 hKB hB2 oK2 hK hB oK c0 c1 c2 hk ho
          go_wp2
          go_roundw
          case rel => exact ⟨i + 1, d.set i (k1, k2, k3), by go_num, by omega, hx2, hS, hgG', oS, bS⟩
          case measure => simp [intOf]; omega
        · obtain rfl : i = m := by omega
          obtain rfl : d = l' := by
            have := hd.out.2
            rwa [List.take_of_length_le (by rw [hd.out.1]; exact Nat.le_refl _), List.take_of_length_le (by rw [hn']; exact Nat.le_refl _)] at this
          go_wp2
          go_ret
          exact ⟨_, ⟨_, rfl⟩, fun _ => ⟨G, rfl, hK.out.lt, fun j k hj => hK.out.cells hj⟩, hR.out ▸ hB.out⟩
    · intro x1 x2 x3 c kl yd yp w1 cnt1 hkey hlk hv hat hrg1 hlt hg1 hs1 hen
      obtain ⟨x', hx, ex, rfl⟩ := key_inv hkey
      obtain rfl : (x1, x2, x3) = x' := kyV_inj ex
      have hyd : yd = .held c := by have := congrArg (fun o => o.map (·.1)) hv; simpa [rawR] using this.symm
      have hin : (x1, x2, x3) ∈ ks := hfk.out _ c hx (fun z => (hat z).trans hyd)
      have M1 := Lib.hid (M.out.step hK.out hx hlk hin)
      have B1 : RowKit.Below R w w1 := B.out.trans (below_of_grown hg1 (fun j hj => by cases hj; exact Nat.le_refl _) (by have := hR.out; have := B.out.size; omega))
      have O1 := O.out.kept hg1 (.inr (iter_ne_row O.out hrg))
      have hcnt1 : cnt1 + 1 ≤ cnt := hlt
      have e1 := hrg.left_eq
      clear hkey hlk hv hat hs1 hg1 ex M O B hyd hin hx
      have hnb : some b1 ≠ (Value.slice a8 l.length c8).ownBlock := fun e => by have := (row_ge O1 b1 e.symm).1; omega
      have hnr := iter_ne_row O1 hrg1
      have lR1 := hrg1.lt
      go_upto_region 5 with fail
      have hrg2 := hrg1.alloc (.cells #[.int .u8 x1, .int .u32 x2, .int .u32 x3] 38)
      have O2 := O1.alloc (.cells #[.int .u8 x1, .int .u32 x2, .int .u32 x3] 38)
      have B2 := B1.alloc (by omega) (.cells #[.int .u8 x1, .int .u32 x2, .int .u32 x3] 38)
      have kb := heap_alloc_new w1 (.cells #[.int .u8 x1, .int .u32 x2, .int .u32 x3] 38)
      obtain ⟨KB, hKB⟩ : ∃ x, x = w1.heap.size := ⟨_, rfl⟩
      obtain ⟨w2, hw2⟩ : ∃ x, x = w1.alloc (.cells #[.int .u8 x1, .int .u32 x2, .int .u32 x3] 38) := ⟨_, rfl⟩
      rw [← hw2] at hrg2 O2 B2 kb ⊢
      rw [← hKB] at kb ⊢
      clear hw2 hKB hrg1 O1 B1 hen
      obtain ⟨k0, k1, k2⟩ := three_cells kb
      have lK : KB < w2.heap.size := (Array.getElem?_eq_some_iff.1 kb).1
      have hnewc := Lib.hid (heap_alloc_new w2 (.cells #[.int .u8 x1, .int .u32 x2, .int .u32 x3] 112))
      have lR2 := hrg2.lt
      replace kb := Lib.hid kb
      go_wp2_with (first
        | (refine wpList_append_lies _ (by rfl) _ _ _ (by rfl) R 112 ik _ 3 12 Try.underlying111 hik ky0 ky1 ky2 rfl (by omega) (.slice a8 l.length c8) l.length (kCells l) (by rfl) (O2.alloc _)
                ⟨w2.heap.size, 0, none⟩ 1 1 (kRow (x1, x2, x3)) (by rfl) (by rfl) (World.news_of_block hnewc.out) (by simp [Value.oneCell', kRow])
                (by omega) (by unfold maxLen; omega) (by omega) (by simp; omega) (w2.heap.size + 1) (by simp) ?_
           intro gg gcap w4 hown hgrow hat hltg))
      have hrg4 := (hrg2.alloc (.cells #[.int .u8 x1, .int .u32 x2, .int .u32 x3] 112)).kept hgrow hnb (fun e => hnr e.symm)
      have B4 : RowKit.Below R w w4 := B2.trans ((below_alloc w2 (.cells #[.int .u8 x1, .int .u32 x2, .int .u32 x3] 112) |>.mono (Nat.le_of_lt lR2)).trans (below_of_grown hgrow (fun j hj => (row_ge O2 j hj).1) (by simp; omega)))
      go_roundw
      case rel => exact ⟨_, cnt1, l ++ [(x1, x2, x3)], hrg4, M1, by (simp; omega), Lib.hid (by rw [kCells_snoc, List.length_append]; exact hown), Lib.hid B4⟩
      case measure => rw [hrg4.left_eq, e1]; omega
end Go.Proofs.Ytilknhackmccpaa
