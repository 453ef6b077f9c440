/- Cycle's inner walk: does a way lead back? (the closure that calls itself). -/
import Derived.Test.YtilknhackmccpaaKntB
set_option linter.unusedVariables false
set_option linter.unusedSimpArgs false
namespace Go.Proofs.Ytilknhackmccpaa
open Go.RowKit Go.Sort Go.Maps Go.ChangeMaps Go.MapKept Go.ChangeShapes

/-- From n one comes tg 'tg' by others than those of S. -/
inductive Rch (f : Int → List Int) (tg : Int) (S : List Int) : Int → Prop
  | here {n : Int} : tg ∈ f n → Rch f tg S n
  | step {n m : Int} : m ∈ f n → m ∉ S → Rch f tg S m → Rch f tg S n
theorem Rch.mono {f : Int → List Int} {tg : Int} {S T : List Int} (hs : ∀ x, x ∈ S → x ∈ T) {n : Int} (h : Rch f tg T n) : Rch f tg S n := by
  induction h with
  | here h => exact .here h
  | step h1 h2 _ ih => exact .step h1 (fun h => h2 (hs _ h)) ih
/-- All that were seen since S lead on tg seen ones alone, and not tg 'tg'. -/
def Shut (f : Int → List Int) (tg : Int) (S T : List Int) : Prop := ∀ y ∈ T, y ∈ S ∨ (tg ∉ f y ∧ ∀ z ∈ f y, z ∈ T)
theorem Shut.not {f : Int → List Int} {tg : Int} {S T : List Int} (h : Shut f tg S T) {n : Int} (h1 : tg ∉ f n) (h2 : ∀ z ∈ f n, z ∈ T) : ¬ Rch f tg S n := by
  intro hr
  induction hr with
  | here h => exact h1 h
  | step a b _ ih =>
    rcases h _ (h2 _ a) with h | ⟨h3, h4⟩
    · exact b h
    · exact ih h3 h4

/-- How many of V are not in S. -/
def unseen (V S : List Int) : Nat := (V.filter fun x => !decide (x ∈ S)).length
theorem unseen_mono {V S T : List Int} (h : ∀ x, x ∈ S → x ∈ T) : unseen V T ≤ unseen V S := by
  unfold unseen
  induction V with
  | nil => simp
  | cons x r ih =>
    simp only [List.filter_cons]
    by_cases hx : x ∈ S
    · simp [hx, h x hx]; exact ih
    · by_cases hy : x ∈ T
      · simp [hx, hy]; omega
      · simp [hx, hy]; exact ih
theorem unseen_lt {V S : List Int} {m : Int} (h1 : m ∈ V) (h2 : m ∉ S) : unseen V (m :: S) + 1 ≤ unseen V S := by
  unfold unseen
  induction V with
  | nil => simp at h1
  | cons x r ih =>
    have hm : (r.filter fun x => !decide (x ∈ m :: S)).length ≤ (r.filter fun x => !decide (x ∈ S)).length := unseen_mono (V := r) (S := S) (T := m :: S) (fun x hx => by simp [hx])
    simp only [List.filter_cons]
    by_cases hxm : x = m
    · subst hxm
      simp [h2]
      simpa using hm
    · have h1' : m ∈ r := by
        rcases List.mem_cons.1 h1 with e | e
        · exact absurd e.symm hxm
        · exact e
      have := ih h1'
      by_cases hx : x ∈ S
      · simp [hx]; simpa using this
      · simp [hx, hxm]; simpa using this

/-- Block S is the map 'seen', and marks just those of the list. -/
def Seen (w : World) (S k : Nat) (T : List Int) : Prop :=
  ∃ D : DataW Unit, w.ownsMap Try.prog 23 (plainElem Try.prog 3) S k D ∧ ∀ x, D.atKey (.int .u32 x) (.lit (.int .i64 0)) = .lit (.int .i64 (if x ∈ T then 1 else 0))
section
variable {w w' : World} {S k : Nat} {T : List Int}
theorem Seen.kept {row : Option Nat} (h : Seen w S k T) (hg : w.grownBy w' row) (hne : some S ≠ row) : Seen w' S k T := by
  obtain ⟨D, h1, h2⟩ := h
  exact ⟨D, h1.kept hg hne, h2⟩
theorem Seen.lt (h : Seen w S k T) : S < w.heap.size := by
  obtain ⟨D, h1, _⟩ := h
  exact h1.lt
theorem Seen.map (h : Seen w S k T) : ∃ es clock, w.heap[S]? = some (.map es clock) := by
  obtain ⟨D, ⟨es, clock, h1, _⟩, _⟩ := h
  exact ⟨es, clock, h1⟩
theorem Seen.look (h : Seen w S k T) {x : Int} (hx : U x) : (Instr.lookup 66 (.map (some S)) (.int .u32 x) false).run Try.prog w = .ok (.int .i64 (if x ∈ T then 1 else 0)) w := by
  obtain ⟨D, h1, h2⟩ := h
  obtain ⟨c, r1, r2, _⟩ := h1.lookup_int law_u Try.underlying66 Try.underlying3 (zero_int w) hx.key
  rw [h2 x] at r2
  simp only [DataW.lit.injEq, Lit.int.injEq, true_and] at r2
  rw [r1, r2]
theorem Seen.mark (h : Seen w S k T) (hk : k < maxLen) {x : Int} (hx : U x) : ∃ w', (Instr.mapUpdate 66 (.map (some S)) (.int .u32 x) (.int .i64 1)).run Try.prog w = .ok () w' ∧ Seen w' S (k + 1) (x :: T) ∧ w.grownBy w' (some S) := by
  obtain ⟨D, h1, h2⟩ := h
  obtain ⟨w', r1, r2, r3⟩ := h1.update law_u Try.underlying66 hk hx.key (plainElem_int Try.underlying3 (by decide) : plainElem (H := Unit) Try.prog 3 (.int .i64 1) = _)
  refine ⟨w', r1, ⟨_, r2, fun y => ?_⟩, r3⟩
  by_cases hy : y = x
  · subst hy
    rw [atKey_put_same h1.isMap (by trivial)]
    simp
  · rw [atKey_put_other (by simpa using hy), h2 y]
    simp [hy]
theorem Seen.made (w : World) : Seen (w.alloc (.map #[] 0)) w.heap.size 0 [] :=
  ⟨_, World.ownsMap_made _ _ _ _, fun x => by simp; rfl⟩
end

/-- A slice of the call's own, its head and its cells. -/
theorem own_form {w : World} {base : Nat} {v : Value} {zs : List Int} (h : w.ownsInts base 23 .u32 v zs) :
    ∃ a cap, v = .slice a zs.length cap ∧ ∀ i, i < zs.length → ∃ g, a = some ⟨g, 0, none⟩ ∧ base ≤ g ∧ g < w.heap.size ∧ (∃ cs ty fr, w.heap[g]? = some (.cells cs ty fr)) ∧ w.cell? ⟨g, i, none⟩ = some (.int .u32 (zs.getD i 0)) := by
  rcases own_cases h with ⟨rfl, rfl⟩ | ⟨g, cap, rfl, hb, hn, hc, hR⟩
  · exact ⟨none, 0, rfl, fun i hi => by simp at hi⟩
  · refine ⟨_, cap, rfl, fun i hi => ⟨g, rfl, hb, hR.lt, ?_, ?_⟩⟩
    · obtain ⟨cur, h1, _⟩ := hR
      exact ⟨_, _, _, h1⟩
    · rw [hR.cell (by simpa using hi), getElem!_pos zs.toArray i (by simpa using hi)]
      simp [List.getD_eq_getElem?_getD, List.getElem?_eq_getElem hi]

/-- What the closures of Cycle have captured: the number, the map, the function itself. -/
structure Knot (w : World) (f : Int → List Int) (tg : Int) (B3 B5 B6 B7 M : Nat) : Prop where
  c3 : w.cell? ⟨B3, 0, none⟩ = some (.int .u32 tg)
  c5 : w.cell? ⟨B5, 0, none⟩ = some (.map (some M))
  c7 : w.cell? ⟨B7, 0, none⟩ = some (.func (.func 36) #[] #[.pointer (some ⟨B5, 0, none⟩), .pointer (some ⟨B3, 0, none⟩), .pointer (some ⟨B6, 0, none⟩), .pointer (some ⟨B7, 0, none⟩)])
  own : ∃ m D, w.ownsGroups Try.prog 23 (M + 1) 23 .u32 M m D ∧ m < 4294967296 ∧ Reads D f
  off : w.Shuns M (fun g => B5 ≤ g)
  lt3 : B3 < B5
  ltM : M < B5
  lt5 : B5 < B7
  lt7 : B7 < w.heap.size
theorem cell_block {w : World} {B i : Nat} {v : Value} (h : w.cell? ⟨B, i, none⟩ = some v) : ∃ cs ty fr, w.heap[B]? = some (.cells cs ty fr) := by
  unfold World.cell? at h
  simp at h
  split at h
  · rename_i cs ty fr hh
    exact ⟨cs, ty, fr, hh⟩
  · cases h
theorem Knot.kept {w w' : World} {f : Int → List Int} {tg : Int} {B3 B5 B6 B7 M : Nat} {row : Option Nat} (h : Knot w f tg B3 B5 B6 B7 M) (hg : w.grownBy w' row) (hS : ∀ R, row = some R → B5 < R ∧ R ≠ B7) : Knot w' f tg B3 B5 B6 B7 M := by
  have l7 := h.lt7
  have l5 := h.lt5
  have l3 := h.lt3
  have lM := h.ltM
  have hne : ∀ B, B ≤ B5 ∨ B = B7 → some B ≠ row := fun B hB e => by
    have := hS B e.symm
    omega
  have far : ∀ B v, B ≤ B5 ∨ B = B7 → w.cell? ⟨B, 0, none⟩ = some v → w'.cell? ⟨B, 0, none⟩ = some v := fun B v hB hv =>
    (hg.cell_far ⟨B, 0, none⟩ (by show B < _; omega) (hne B hB)).trans hv
  obtain ⟨m, D, h1, h2, h3⟩ := h.own
  exact ⟨far _ _ (by omega) h.c3, far _ _ (by omega) h.c5, far _ _ (by omega) h.c7, ⟨m, D, h1.kept hg (hne M (by omega)) (h.off.rowsOff fun j hj => by have := (hS j hj).1; omega), h2, h3⟩,
    h.off.kept hg (by omega) (hne M (by omega)), l3, lM, l5, Nat.lt_of_lt_of_le l7 hg.size⟩
end Go.Proofs.Ytilknhackmccpaa
