/- The law KnotNone: who is reached from there; its walk. -/
import Derived.Test.YtilknhackmccpaaKntM
set_option linter.unusedVariables false
set_option linter.unusedSimpArgs false
namespace Go.Proofs.Ytilknhackmccpaa
open Go.RowKit Go.Sort Go.Maps Go.ChangeMaps Go.MapKept Go.ChangeShapes

/-- x is reached from tg. -/
inductive Fwd (f : Int → List Int) (tg : Int) : Int → Prop
  | here : Fwd f tg tg
  | step {x z : Int} : Fwd f tg x → z ∈ f x → Fwd f tg z
theorem Fwd.rch {f : Int → List Int} {tg x : Int} (h : Fwd f tg x) (hx : Rch f tg [] x) : Rch f tg [] tg := by
  induction h with
  | here => exact hx
  | step _ hz ih => exact ih (.step hz (by simp) hx)
/-- All that are reached are in s. -/
theorem fwd_all {f : Int → List Int} {tg : Int} {s : List Int} (h0 : tg ∈ s) (hc : ∀ x ∈ s, ∀ z ∈ f x, z ∈ s) {x : Int} (h : Fwd f tg x) : x ∈ s := by
  induction h with
  | here => exact h0
  | step _ hz ih => exact hc _ ih _ hz
theorem rch_fwd {f : Int → List Int} {tg n : Int} (h : Rch f tg [] n) (hn : Fwd f tg n) : ∃ x, Fwd f tg x ∧ tg ∈ f x := by
  induction h with
  | @here n h => exact ⟨n, hn, h⟩
  | step h1 _ _ ih => exact ih (.step hn h1)
/-- What is seen so far: all of the first i are done. -/
structure Far (f : Int → List Int) (tg : Int) (s : List Int) (i : Nat) (bk : Bool) : Prop where
  fwd : ∀ x ∈ s, Fwd f tg x
  head : s[0]? = some tg
  shut : ∀ j z, j < i → z ∈ f (s.getD j 0) → z ∈ s
  back : bk = true ↔ ∃ j, j < i ∧ tg ∈ f (s.getD j 0)
theorem Far.end {f : Int → List Int} {tg : Int} {s : List Int} {bk : Bool} (h : Far f tg s s.length bk) : bk = true ↔ Rch f tg [] tg := by
  have hmem : ∀ x ∈ s, ∃ j, j < s.length ∧ s.getD j 0 = x := fun x hx => by
    obtain ⟨j, hj, e⟩ := List.mem_iff_getElem.1 hx
    exact ⟨j, hj, by rw [List.getD_eq_getElem?_getD, List.getElem?_eq_getElem hj]; exact e⟩
  have hget : ∀ j, j < s.length → s.getD j 0 ∈ s := fun j hj => by
    rw [List.getD_eq_getElem?_getD, List.getElem?_eq_getElem hj]
    exact List.getElem_mem _
  rw [h.back]
  constructor
  · rintro ⟨j, hj, ht⟩
    exact (h.fwd _ (hget j hj)).rch (.here ht)
  · intro hr
    obtain ⟨x, hx, ht⟩ := rch_fwd hr .here
    have hxs : x ∈ s := fwd_all (List.mem_of_getElem? h.head) (fun y hy z hz => by
      obtain ⟨j, hj, e⟩ := hmem y hy
      exact h.shut j z hj (by rw [e]; exact hz)) hx
    obtain ⟨j, hj, e⟩ := hmem x hxs
    exact ⟨j, hj, by rw [e]; exact ht⟩
/-- At the i-th one, x: the first k edges are done. -/
structure Far2 (l : List (Int × Int)) (tg : Int) (s : List Int) (i : Nat) (x : Int) (k : Nat) (bk : Bool) : Prop where
  fwd : ∀ y ∈ s, Fwd (nx l) tg y
  head : s[0]? = some tg
  lt : i < s.length
  at_ : s.getD i 0 = x
  shut : ∀ j z, j < i → z ∈ nx l (s.getD j 0) → z ∈ s
  edges : ∀ p ∈ l.take k, p.1 = x → p.2 ∈ s
  back : bk = true ↔ (∃ j, j < i ∧ tg ∈ nx l (s.getD j 0)) ∨ ∃ p ∈ l.take k, p.1 = x ∧ p.2 = tg
theorem Far.in {l : List (Int × Int)} {tg : Int} {s : List Int} {i : Nat} {bk : Bool} (h : Far (nx l) tg s i bk) (hi : i < s.length) : Far2 l tg s i (s.getD i 0) 0 bk :=
  ⟨h.fwd, h.head, hi, rfl, h.shut, by simp, by rw [h.back]; simp⟩
theorem Far2.out {l : List (Int × Int)} {tg : Int} {s : List Int} {i : Nat} {x : Int} {bk : Bool} (h : Far2 l tg s i x l.length bk) : Far (nx l) tg s (i + 1) bk := by
  have he := h.edges
  have hb := h.back
  rw [List.take_length] at he hb
  refine ⟨h.fwd, h.head, fun j z hj hz => ?_, ?_⟩
  · rcases Nat.lt_or_ge j i with h1 | h1
    · exact h.shut j z h1 hz
    · have : j = i := by omega
      subst this
      rw [h.at_] at hz
      exact he _ (mem_nx.1 hz) rfl
  · rw [hb]
    constructor
    · rintro (⟨j, hj, ht⟩ | ⟨p, hp, e1, e2⟩)
      · exact ⟨j, by omega, ht⟩
      · exact ⟨i, by omega, by rw [h.at_]; exact mem_nx.2 (by rw [← e1, ← e2]; exact hp)⟩
    · rintro ⟨j, hj, ht⟩
      rcases Nat.lt_or_ge j i with h1 | h1
      · exact .inl ⟨j, h1, ht⟩
      · have : j = i := by omega
        subst this
        rw [h.at_] at ht
        exact .inr ⟨_, mem_nx.1 ht, rfl, rfl⟩
theorem mem_take_succ {l : List (Int × Int)} {k : Nat} (hk : k < l.length) {p : Int × Int} : p ∈ l.take (k + 1) ↔ p ∈ l.take k ∨ p = l.getD k (0, 0) := by
  rw [List.take_succ_eq_append_getElem hk, List.mem_append, List.mem_singleton]
  simp [List.getD_eq_getElem?_getD, List.getElem?_eq_getElem hk]
/-- An edge that does not begin at x. -/
theorem Far2.skip {l : List (Int × Int)} {tg : Int} {s : List Int} {i : Nat} {x : Int} {k : Nat} {bk : Bool} (h : Far2 l tg s i x k bk) (hk : k < l.length) (hx : (l.getD k (0, 0)).1 ≠ x) : Far2 l tg s i x (k + 1) bk := by
  refine ⟨h.fwd, h.head, h.lt, h.at_, h.shut, fun p hp e => ?_, ?_⟩
  · rcases (mem_take_succ hk).1 hp with h1 | h1
    · exact h.edges p h1 e
    · exact absurd (h1 ▸ e) hx
  · rw [h.back]
    constructor
    · rintro (h1 | ⟨p, hp, e⟩)
      · exact .inl h1
      · exact .inr ⟨p, (mem_take_succ hk).2 (.inl hp), e⟩
    · rintro (h1 | ⟨p, hp, e⟩)
      · exact .inl h1
      · rcases (mem_take_succ hk).1 hp with h2 | h2
        · exact .inr ⟨p, h2, e⟩
        · exact absurd (h2 ▸ e.1) hx
/-- An edge that begins at x: what it leads to is in s2. -/
theorem Far2.take {l : List (Int × Int)} {tg : Int} {s : List Int} {i : Nat} {x t : Int} {k : Nat} {bk : Bool} (h : Far2 l tg s i x k bk) (hk : k < l.length) (hx : l.getD k (0, 0) = (x, t)) (s2 : List Int) (h2 : s2 = s ∧ t ∈ s ∨ s2 = s ++ [t]) :
    Far2 l tg s2 i x (k + 1) (bk || (t == tg)) := by
  have hsub : ∀ y, y ∈ s → y ∈ s2 := fun y hy => by rcases h2 with ⟨rfl, _⟩ | rfl <;> simp [hy]
  have ht : t ∈ s2 := by rcases h2 with ⟨rfl, h⟩ | rfl <;> simp_all
  have hget : ∀ j, j < s.length → s2.getD j 0 = s.getD j 0 := fun j hj => by
    rcases h2 with ⟨rfl, _⟩ | rfl
    · rfl
    · simp [List.getD_eq_getElem?_getD, List.getElem?_append_left hj]
  have hl := h.lt
  have hlen : s.length ≤ s2.length := by rcases h2 with ⟨rfl, _⟩ | rfl <;> simp
  have hxl : (x, t) ∈ l := by
    rw [← hx]
    have : l.getD k (0, 0) = l[k] := by simp [List.getD_eq_getElem?_getD, List.getElem?_eq_getElem hk]
    rw [this]
    exact List.getElem_mem _
  have hfx : Fwd (nx l) tg x := by
    rw [← h.at_]
    refine h.fwd _ ?_
    rw [List.getD_eq_getElem?_getD, List.getElem?_eq_getElem hl]
    exact List.getElem_mem _
  refine ⟨fun y hy => ?_, ?_, by omega, by rw [hget i hl]; exact h.at_, fun j z hj hz => ?_, fun p hp e => ?_, ?_⟩
  · rcases h2 with ⟨rfl, _⟩ | rfl
    · exact h.fwd y hy
    · rcases List.mem_append.1 hy with hy | hy
      · exact h.fwd y hy
      · obtain rfl := List.mem_singleton.1 hy
        exact .step hfx (mem_nx.2 hxl)
  · rcases h2 with ⟨rfl, _⟩ | rfl
    · exact h.head
    · rw [List.getElem?_append_left (by omega)]; exact h.head
  · rw [hget j (by omega)] at hz
    exact hsub _ (h.shut j z hj hz)
  · rcases (mem_take_succ hk).1 hp with h1 | h1
    · exact hsub _ (h.edges p h1 e)
    · rw [h1, hx]; exact ht
  · have e1 : ∀ j, j < i → s2.getD j 0 = s.getD j 0 := fun j hj => hget j (by omega)
    rw [Bool.or_eq_true, h.back]
    constructor
    · rintro ((⟨j, hj, h1⟩ | ⟨p, hp, e⟩) | h1)
      · exact .inl ⟨j, hj, by rw [e1 j hj]; exact h1⟩
      · exact .inr ⟨p, (mem_take_succ hk).2 (.inl hp), e⟩
      · exact .inr ⟨_, (mem_take_succ hk).2 (.inr rfl), by rw [hx], by rw [hx]; simpa using h1⟩
    · rintro (⟨j, hj, h1⟩ | ⟨p, hp, e⟩)
      · exact .inl (.inl ⟨j, hj, by rw [← e1 j hj]; exact h1⟩)
      · rcases (mem_take_succ hk).1 hp with h3 | h3
        · exact .inl (.inr ⟨p, h3, e⟩)
        · right
          rw [h3, hx] at e
          simpa using e.2
end Go.Proofs.Ytilknhackmccpaa
