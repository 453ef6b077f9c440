/- Rising lists without twins; slices.Sort, Compact, Contains on slices of the call's own (ownsInts). -/
import Derived.Test.YtilknhackmccpaaKntA
import Derived.Test.YtilknhackmccpaaGen
set_option linter.unusedVariables false
set_option linter.unusedSimpArgs false
namespace Go.Proofs.Ytilknhackmccpaa
open Go.RowKit Go.Sort Go.Maps Go.ChangeMaps Go.MapKept Go.ChangeShapes

/-- x among a rising list, once. -/
def insI (x : Int) : List Int → List Int
  | [] => [x]
  | y :: r => if x < y then x :: y :: r else if x = y then y :: r else y :: insI x r
/-- Those of a list, rising, each once. -/
def canon (zs : List Int) : List Int := zs.foldl (fun a x => insI x a) []
def Rising (l : List Int) : Prop := l.Pairwise (· < ·)
theorem mem_insI {x z : Int} : ∀ {l : List Int}, z ∈ insI x l ↔ z = x ∨ z ∈ l
  | [] => by simp [insI]
  | y :: r => by
    unfold insI
    split
    · simp
    · split
      · rename_i h; subst h; simp
      · simp only [List.mem_cons, mem_insI]
        constructor <;> rintro (h | h | h) <;> simp [h]
theorem rising_insI {x : Int} : ∀ {l : List Int}, Rising l → Rising (insI x l)
  | [], _ => by simp [insI, Rising]
  | y :: r, h => by
    obtain ⟨h1, h2⟩ := List.pairwise_cons.1 h
    unfold insI
    split
    · rename_i hxy
      refine List.pairwise_cons.2 ⟨fun z hz => ?_, h⟩
      rcases List.mem_cons.1 hz with rfl | hz
      · exact hxy
      · have := h1 z hz; omega
    · split
      · exact h
      · refine List.pairwise_cons.2 ⟨fun z hz => ?_, rising_insI h2⟩
        rcases mem_insI.1 hz with rfl | hz
        · omega
        · exact h1 z hz
theorem canon_fold : ∀ (zs a : List Int), Rising a → Rising (zs.foldl (fun a x => insI x a) a) ∧ ∀ z, z ∈ zs.foldl (fun a x => insI x a) a ↔ z ∈ a ∨ z ∈ zs
  | [], a, h => ⟨h, by simp⟩
  | x :: r, a, h => by
    obtain ⟨h1, h2⟩ := canon_fold r (insI x a) (rising_insI h)
    refine ⟨h1, fun z => ?_⟩
    rw [List.foldl_cons, h2 z, mem_insI, List.mem_cons]
    constructor
    · rintro ((h | h) | h) <;> simp [h]
    · rintro (h | h | h) <;> simp [h]
theorem canon_rising (zs : List Int) : Rising (canon zs) := (canon_fold zs [] (by simp [Rising])).1
theorem mem_canon {zs : List Int} {z : Int} : z ∈ canon zs ↔ z ∈ zs := by
  have := (canon_fold zs [] (by simp [Rising])).2 z
  simpa [canon] using this
/-- Two rising lists of the same numbers are one. -/
theorem rising_eq : ∀ {a b : List Int}, Rising a → Rising b → (∀ z, z ∈ a ↔ z ∈ b) → a = b
  | [], [], _, _, _ => rfl
  | [], y :: r, _, _, h => absurd ((h y).2 (by simp)) (by simp)
  | x :: r, [], _, _, h => absurd ((h x).1 (by simp)) (by simp)
  | x :: r, y :: s, ha, hb, h => by
    obtain ⟨a1, a2⟩ := List.pairwise_cons.1 ha
    obtain ⟨b1, b2⟩ := List.pairwise_cons.1 hb
    have hxy : x = y := by
      rcases List.mem_cons.1 ((h x).1 (by simp)) with e | e
      · exact e
      · rcases List.mem_cons.1 ((h y).2 (by simp)) with e' | e'
        · exact e'.symm
        · have := b1 x e; have := a1 y e'; omega
    subst hxy
    rw [rising_eq a2 b2 fun z => ?_]
    have := h z
    constructor
    · intro hz
      rcases List.mem_cons.1 (this.1 (List.mem_cons_of_mem _ hz)) with e | e
      · have := a1 z hz; omega
      · exact e
    · intro hz
      rcases List.mem_cons.1 (this.2 (List.mem_cons_of_mem _ hz)) with e | e
      · have := b1 z hz; omega
      · exact e
theorem canon_of {zs l : List Int} (h : Rising l) (hm : ∀ z, z ∈ l ↔ z ∈ zs) : l = canon zs := rising_eq h (canon_rising zs) fun z => (hm z).trans mem_canon.symm
theorem canon_congr {a b : List Int} (h : ∀ z, z ∈ a ↔ z ∈ b) : canon a = canon b := canon_of (canon_rising a) fun z => mem_canon.trans (h z)
theorem insI_length (x : Int) : ∀ l : List Int, (insI x l).length ≤ l.length + 1
  | [] => by simp [insI]
  | y :: r => by
    have := insI_length x r
    unfold insI
    split
    · simp
    · split
      · simp
      · simp; omega
theorem canon_length (zs : List Int) : (canon zs).length ≤ zs.length := by
  have : ∀ (zs a : List Int), (zs.foldl (fun a x => insI x a) a).length ≤ a.length + zs.length := by
    intro zs
    induction zs with
    | nil => intro a; simp
    | cons x r ih =>
      intro a
      have h1 := ih (insI x a)
      have h2 := insI_length x a
      simp only [List.foldl_cons, List.length_cons]
      omega
  simpa [canon] using this zs []
theorem canon_eq_nil {zs : List Int} (h : canon zs = []) : zs = [] := by
  rcases zs with _ | ⟨x, r⟩
  · rfl
  · have : x ∈ canon (x :: r) := mem_canon.2 (by simp)
    rw [h] at this
    simp at this
theorem canon_nil : canon [] = [] := rfl

/-- What Compact leaves of a list that does not fall. -/
theorem compact_sorted (zs : List Int) (h : zs.Pairwise (· ≤ ·)) : Go.Lib.compactUpTo zs.toArray zs.length = canon zs := by
  have hle : ∀ i j, i ≤ j → j < zs.length → zs.toArray[i]! ≤ zs.toArray[j]! := by
    intro i j hij hj
    rw [getElem!_pos zs.toArray i (by simp; omega), getElem!_pos zs.toArray j (by simpa using hj)]
    rcases Nat.lt_or_ge i j with h1 | h1
    · simpa using List.pairwise_iff_getElem.1 h i j (by omega) hj h1
    · have : i = j := by omega
      subst this
      exact Int.le_refl _
  have key : ∀ m, m ≤ zs.length → Rising (Go.Lib.compactUpTo zs.toArray m) ∧ (∀ z, z ∈ Go.Lib.compactUpTo zs.toArray m ↔ ∃ i, i < m ∧ z = zs.toArray[i]!) := by
    intro m
    induction m with
    | zero => intro _; exact ⟨by simp [Go.Lib.compactUpTo, Rising], fun z => by simp [Go.Lib.compactUpTo]⟩
    | succ m ih =>
      intro hm
      obtain ⟨h1, h2⟩ := ih (by omega)
      rw [Go.Lib.compactUpTo_succ]
      by_cases hk : Go.Lib.keeps zs.toArray m = true
      · rw [if_pos hk]
        refine ⟨List.pairwise_append.2 ⟨h1, by simp, fun a ha b hb => ?_⟩, fun z => ?_⟩
        · obtain rfl := List.mem_singleton.1 hb
          obtain ⟨i, hi, rfl⟩ := (h2 a).1 ha
          have hne : zs.toArray[m]! ≠ zs.toArray[m - 1]! := by
            have := of_decide_eq_true hk
            rcases this with h | h
            · omega
            · exact h
          have l1 := hle i (m - 1) (by omega) (by omega)
          have l2 := hle (m - 1) m (by omega) (by omega)
          omega
        · rw [List.mem_append, h2 z, List.mem_singleton]
          constructor
          · rintro (⟨i, hi, e⟩ | e)
            · exact ⟨i, by omega, e⟩
            · exact ⟨m, by omega, e⟩
          · rintro ⟨i, hi, e⟩
            rcases Nat.lt_or_ge i m with h | h
            · exact .inl ⟨i, h, e⟩
            · have : i = m := by omega
              exact .inr (this ▸ e)
      · have hk' : Go.Lib.keeps zs.toArray m = false := by simpa using hk
        rw [hk', if_neg (by simp), List.append_nil]
        refine ⟨h1, fun z => ?_⟩
        rw [h2 z]
        constructor
        · rintro ⟨i, hi, e⟩; exact ⟨i, by omega, e⟩
        · rintro ⟨i, hi, e⟩
          rcases Nat.lt_or_ge i m with h | h
          · exact ⟨i, h, e⟩
          · have hn := of_decide_eq_false hk'
            have him : i = m := by omega
            subst him
            have h0 : ¬ i = 0 := fun h => hn (.inl h)
            have h3 : zs.toArray[i]! = zs.toArray[i - 1]! := Classical.byContradiction fun h => hn (.inr h)
            exact ⟨i - 1, by omega, e.trans h3⟩
  refine canon_of (key _ (Nat.le_refl _)).1 fun z => ?_
  rw [(key _ (Nat.le_refl _)).2 z]
  constructor
  · rintro ⟨i, hi, rfl⟩
    rw [getElem!_pos zs.toArray i (by simpa using hi)]
    simp
  · intro hz
    obtain ⟨i, hi, e⟩ := List.mem_iff_getElem.1 hz
    refine ⟨i, hi, ?_⟩
    rw [getElem!_pos zs.toArray i (by simpa using hi)]
    simpa using e.symm

section
variable {w w' : World} {base : Nat} {v : Value} {zs zs' : List Int}
/-- A slice of the call's own: nil, or a row. -/
theorem own_cases (h : w.ownsInts base 23 .u32 v zs) : (v = .slice none 0 0 ∧ zs = []) ∨ ∃ g cap, v = .slice (some ⟨g, 0, none⟩) zs.length cap ∧ base ≤ g ∧ zs.length ≤ cap ∧ cap ≤ maxLen ∧ Row w g cap 23 zs.toArray := by
  rcases h.1.2 with ⟨rfl, h0⟩ | ⟨g, cap, cur, rfl, hb, hg, hn, hc, hs, ht⟩
  · exact .inl ⟨rfl, by simpa using h0⟩
  · refine .inr ⟨g, cap, rfl, hb, hn, hc, cur, hg, by simpa using hs, by simpa using hn, fun i hi => ?_⟩
    simp at hi
    have : (cur.toList.take (zs.length * 1))[i]? = (zs.map (Value.int .u32))[i]? := by rw [ht]
    rw [List.getElem?_take_of_lt (by omega), List.getElem?_map, List.getElem?_eq_getElem hi] at this
    rw [getElem!_pos zs.toArray i (by simpa using hi)]
    simpa using this
/-- .. and back. -/
theorem own_of_row {g cap : Nat} (hR : Row w g cap 23 zs.toArray) (hb : base ≤ g) (hc : cap ≤ maxLen) (hU : ∀ z ∈ zs, U z) :
    w.ownsInts base 23 .u32 (.slice (some ⟨g, 0, none⟩) zs.length cap) zs := by
  obtain ⟨cur, h1, h2, h3, h4⟩ := hR
  refine ⟨⟨by simp, .inr ⟨g, cap, cur, rfl, hb, h1, by simpa using h3, hc, by simpa using h2, ?_⟩⟩, fun z hz => (hU z hz).wf⟩
  apply List.ext_getElem?
  intro i
  simp at h3
  rcases Nat.lt_or_ge i zs.length with hi | hi
  · rw [List.getElem?_take_of_lt (by omega), List.getElem?_map, List.getElem?_eq_getElem hi]
    have := h4 i (by simpa using hi)
    rw [getElem!_pos zs.toArray i (by simpa using hi)] at this
    simpa using this
  · rw [List.getElem?_eq_none (by simp; omega), List.getElem?_eq_none (by simpa using hi)]
end

/-- slices.Sort. -/
theorem sort_own {base : Nat} {v : Value} {zs : List Int} (w : World) (h : w.ownsInts base 23 .u32 v zs) (hsz : zs.length < 1152921504606846976) :
    Calls Try.prog 59 #[v] w fun r w' => r = .returned (.tuple #[]) ∧ ∃ zs', zs'.Perm zs ∧ zs'.Pairwise (· ≤ ·) ∧ w'.ownsInts base 23 .u32 v zs' ∧ w.grownBy w' v.ownBlock := by
  rcases own_cases h with ⟨rfl, rfl⟩ | ⟨g, cap, rfl, hb, hn, hc, hR⟩
  · refine (sort_nil w).mono ?_
    rintro r w' ⟨rfl, rfl⟩
    exact ⟨rfl, [], .refl _, by simp, h, World.grownBy.refl _ _⟩
  · refine (sort_u g cap zs.length cap _ zs w hR rfl hsz).mono ?_
    rintro r w' ⟨rfl, l', hp, hs, hw⟩
    refine ⟨rfl, l', hp, hs, ?_, hw.grown⟩
    have := own_of_row (base := base) hw.row hb hc (fun z hz => U.of (h.2 z (hp.mem_iff.1 hz)))
    rw [hp.length_eq] at this
    exact this

theorem row_put {w : World} {g N : Nat} {e : TypeId} {d d' : Array Int} (h : Row w g N e d) (hs : d'.size = d.size) (q : Nat) : Row (putRow (Value.int .u32) (Sort.ahead w q) g 0 d') g N e d' := by
  obtain ⟨cur, h1, h2, h3, h4⟩ := h
  refine ⟨putCells (Value.int .u32) 0 d' cur, ?_, by simp [putCells, h2], by omega, fun i hi => ?_⟩
  · simp [putRow, mapBlock, Array.getElem?_modify, Sort.ahead, h1, onCells]
  · have hic : i < cur.size := by omega
    simp [putCells, Array.getElem?_mapIdx, Array.getElem?_eq_getElem hic, hi]
theorem row_pre {w : World} {g N : Nat} {e : TypeId} {a b : List Int} (h : Row w g N e (a ++ b).toArray) : Row w g N e a.toArray := by
  obtain ⟨cur, h1, h2, h3, h4⟩ := h
  simp at h3
  refine ⟨cur, h1, h2, by simp; omega, fun i hi => ?_⟩
  simp at hi
  have := h4 i (by simp; omega)
  rw [this, getElem!_pos _ i (by simp; omega), getElem!_pos _ i (by simpa using hi)]
  simp [List.getElem_append_left hi]
theorem grown_put (w : World) (g q : Nat) (d : Array Int) : w.grownBy (putRow (Value.int .u32) (Sort.ahead w q) g 0 d) (some g) := by
  refine ⟨rfl, rfl, rfl, by simp [Sort.ahead], fun i hi hne => ?_⟩
  have : g ≠ i := fun e => hne (by rw [e])
  simp [putRow, mapBlock, Array.getElem?_modify, Sort.ahead, this]
theorem zero_u (w : World) : (zeroValue 23).run Try.prog w = .ok (.int .u32 0) w := by kernel_rfl
set_option maxHeartbeats 1000000 in
theorem compact_nil (w : World) : Calls Try.prog 60 #[.slice none 0 0] w fun r w' => r = .returned (.slice none 0 0) ∧ w' = w := by
  go_enter Try.func60, Try.ntmps60
  go_wp2
  go_ret
  exact ⟨rfl, rfl⟩
/-- slices.Compact. -/
theorem compact_own {base : Nat} {v : Value} {zs : List Int} (w : World) (h : w.ownsInts base 23 .u32 v zs) (hs : zs.Pairwise (· ≤ ·)) :
    Calls Try.prog 60 #[v] w fun r w' => ∃ v', r = .returned v' ∧ w'.ownsInts base 23 .u32 v' (canon zs) ∧ w.grownBy w' v.ownBlock ∧ v'.ownBlock = v.ownBlock := by
  rcases own_cases h with ⟨rfl, rfl⟩ | ⟨g, cap, rfl, hb, hn, hc, hR⟩
  · refine (compact_nil w).mono ?_
    rintro r w' ⟨rfl, rfl⟩
    exact ⟨_, rfl, h, World.grownBy.refl _ _, rfl⟩
  · have hH : Holds (Value.int .u32) w g 0 zs.toArray := fun j hj => by rw [Nat.zero_add]; exact ⟨hR.cell hj, hR.froz j⟩
    have hcon := AnyE.slices_Compact Try.cmpt (Value.int .u32) (fun _ => rfl) (EqlAt.intD _ _ .u32) (NeqAt.intD _ _ .u32) 0 zero_u g 0 cap zs.toArray w hH (by simp; unfold maxLen at hc; omega) (by simpa using hn)
    change Calls Try.prog 60 _ _ _ at hcon
    have hz : zs.toArray.size = zs.length := by simp
    rw [hz, compact_sorted zs hs] at hcon
    refine hcon.mono ?_
    rintro r w' ⟨rfl, q, rfl⟩
    have hle : (canon zs).length ≤ zs.length := by
      rw [← compact_sorted zs hs]
      simp only [Go.Lib.compactUpTo, List.length_map]
      exact Nat.le_trans (List.length_filter_le _ _) (by simp)
    refine ⟨_, rfl, ?_, grown_put w g q _, rfl⟩
    have h1 := row_put hR (d' := (canon zs ++ List.replicate (zs.length - (canon zs).length) 0).toArray) (by simp; omega) q
    exact own_of_row (row_pre h1) hb hc fun z hz => U.of (h.2 z (mem_canon.1 hz))
/-- slices.Contains. -/
theorem contains_own {base : Nat} {v : Value} {zs : List Int} (w : World) (h : w.ownsInts base 23 .u32 v zs) (x : Int) :
    Calls Try.prog 37 #[v, .int .u32 x] w fun r w' => r = .returned (.bool (zs.any fun y => x == y)) ∧ w' = w := by
  rcases own_cases h with ⟨rfl, rfl⟩ | ⟨g, cap, rfl, hb, hn, hc, hR⟩
  · have hcon := AnyE.slices_Contains_empty Try.cont none 0 (.int .u32 x) w
    change Calls Try.prog 37 _ _ _ at hcon
    exact hcon
  · have hcon := AnyE.slices_Contains Try.cont (Value.int .u32) _ (EqlAt.int _ _ .u32) g 0 zs.length cap zs x w (Nat.le_refl _) (by unfold maxLen at hc; omega) (fun j hj => by
      rw [Nat.zero_add, hR.cell (by simpa using hj)]
      rw [getElem!_pos zs.toArray j (by simpa using hj), getElem!_pos zs j hj]
      simp)
    change Calls Try.prog 37 _ _ _ at hcon
    rw [List.take_length] at hcon
    exact hcon
end Go.Proofs.Ytilknhackmccpaa
