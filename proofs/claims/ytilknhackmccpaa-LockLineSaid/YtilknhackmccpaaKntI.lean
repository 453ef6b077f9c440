/- What the ring is: plain facts. -/
import Derived.Test.YtilknhackmccpaaKntH
set_option linter.unusedVariables false
set_option linter.unusedSimpArgs false
namespace Go.Proofs.Ytilknhackmccpaa

theorem Rch.again {f : Int → List Int} {tg m : Int} {S : List Int} {n : Int} (h : Rch f tg S n) : Rch f tg (m :: S) n ∨ Rch f tg (m :: S) m := by
  induction h with
  | here h => exact .inl (.here h)
  | @step n k h1 h2 _ ih =>
    rcases ih with ih | ih
    · by_cases hk : k = m
      · subst hk; exact .inr ih
      · exact .inl (.step h1 (by simp [hk, h2]) ih)
    · exact .inr ih
theorem Rch.self {f : Int → List Int} {tg m : Int} {S : List Int} (h : Rch f tg S m) : Rch f tg (m :: S) m := by
  rcases h.again (m := m) with h | h <;> exact h
theorem Rch.more {f g : Int → List Int} {tg n : Int} {S : List Int} (hfg : ∀ x z, z ∈ f x → z ∈ g x) (h : Rch f tg S n) : Rch g tg S n := by
  induction h with
  | here h => exact .here (hfg _ _ h)
  | step h1 h2 _ ih => exact .step (hfg _ _ h1) h2 ih

/-- A ring is found if there is one. -/
theorem go_some {f : Int → List Int} {tg : Int} {V : List Int} (hV : ∀ x z, z ∈ f x → z ∈ V) : ∀ (n : Nat) (ws : List Int) (last : Int), ws ≠ [] → unseen V ws < n → Rch f tg ws last → cycGo f tg n ws last ≠ []
  | 0, _, _, _, h, _ => absurd h (Nat.not_lt_zero _)
  | n + 1, ws, last, hne, hu, hr => by
    by_cases ht : tg ∈ f last
    · rw [cyc_here ht]; exact hne
    · cases hr with
      | here h => exact absurd h ht
      | @step _ m h1 h2 h3 =>
        have hg : Good f tg ws m := ⟨h2, h3.self⟩
        have hsome : (nextOf f tg ws (f last)).isSome = true := by
          unfold nextOf
          rw [List.find?_isSome]
          exact ⟨m, h1, by simpa using hg⟩
        obtain ⟨z, hz⟩ := Option.isSome_iff_exists.1 hsome
        have hgz : Good f tg ws z ∧ z ∈ f last := by
          unfold nextOf at hz
          exact ⟨by simpa using List.find?_some hz, List.mem_of_find?_eq_some hz⟩
        have e : cycGo f tg (n + 1) ws last = cycGo f tg n (ws ++ [z]) z := by simp [cycGo, ht, hz]
        rw [e]
        have hul := unseen_lt (hV _ _ hgz.2) hgz.1.1
        have hul2 : unseen V (ws ++ [z]) ≤ unseen V (z :: ws) := unseen_mono fun x hx => by
          rcases List.mem_cons.1 hx with e | e <;> simp [e]
        exact go_some hV n (ws ++ [z]) z (by simp) (by omega) (hgz.1.2.mono fun x hx => by
          rcases List.mem_append.1 hx with e | e
          · simp [e]
          · have := List.mem_singleton.1 e; simp [this])

/-- A list each of which is followed by one it waits for. -/
def Links (f : Int → List Int) (ws : List Int) : Prop := ∀ i a b, ws[i]? = some a → ws[i + 1]? = some b → b ∈ f a
/-- A ring that begins with tg. -/
structure Ring (f : Int → List Int) (tg : Int) (r : List Int) : Prop where
  head : r[0]? = some tg
  nodup : r.Nodup
  links : Links f r
  back : ∃ last, r[r.length - 1]? = some last ∧ tg ∈ f last
theorem go_ring {f : Int → List Int} {tg : Int} : ∀ (n : Nat) (ws : List Int) (last : Int), ws[0]? = some tg → ws.Nodup → Links f ws → ws[ws.length - 1]? = some last → cycGo f tg n ws last ≠ [] → Ring f tg (cycGo f tg n ws last)
  | 0, _, _, _, _, _, _, h => absurd rfl h
  | n + 1, ws, last, h0, hn, hl, hlast, hne => by
    by_cases ht : tg ∈ f last
    · rw [cyc_here ht]
      exact ⟨h0, hn, hl, last, hlast, ht⟩
    · have hwl : 0 < ws.length := (List.getElem?_eq_some_iff.1 h0).1
      cases hz : nextOf f tg ws (f last) with
      | none =>
        have e : cycGo f tg (n + 1) ws last = [] := by simp [cycGo, ht, hz]
        exact absurd e hne
      | some z =>
        have hgz : Good f tg ws z ∧ z ∈ f last := by
          unfold nextOf at hz
          exact ⟨by simpa using List.find?_some hz, List.mem_of_find?_eq_some hz⟩
        have e : cycGo f tg (n + 1) ws last = cycGo f tg n (ws ++ [z]) z := by simp [cycGo, ht, hz]
        rw [e] at hne ⊢
        refine go_ring n (ws ++ [z]) z (by rw [List.getElem?_append_left hwl]; exact h0) ?_ ?_ (by simp) hne
        · rw [List.nodup_append]
          refine ⟨hn, by simp, fun a ha b hb => ?_⟩
          obtain rfl := List.mem_singleton.1 hb
          rintro rfl
          exact hgz.1.1 ha
        · intro i a b ha hb
          rcases Nat.lt_or_ge (i + 1) ws.length with h | h
          · rw [List.getElem?_append_left (by omega)] at ha hb
            exact hl i a b ha hb
          · have hi : i < (ws ++ [z]).length - 1 := by
              have := (List.getElem?_eq_some_iff.1 hb).1
              omega
            simp at hi
            have hi1 : i = ws.length - 1 := by omega
            rw [List.getElem?_append_left (by omega), hi1, hlast] at ha
            rw [show i + 1 = ws.length by omega, List.getElem?_append_right (Nat.le_refl _)] at hb
            simp at ha hb
            rw [← ha, ← hb]
            exact hgz.2
theorem Ring.rch {f : Int → List Int} {tg : Int} {r : List Int} (h : Ring f tg r) : Rch f tg [tg] tg := by
  obtain ⟨last, hl, ht⟩ := h.back
  have h0 := h.head
  have hr0 := (List.getElem?_eq_some_iff.1 h0).1
  have key : ∀ k, k < r.length → ∀ a, r[r.length - 1 - k]? = some a → Rch f tg [tg] a := by
    intro k
    induction k with
    | zero =>
      intro _ a ha
      rw [Nat.sub_zero, hl] at ha
      cases ha
      exact .here ht
    | succ k ih =>
      intro hk a ha
      have hlt : r.length - 1 - k < r.length := by omega
      have hb := List.getElem?_eq_getElem hlt
      have e : r.length - 1 - (k + 1) + 1 = r.length - 1 - k := by omega
      refine .step (h.links _ a _ ha (by rw [e]; exact hb)) ?_ (ih (by omega) _ hb)
      intro hm
      have hm := List.mem_singleton.1 hm
      have hd := (List.getElem_inj (h₀ := hlt) (h₁ := hr0) h.nodup).1 (by
        rw [hm]
        have := List.getElem?_eq_getElem hr0
        rw [this] at h0
        simpa using h0.symm)
      omega
  exact key (r.length - 1) (by omega) tg (by rw [Nat.sub_self]; exact h0)
theorem cyc_ring {l : List (Int × Int)} {tg : Int} (h : cyc l tg ≠ []) : Ring (nx l) tg (cyc l tg) := by
  refine go_ring _ [tg] tg rfl (by simp) ?_ rfl h
  intro i a b _ hb
  simp at hb
theorem cyc_iff {l : List (Int × Int)} (hU : UE l) {tg : Int} : cyc l tg ≠ [] ↔ Rch (nx l) tg [] tg := by
  constructor
  · intro h
    exact (cyc_ring h).rch.mono (by simp)
  · intro h
    refine go_some (V := tos l) (fun x z hz => (nx_tos hU x z hz).1) _ [tg] tg (by simp) ?_ h.self
    have : unseen (tos l) [tg] ≤ (tos l).length := List.length_filter_le _ _
    omega
theorem mem_nx {l : List (Int × Int)} {a b : Int} : b ∈ nx l a ↔ (a, b) ∈ l := by
  rw [nx, mem_canon, grp, List.take_length]
  simp only [List.mem_map, List.mem_filter]
  constructor
  · rintro ⟨p, ⟨h1, h2⟩, rfl⟩
    have : p.1 = a := by simpa using h2
    rw [← this]
    exact h1
  · intro h
    exact ⟨(a, b), ⟨h, by simp⟩, rfl⟩
/-- What the ring is hangs on which edges there are. -/
theorem cyc_congr {l l' : List (Int × Int)} (h : ∀ p, p ∈ l ↔ p ∈ l') (tg : Int) : cyc l tg = cyc l' tg := by
  have e1 : nx l = nx l' := by
    funext x
    refine rising_eq (canon_rising _) (canon_rising _) fun z => ?_
    exact mem_nx.trans ((h _).trans mem_nx.symm)
  have e2 : tos l = tos l' := canon_congr fun z => by
    simp only [List.mem_map]
    constructor
    · rintro ⟨p, h1, h2⟩; exact ⟨p, (h p).1 h1, h2⟩
    · rintro ⟨p, h1, h2⟩; exact ⟨p, (h p).2 h1, h2⟩
  rw [cyc, cyc, e1, e2]
theorem cyc_U {l : List (Int × Int)} (hU : UE l) {tg : Int} (ht : U tg) : ∀ z ∈ cyc l tg, U z := by
  intro z hz
  have hne : cyc l tg ≠ [] := by rintro e; rw [e] at hz; simp at hz
  have hr := cyc_ring hne
  obtain ⟨i, hi, e⟩ := List.mem_iff_getElem.1 hz
  rcases i with _ | i
  · have := hr.head
    rw [List.getElem?_eq_getElem hi, e] at this
    cases this
    exact ht
  · have := hr.links i _ _ (List.getElem?_eq_getElem (by omega)) (List.getElem?_eq_getElem hi)
    rw [e] at this
    exact (hU _ (mem_nx.1 this)).2
theorem go_length {f : Int → List Int} {tg : Int} {V : List Int} {K : Nat} (hV : ∀ x z, z ∈ f x → z ∈ V) : ∀ (n : Nat) (ws : List Int) (last : Int), ws.length + unseen V ws ≤ K → (cycGo f tg n ws last).length ≤ K
  | 0, _, _, _ => by simp [cycGo]
  | n + 1, ws, last, h => by
    by_cases ht : tg ∈ f last
    · rw [cyc_here ht]; omega
    · cases hz : nextOf f tg ws (f last) with
      | none => simp [cycGo, ht, hz]
      | some z =>
        have hgz : Good f tg ws z ∧ z ∈ f last := by
          unfold nextOf at hz
          exact ⟨by simpa using List.find?_some hz, List.mem_of_find?_eq_some hz⟩
        have e : cycGo f tg (n + 1) ws last = cycGo f tg n (ws ++ [z]) z := by simp [cycGo, ht, hz]
        rw [e]
        have hul := unseen_lt (hV _ _ hgz.2) hgz.1.1
        have hul2 : unseen V (ws ++ [z]) ≤ unseen V (z :: ws) := unseen_mono fun x hx => by
          rcases List.mem_cons.1 hx with e | e <;> simp [e]
        exact go_length hV n _ z (by simp; omega)
theorem cyc_length {l : List (Int × Int)} (hU : UE l) {tg : Int} : (cyc l tg).length ≤ l.length + 1 := by
  refine go_length (V := tos l) (fun x z hz => (nx_tos hU x z hz).1) _ [tg] tg ?_
  have h1 : unseen (tos l) [tg] ≤ (tos l).length := List.length_filter_le _ _
  have h2 : (tos l).length ≤ l.length := Nat.le_trans (canon_length _) (by simp)
  simp
  omega
end Go.Proofs.Ytilknhackmccpaa
