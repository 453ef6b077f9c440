/- The document's table and the locks' table, plainly: they agree; The document's table: Release, its walk; The document's table: blocks; The document's table: Edges, its walk. -/
import Derived.Test.YtilknhackmccpaaRefA
set_option linter.unusedVariables false
set_option linter.unusedSimpArgs false
namespace Go.Proofs.Ytilknhackmccpaa
open Go.RowKit Go.Sort Go.Lib Go.Maps

/-- The two tables agree. -/
structure Agr (T : Tb) (L : RT) : Prop where
  rise : (L.map (·.1)).Pairwise KLt
  at_ : ∀ e ∈ L, T.F e.1 = e.2
  out : ∀ k, k ∉ L.map (·.1) → T.F k = ([], [])
  ks : ∀ k ∈ T.ks, k ∈ L.map (·.1)
theorem agr_none : Agr noTb [] := ⟨List.Pairwise.nil, by simp, fun _ _ => rfl, by simp [noTb]⟩
theorem Agr.modes {T : Tb} {L : RT} (A : Agr T L) (I : Inv T) : Modes L := fun e he => by
  have := I.lk e.1
  rw [A.at_ e he] at this
  exact ⟨this.h.modes, this.q.modes⟩
/-- Waits. -/
theorem Agr.waits {T : Tb} {L : RT} (A : Agr T L) (I : Inv T) (t : Int) : rWaits L t = T.W t := by
  cases hW : T.W t with
  | none =>
    rw [rWaits, List.findSome?_eq_none_iff]
    intro e he
    have : modeL e.2.2 t = 0 := modeL_not fun p hp hpe => by
      have h1 := (I.line e.1 p.1 p.2).1 (by rw [A.at_ e he]; exact hp)
      rw [hpe, hW] at h1
      cases h1
    rw [waitE, if_pos this]
  | some h =>
    obtain ⟨k, m⟩ := h
    have hin := (I.line k t m).2 hW
    have hk : k ∈ L.map (·.1) := by
      by_cases h : k ∈ L.map (·.1)
      · exact h
      · rw [A.out k h] at hin; cases hin
    obtain ⟨e, he, rfl⟩ := List.mem_map.1 hk
    rw [A.at_ e he] at hin
    have hq := (I.lk e.1).q
    rw [A.at_ e he] at hq
    have hm : modeL e.2.2 t = m := modeL_mem hq.nod hin
    have hm0 : m ≠ 0 := by have := hq.modes _ hin; simp only at this; omega
    obtain ⟨i, hi, hei⟩ := List.mem_iff_getElem.1 he
    refine findSome_at (i := i) (x := e) (by rw [List.getElem?_eq_getElem hi, hei]) (by rw [waitE, hm, if_neg hm0]) fun j z hj hz => ?_
    have hzm : z ∈ L := List.mem_of_getElem? hz
    have : modeL z.2.2 t = 0 := modeL_not fun p hp hpe => by
      have h1 := (I.line z.1 p.1 p.2).1 (by rw [A.at_ z hzm]; exact hp)
      rw [hpe, hW] at h1
      simp only [Option.some.injEq, Prod.mk.injEq] at h1
      have hr := List.pairwise_iff_getElem.1 A.rise j i (by rw [List.length_map]; omega) (by rw [List.length_map]; exact hi) hj
      obtain ⟨hj2, hz2⟩ := List.getElem?_eq_some_iff.1 hz
      simp only [List.getElem_map, hz2, hei, ← h1.1] at hr
      exact KLt.irrefl _ hr
    rw [waitE, if_pos this]
/-- The keys of the locks' table among the document's. -/
theorem Agr.keys {T : Tb} {L : RT} (A : Agr T L) (I : Inv T) : (L.map (·.1)).filter (fun k => decide (k ∈ T.ks)) = T.ks := by
  refine List.Perm.eq_of_pairwise (le := KLt) (fun a b _ _ h1 h2 => absurd (KLt.trans h1 h2) (KLt.irrefl a)) (A.rise.filter _) I.rise ?_
  have nd : ∀ {l : List Ky}, l.Pairwise KLt → l.Nodup := fun h => h.imp fun {a b} hab => by rintro rfl; exact KLt.irrefl a hab
  refine (List.perm_ext_iff_of_nodup (nd (A.rise.filter _)) (nd I.rise)).2 fun k => ?_
  rw [List.mem_filter]
  simp only [decide_eq_true_eq]
  exact ⟨fun h => h.2, fun h => ⟨A.ks k h, h⟩⟩
theorem flat_filter {α β : Type} (f : α → List β) (p : α → Bool) : ∀ l : List α, (∀ x ∈ l, p x = false → f x = []) → (l.filter p).flatMap f = l.flatMap f
  | [], _ => rfl
  | x :: r, h => by
    have ih := flat_filter f p r fun y hy => h y (List.mem_cons_of_mem _ hy)
    cases hp : p x with
    | true => rw [List.filter_cons_of_pos hp, List.flatMap_cons, List.flatMap_cons, ih]
    | false =>
      rw [List.filter_cons_of_neg (by simp [hp]), List.flatMap_cons, h x (by simp) hp, List.nil_append, ih]
/-- What is told of each lock, over the locks' keys and over the document's. -/
theorem Agr.flat {T : Tb} {L : RT} {β : Type} (A : Agr T L) (I : Inv T) (f : Ky → Lk → List β) (h0 : ∀ k, f k ([], []) = []) : T.ks.flatMap (fun k => f k (T.F k)) = L.flatMap fun e => f e.1 e.2 := by
  rw [← A.keys I, flat_filter, List.flatMap_map]
  · have : ∀ e ∈ L, f e.1 (T.F e.1) = f e.1 e.2 := fun e he => by rw [A.at_ e he]
    have key : ∀ M : RT, (∀ e ∈ M, f e.1 (T.F e.1) = f e.1 e.2) → (M.flatMap fun e => f e.1 (T.F e.1)) = M.flatMap fun e => f e.1 e.2 := fun M => by
      induction M with
      | nil => intro _; rfl
      | cons e r ih => intro h; rw [List.flatMap_cons, List.flatMap_cons, h e (by simp), ih fun e he => h e (List.mem_cons_of_mem _ he)]
    exact key L this
  · intro k _ hk
    rw [I.out k (by simpa using hk)]
    exact h0 k
theorem Agr.holds {T : Tb} {L : RT} (A : Agr T L) (I : Inv T) (t : Int) : holdsL T t = rHolds L t := by
  have h := A.flat I (fun k l => if modeL l.1 t = 0 then [] else [(k, modeL l.1 t)]) (fun k => by rw [if_pos (modeL_nil t)])
  have e1 : ∀ {γ : Type} (l : List γ) (g : γ → Ky) (m : γ → Int), (l.filterMap fun x => if m x = 0 then none else some (g x, m x)) = l.flatMap fun x => if m x = 0 then [] else [(g x, m x)] := fun l g m => by
    induction l with
    | nil => rfl
    | cons x r ih =>
      rw [List.flatMap_cons, ← ih]
      by_cases hx : m x = 0
      · rw [List.filterMap_cons_none (by rw [if_pos hx]), if_pos hx, List.nil_append]
      · rw [List.filterMap_cons_some (b := (g x, m x)) (by rw [if_neg hx]), if_neg hx]; rfl
  rw [holdsL, rHolds, e1 T.ks (fun k => k) (fun k => modeL (T.F k).1 t), e1 L (·.1) (fun e => modeL e.2.1 t)]
  exact h

/-- Release, of the document's. -/
def rRel (L : RT) (t : Int) : RT × List Int := (L.map fun e => (e.1, (relL e.2 t).1), L.flatMap fun e => (relL e.2 t).2)
theorem relStep_out (t : Int) (T : Tb) (k : Ky) : (relStep t T k).2 = (relL (T.F k) t).2 ∧ (∀ k', (relStep t T k).1.F k' = if k' = k then (relL (T.F k) t).1 else T.F k') ∧ ∀ k' ∈ (relStep t T k).1.ks, k' ∈ T.ks ∨ k' = k := by
  unfold relStep
  split
  · rename_i h
    have : relL (T.F k) t = (T.F k, []) := by rw [relL, if_pos h]
    rw [this]
    refine ⟨rfl, fun k' => ?_, fun k' h => .inl h⟩
    by_cases hk : k' = k
    · rw [if_pos hk, hk]
    · rw [if_neg hk]
  · refine ⟨rfl, fun k' => rfl, fun k' h => ?_⟩
    simp only at h
    have h2 : k' ∈ insK T.ks k := by
      split at h
      · exact (List.mem_filter.1 h).1
      · exact h
    exact ((insK_mem T.ks k k').1 h2).symm
theorem relFold_out (t : Int) : ∀ (a : List Ky) (T : Tb), a.Nodup → (relFold t a T).2 = a.flatMap (fun k => (relL (T.F k) t).2) ∧ (∀ k', (relFold t a T).1.F k' = if k' ∈ a then (relL (T.F k') t).1 else T.F k') ∧ ∀ k' ∈ (relFold t a T).1.ks, k' ∈ T.ks ∨ k' ∈ a
  | [], T, _ => ⟨rfl, fun k' => by simp [relFold], fun k' h => .inl h⟩
  | k :: r, T, hn => by
    obtain ⟨hk, hr⟩ := List.nodup_cons.1 hn
    obtain ⟨a1, a2, a3⟩ := relStep_out t T k
    obtain ⟨b1, b2, b3⟩ := relFold_out t r (relStep t T k).1 hr
    refine ⟨?_, fun k' => ?_, fun k' h => ?_⟩
    · show (relStep t T k).2 ++ (relFold t r (relStep t T k).1).2 = _
      rw [a1, b1, List.flatMap_cons]
      congr 1
      have key : ∀ s : List Ky, (∀ x ∈ s, x ≠ k) → (s.flatMap fun k' => (relL ((relStep t T k).1.F k') t).2) = s.flatMap fun k' => (relL (T.F k') t).2 := fun s => by
        induction s with
        | nil => intro _; rfl
        | cons x s ih => intro h; rw [List.flatMap_cons, List.flatMap_cons, a2, if_neg (h x (by simp)), ih fun y hy => h y (List.mem_cons_of_mem _ hy)]
      exact key r fun x hx e => hk (e ▸ hx)
    · show (relFold t r (relStep t T k).1).1.F k' = _
      rw [b2, a2]
      by_cases h1 : k' = k
      · subst h1
        rw [if_neg hk, if_pos rfl, if_pos (by simp)]
      · rw [if_neg h1]
        by_cases h2 : k' ∈ r
        · rw [if_pos h2, if_pos (List.mem_cons_of_mem _ h2)]
        · rw [if_neg h2, if_neg (by simp [h1, h2])]
    · rcases b3 k' h with h | h
      · rcases a3 k' h with h | h
        · exact .inl h
        · exact .inr (by simp [h])
      · exact .inr (List.mem_cons_of_mem _ h)
theorem relL_nil (t : Int) : relL ([], []) t = (([], []), []) := by
  rw [relL, if_pos ⟨modeL_nil t, modeL_nil t⟩]
theorem Agr.rel {T : Tb} {L : RT} (A : Agr T L) (I : Inv T) (t : Int) : (relT T t).2 = (rRel L t).2 ∧ Agr (relT T t).1 (rRel L t).1 := by
  have hnd : T.ks.Nodup := I.rise.imp fun {a b} hab => by rintro rfl; exact KLt.irrefl a hab
  obtain ⟨h1, h2, h3⟩ := relFold_out t T.ks T hnd
  have hF : ∀ k, (relT T t).1.F k = (relL (T.F k) t).1 := fun k => by
    show (relFold t T.ks T).1.F k = _
    rw [h2]
    split
    · rfl
    · rename_i h
      rw [I.out k h, relL_nil]
  have hkeys : (rRel L t).1.map (·.1) = L.map (·.1) := by simp [rRel]
  refine ⟨?_, by rw [hkeys]; exact A.rise, fun e he => ?_, fun k hk => ?_, fun k hk => ?_⟩
  · show (relFold t T.ks T).2 = _
    rw [h1]
    exact A.flat I (fun _ l => (relL l t).2) fun _ => by rw [relL_nil]
  · obtain ⟨e', he', rfl⟩ := List.mem_map.1 he
    rw [hF, A.at_ e' he']
  · rw [hkeys] at hk
    rw [hF, A.out k hk, relL_nil]
  · rw [hkeys]
    have h4 : k ∈ (relFold t T.ks T).1.ks := hk
    exact (h3 k h4).elim (A.ks k) (A.ks k)

theorem atI_spec : ∀ (L : RT) (k : Ky), atI L k ≤ L.length ∧ (∀ (j : Nat) e, j < atI L k → L[j]? = some e → kltB e.1 k = true) ∧ ∀ e, L[atI L k]? = some e → kltB e.1 k = false
  | [], k => ⟨by simp [atI], by simp [atI], by simp⟩
  | x :: r, k => by
    obtain ⟨h1, h2, h3⟩ := atI_spec r k
    cases hx : kltB x.1 k with
    | false =>
      have h0 : atI (x :: r) k = 0 := by simp [atI, List.takeWhile_cons, hx]
      rw [h0]
      exact ⟨Nat.zero_le _, fun j e hj => absurd hj (Nat.not_lt_zero _), fun e he => by simp at he; rw [← he]; exact hx⟩
    | true =>
      have h0 : atI (x :: r) k = atI r k + 1 := by simp [atI, List.takeWhile_cons, hx]
      rw [h0]
      refine ⟨by simpa using h1, fun j e hj he => ?_, fun e he => h3 e (by simpa using he)⟩
      rcases j with _ | j
      · simp at he; rw [← he]; exact hx
      · exact h2 j e (by omega) (by simpa using he)
theorem atL_rise {L : RT} (hr : (L.map (·.1)).Pairwise KLt) (k : Ky) : ((atL L k).map (·.1)).Pairwise KLt ∧ ∀ x, x ∈ (atL L k).map (·.1) ↔ x = k ∨ x ∈ L.map (·.1) := by
  obtain ⟨h1, h2, h3⟩ := atI_spec L k
  rw [atL]
  split
  · rename_i h
    obtain ⟨e, he, hk⟩ := Option.map_eq_some_iff.1 h
    refine ⟨hr, fun x => ⟨.inr, fun h => h.elim (fun e' => ?_) id⟩⟩
    rw [e', ← hk]
    exact List.mem_map.2 ⟨e, List.mem_of_getElem? he, rfl⟩
  · rename_i hne
    have hsplit : L.map (·.1) = (L.take (atI L k)).map (·.1) ++ (L.drop (atI L k)).map (·.1) := by rw [← List.map_append, List.take_append_drop]
    rw [hsplit, List.pairwise_append] at hr
    obtain ⟨r1, r2, r3⟩ := hr
    have hlt : ∀ x ∈ (L.take (atI L k)).map (·.1), KLt x k := fun x hx => by
      obtain ⟨e, he, rfl⟩ := List.mem_map.1 hx
      obtain ⟨j, hj, hje⟩ := List.mem_iff_getElem.1 he
      rw [List.length_take] at hj
      have := h2 j e (by omega) (by rw [List.getElem_take] at hje; rw [List.getElem?_eq_getElem (by omega), hje])
      simpa [kltB] using this
    have hgt : ∀ x ∈ (L.drop (atI L k)).map (·.1), KLt k x := by
      cases hd : L.drop (atI L k) with
      | nil => simp
      | cons e s =>
        have he : L[atI L k]? = some e := by have := congrArg (fun l => l[0]?) hd; simpa [List.getElem?_drop] using this
        have h4 := h3 e he
        rw [he] at hne
        have h5 : KLt k e.1 := by
          by_cases hk : KLt k e.1
          · exact hk
          · exact absurd (by simp [KLt.total (by simpa [kltB] using h4) hk]) hne
        rw [hd, List.map_cons, List.pairwise_cons] at r2
        intro x hx
        rw [List.map_cons, List.mem_cons] at hx
        rcases hx with rfl | hx
        · exact h5
        · exact KLt.trans h5 (r2.1 x hx)
    refine ⟨?_, fun x => ?_⟩
    · rw [List.map_append, List.map_cons, List.pairwise_append, List.pairwise_cons]
      refine ⟨r1, ⟨hgt, r2⟩, fun a ha b hb => ?_⟩
      rcases List.mem_cons.1 hb with rfl | hb
      · exact hlt a ha
      · exact r3 a ha b hb
    · rw [hsplit, List.map_append, List.map_cons, List.mem_append, List.mem_append, List.mem_cons]
      constructor
      · rintro (h | h | h)
        · exact .inr (.inl h)
        · exact .inl h
        · exact .inr (.inr h)
      · rintro (h | h | h)
        · exact .inr (.inl h)
        · exact .inl h
        · exact .inr (.inr h)
theorem Agr.at {T : Tb} {L : RT} (A : Agr T L) (k : Ky) : Agr T (atL L k) := by
  obtain ⟨h1, h2⟩ := atL_rise A.rise k
  refine ⟨h1, fun e he => ?_, fun x hx => A.out x fun h => hx ((h2 x).2 (.inr h)), fun x hx => (h2 x).2 (.inr (A.ks x hx))⟩
  rw [atL] at he
  split at he
  · exact A.at_ e he
  · rename_i hne
    rcases List.mem_append.1 he with he | he
    · exact A.at_ e (List.mem_of_mem_take he)
    · rcases List.mem_cons.1 he with rfl | he
      · refine A.out k fun hk => hne ?_
        obtain ⟨e, he2, rfl⟩ := List.mem_map.1 hk
        obtain ⟨i, hi, hei⟩ := List.mem_iff_getElem.1 he2
        have : atI L e.1 = i := atI_eq (by omega) (fun j z hj hz => by
          obtain ⟨hj2, hz2⟩ := List.getElem?_eq_some_iff.1 hz
          have hr := List.pairwise_iff_getElem.1 A.rise j i (by rw [List.length_map]; omega) (by rw [List.length_map]; exact hi) hj
          simp only [List.getElem_map, hz2, hei] at hr
          simpa [kltB] using hr) (fun z hz => by
          rw [List.getElem?_eq_getElem hi, hei] at hz
          cases hz
          have := KLt.irrefl e.1
          simpa [kltB] using this)
        rw [this, List.getElem?_eq_getElem hi, hei]; rfl
      · exact A.at_ e (List.mem_of_mem_drop he)
theorem Agr.put {T : Tb} {L : RT} (A : Agr T L) {i : Nat} {k : Ky} {l l' : Lk} (hi : L[i]? = some (k, l)) (ks' hs' : _) (W' : _) (hks : ∀ x ∈ ks', x = k ∨ x ∈ T.ks) : Agr ⟨ks', setF T.F k l', hs', W'⟩ (L.set i (k, l')) := by
  obtain ⟨hil, hie⟩ := List.getElem?_eq_some_iff.1 hi
  have hkeys : (L.set i (k, l')).map (·.1) = L.map (·.1) := by
    apply List.ext_getElem?
    intro j
    rw [List.getElem?_map, List.getElem?_map, List.getElem?_set]
    by_cases hij : i = j
    · subst hij; simp [hil, hie]
    · simp [hij]
  have hkm : k ∈ L.map (·.1) := List.mem_map.2 ⟨(k, l), List.mem_of_getElem? hi, rfl⟩
  refine ⟨by rw [hkeys]; exact A.rise, fun e he => ?_, fun x hx => ?_, fun x hx => ?_⟩
  · obtain ⟨j, hj, hje⟩ := List.mem_iff_getElem.1 he
    rw [List.length_set] at hj
    rw [List.getElem_set] at hje
    by_cases hij : i = j
    · rw [if_pos hij] at hje
      subst hje
      simp [setF]
    · rw [if_neg hij] at hje
      have hne : e.1 ≠ k := fun h => by
        have hl := List.pairwise_iff_getElem.1 A.rise
        rcases Nat.lt_or_gt_of_ne hij with h1 | h1
        · have := hl i j (by rw [List.length_map]; exact hil) (by rw [List.length_map]; exact hj) h1
          simp only [List.getElem_map, hie, hje, h] at this
          exact KLt.irrefl _ this
        · have := hl j i (by rw [List.length_map]; exact hj) (by rw [List.length_map]; exact hil) h1
          simp only [List.getElem_map, hie, hje, h] at this
          exact KLt.irrefl _ this
      simp only [setF, if_neg hne]
      exact A.at_ e (by rw [← hje]; exact List.getElem_mem _)
  · rw [hkeys] at hx
    have hne : x ≠ k := fun e => hx (e ▸ hkm)
    simp only [setF, if_neg hne]
    exact A.out x hx
  · rw [hkeys]
    rcases hks x hx with rfl | h
    · exact hkm
    · exact A.ks x h
/-- Ask. -/
theorem Agr.ask {T : Tb} {L : RT} (A : Agr T L) (I : Inv T) (t : Int) (k : Ky) (m : Int) {l : Lk} (hget : (atL L k)[atI L k]? = some (k, l)) :
    (askT T t k m).1 = (rAskAt (atL L k) (atI L k) t k l (askM m)).1 ∧ Agr (askT T t k m).2 (rAskAt (atL L k) (atI L k) t k l (askM m)).2 := by
  have A1 := A.at k
  have hl : T.F k = l := A1.at_ _ (List.mem_of_getElem? hget)
  have hW := A1.waits I t
  unfold askT rAskAt
  rw [hl, hW]
  split
  · exact ⟨rfl, A1⟩
  · split
    · exact ⟨rfl, A1⟩
    · have hins : ∀ x ∈ insK T.ks k, x = k ∨ x ∈ T.ks := fun x => (insK_mem T.ks k x).1
      split
      · exact ⟨rfl, A1.put hget _ _ _ hins⟩
      · exact ⟨rfl, A1.put hget _ _ _ hins⟩

/-- Whom x waits for at a place of a lock's line. -/
def rBlk (x : Int) (l : Lk) (j : Nat) : List (Int × Int) := if (l.2.getD j (0, 0)).1 = x then (blkL l.1 l.2 j).map fun o => (x, o) else []
def rEdgL (x : Int) (l : Lk) : List (Int × Int) := (List.range l.2.length).flatMap (rBlk x l)
def rWho (L : RT) : List Int := canon (L.flatMap fun e => e.2.2.map (·.1))
/-- Edges, of the document's. -/
def rEdges (L : RT) : List (Int × Int) := (rWho L).flatMap fun x => L.flatMap fun e => rEdgL x e.2
theorem flat_none {α β : Type} {f : α → List β} {l : List α} (h : ∀ x ∈ l, f x = []) : l.flatMap f = [] := List.flatMap_eq_nil_iff.2 h
theorem flat_one {α β : Type} {f : α → List β} : ∀ {l : List α} {i : Nat} {x : α}, l[i]? = some x → (∀ (j : Nat) y, j ≠ i → l[j]? = some y → f y = []) → l.flatMap f = f x
  | [], i, x, h, _ => by simp at h
  | a :: r, 0, x, h, hN => by
    simp only [List.getElem?_cons_zero, Option.some.injEq] at h
    subst h
    rw [List.flatMap_cons, flat_none, List.append_nil]
    intro y hy
    obtain ⟨j, hj, e⟩ := List.mem_iff_getElem.1 hy
    exact hN (j + 1) y (by omega) (by rw [List.getElem?_cons_succ, List.getElem?_eq_getElem hj, e])
  | a :: r, i + 1, x, h, hN => by
    rw [List.flatMap_cons, hN 0 a (by omega) rfl, List.nil_append]
    exact flat_one (by simpa using h) fun j y hj hy => hN (j + 1) y (by omega) (by simpa using hy)
theorem Agr.edges {T : Tb} {L : RT} (A : Agr T L) (I : Inv T) (hri : T.hs.Pairwise (· < ·)) : edgT T = rEdges L := by
  have hwho : T.hs = rWho L := by
    refine canon_of hri fun x => ?_
    rw [I.hs, List.mem_flatMap]
    constructor
    · intro h
      obtain ⟨⟨k, m⟩, hW⟩ := Option.ne_none_iff_exists'.1 h
      have hin := (I.line k x m).2 hW
      have hk : k ∈ L.map (·.1) := by
        by_cases h : k ∈ L.map (·.1)
        · exact h
        · rw [A.out k h] at hin; cases hin
      obtain ⟨e, he, rfl⟩ := List.mem_map.1 hk
      rw [A.at_ e he] at hin
      exact ⟨e, he, List.mem_map.2 ⟨_, hin, rfl⟩⟩
    · rintro ⟨e, he, hx⟩
      obtain ⟨⟨x', m⟩, hp, rfl⟩ := List.mem_map.1 hx
      have := (I.line e.1 x' m).1 (by rw [A.at_ e he]; exact hp)
      rw [this]; simp
  rw [edgT, rEdges, ← hwho]
  have key : ∀ s : List Int, (∀ x ∈ s, x ∈ T.hs) → s.flatMap (edgO T) = s.flatMap fun x => L.flatMap fun e => rEdgL x e.2 := fun s => by
    induction s with
    | nil => intro _; rfl
    | cons x s ih =>
      intro hs
      rw [List.flatMap_cons, List.flatMap_cons, ih fun y hy => hs y (List.mem_cons_of_mem _ hy)]
      congr 1
      obtain ⟨⟨k, m⟩, hW⟩ := Option.ne_none_iff_exists'.1 ((I.hs x).1 (hs x (by simp)))
      have hin := (I.line k x m).2 hW
      have hk : k ∈ L.map (·.1) := by
        by_cases h : k ∈ L.map (·.1)
        · exact h
        · rw [A.out k h] at hin; cases hin
      obtain ⟨e, he, rfl⟩ := List.mem_map.1 hk
      obtain ⟨i, hi, hei⟩ := List.mem_iff_getElem.1 he
      have hno : ∀ z ∈ L, z ≠ e → rEdgL x z.2 = [] := fun z hz hne => flat_none fun j hj => by
        rw [List.mem_range] at hj
        rw [rBlk, if_neg]
        intro hx
        have hmem : z.2.2.getD j (0, 0) ∈ z.2.2 := by rw [getD_eq _ hj]; exact List.getElem_mem _
        have := (I.line z.1 (z.2.2.getD j (0, 0)).1 (z.2.2.getD j (0, 0)).2).1 (by rw [A.at_ z hz]; exact hmem)
        rw [hx, hW] at this
        simp only [Option.some.injEq, Prod.mk.injEq] at this
        refine hne ?_
        have h1 := A.at_ z hz
        have h2 := A.at_ e he
        rw [← this.1, h2] at h1
        exact Prod.ext this.1.symm h1.symm
      have hedge : (L.flatMap fun e => rEdgL x e.2) = rEdgL x e.2 := by
        refine flat_one (f := fun e : Ky × Lk => rEdgL x e.2) (i := i) (by rw [List.getElem?_eq_getElem hi, hei]) fun j y hj hy => hno y (List.mem_of_getElem? hy) ?_
        rintro rfl
        obtain ⟨hj2, hy2⟩ := List.getElem?_eq_some_iff.1 hy
        have hl := List.pairwise_iff_getElem.1 A.rise
        rcases Nat.lt_or_gt_of_ne hj with h1 | h1
        · have := hl j i (by rw [List.length_map]; exact hj2) (by rw [List.length_map]; exact hi) h1
          simp only [List.getElem_map, hy2, hei] at this
          exact KLt.irrefl _ this
        · have := hl i j (by rw [List.length_map]; exact hi) (by rw [List.length_map]; exact hj2) h1
          simp only [List.getElem_map, hy2, hei] at this
          exact KLt.irrefl _ this
      rw [hedge, edgO, blkT, hW]
      simp only
      rw [A.at_ e he] at hin ⊢
      obtain ⟨p1, _, p3, p4⟩ := posL_in hin
      rw [rEdgL]
      have hq := (I.lk e.1).q.nod
      rw [A.at_ e he] at hq
      rw [flat_one (f := rBlk x e.2) (i := posL e.2.2 x) (x := posL e.2.2 x) (by rw [List.getElem?_range p1]) fun j y hj hy => ?_, rBlk, if_pos p3]
      obtain ⟨hj2, hy2⟩ := List.getElem?_eq_some_iff.1 hy
      rw [List.getElem_range] at hy2
      subst hy2
      rw [List.length_range] at hj2
      rw [rBlk, if_neg]
      intro hx
      rw [getD_eq _ hj2] at hx
      rw [getD_eq _ p1] at p3
      have hpw := List.pairwise_iff_getElem.1 hq
      rcases Nat.lt_or_gt_of_ne hj with h1 | h1
      · exact hpw j (posL e.2.2 x) (by rw [List.length_map]; exact hj2) (by rw [List.length_map]; exact p1) h1 (by rw [List.getElem_map, List.getElem_map, hx, p3])
      · exact hpw (posL e.2.2 x) j (by rw [List.length_map]; exact p1) (by rw [List.length_map]; exact hj2) h1 (by rw [List.getElem_map, List.getElem_map, hx, p3])
  exact key T.hs fun x h => h
end Go.Proofs.Ytilknhackmccpaa

set_option linter.unusedVariables false
set_option linter.unusedSimpArgs false
namespace Go.Proofs.Ytilknhackmccpaa
open Go.RowKit Go.Sort Go.Lib Go.Maps

section
variable {w w' : World} {RB : Nat} {v : Value} {P : List RL} {L : RT}
theorem RTab.nums {base : Nat} {u : Value} {zs : List Int} (S : RTab w RB v P L) (O : w.ownsInts base 23 .u32 u zs) (hg : w.grownBy w' u.ownBlock) : RTab w' RB v P L := by
  rcases O.1.2 with ⟨rfl, _⟩ | ⟨g, cap, cur, rfl, _, hh, _⟩
  · exact S.below (B := w.heap.size) ⟨hg.os, hg.tape, hg.output, hg.size, fun i hi => hg.block i hi (by simp [Value.ownBlock])⟩ (Nat.le_refl _)
  · refine S.other (X := g) hg (by rintro rfl; have := S.cell; rw [hh] at this; cases this) (fun e => ?_) (by rintro ⟨cs', fr', h⟩; rw [hh] at h; cases h)
    rcases S.row.2 with ⟨rfl, _⟩ | ⟨g', cap', cur', rfl, _, h2, _⟩
    · cases e
    · obtain rfl : g' = g := Option.some.inj e
      rw [hh] at h2; cases h2
theorem WantsR.nums {base : Nat} {u x : Value} {zs : List Int} {l : List (Int × Int)} (S : WantsR w x l) (O : w.ownsInts base 23 .u32 u zs) (hg : w.grownBy w' u.ownBlock) : WantsR w' x l := by
  refine S.same fun eb he => hg.block eb he.lt fun e => ?_
  obtain ⟨cs, fr, h⟩ := nums_block O e.symm
  obtain ⟨cs', fr', h'⟩ := he
  rw [h] at h'; cases h'
/-- A box of a lock. -/
def RBox (w : World) (L0 : Nat) (k : Ky) (va vb : Value) : Prop := w.heap[L0]? = some (.cells #[.int .u8 k.1, .int .u32 k.2.1, .int .u32 k.2.2, va, vb] 97)
/-- A release of a lock under way. -/
structure Rs (w0 : World) (RB : Nat) (v : Value) (P : List RL) (L : RT) (N o L0 : Nat) (k : Ky) (u : Value) (zs : List Int) (va vb : Value) (h l : List (Int × Int)) (w : World) : Prop where
  tab : RTab w RB v P L
  out : w.ownsInts N 23 .u32 u zs
  two : Two RB o w0 w
  box : RBox w L0 k va vb
  wa : WantsR w va h
  wb : WantsR w vb l
  hL : v.ownBlock ≠ some L0
  hN : w0.heap.size ≤ L0
  hO : w0.heap.size ≤ N
variable {w0 : World} {N o L0 : Nat} {k : Ky} {u : Value} {zs : List Int} {va vb : Value} {h l : List (Int × Int)}
theorem Rs.lt (R : Rs w0 RB v P L N o L0 k u zs va vb h l w) : L0 < w.heap.size := (Array.getElem?_eq_some_iff.1 R.box).1
theorem Rs.low (R : Rs w0 RB v P L N o L0 k u zs va vb h l w) : w0.heap.size ≤ w.heap.size := R.two.size
theorem Rs.below (R : Rs w0 RB v P L N o L0 k u zs va vb h l w) (b : RowKit.Below w.heap.size w w') : Rs w0 RB v P L N o L0 k u zs va vb h l w' :=
  ⟨R.tab.below b (Nat.le_refl _), R.out.kept (grew b) (Classical.em _), R.two.row (grew b) (by simp), (b.block L0 R.lt).trans R.box, R.wa.keep b (Nat.le_refl _), R.wb.keep b (Nat.le_refl _), R.hL, R.hN, R.hO⟩
theorem Rs.c3 (R : Rs w0 RB v P L N o L0 k u zs va vb h l w) : w.cell? ⟨L0, 3, none⟩ = some va ∧ w.frozen? ⟨L0, 3, none⟩ = false := ⟨by rw [cell_of_heap R.box]; rfl, by have := R.box; unfold RBox at this; simp [World.frozen?, this]⟩
theorem Rs.c4 (R : Rs w0 RB v P L N o L0 k u zs va vb h l w) : w.cell? ⟨L0, 4, none⟩ = some vb ∧ w.frozen? ⟨L0, 4, none⟩ = false := ⟨by rw [cell_of_heap R.box]; rfl, by have := R.box; unfold RBox at this; simp [World.frozen?, this]⟩
theorem Rs.off (R : Rs w0 RB v P L N o L0 k u zs va vb h l w) : ¬ WBR w L0 ∧ L0 ≠ RB ∧ u.ownBlock ≠ some L0 := by
  have hb := R.box
  unfold RBox at hb
  refine ⟨?_, ?_, fun e => ?_⟩
  · rintro ⟨cs, fr, he⟩
    rw [hb] at he
    cases he
  · rintro rfl
    have := R.tab.cell
    rw [hb] at this
    cases this
  · obtain ⟨cs, fr, h⟩ := nums_block R.out e
    rw [hb] at h
    cases h
theorem Rs.set (R : Rs w0 RB v P L N o L0 k u zs va vb h l w) (j : Nat) (x : Value) (va' vb' : Value) (h' l' : List (Int × Int)) (hb : RBox (w.setCell ⟨L0, j, none⟩ x) L0 k va' vb') (ha : WantsR w va' h') (hl : WantsR w vb' l') : Rs w0 RB v P L N o L0 k u zs va' vb' h' l' (w.setCell ⟨L0, j, none⟩ x) := by
  have gs := grown_set w L0 j x
  obtain ⟨h1, h2, h3⟩ := R.off
  have hs : ∀ eb, WBR w eb → (w.setCell ⟨L0, j, none⟩ x).heap[eb]? = w.heap[eb]? := fun eb he => gs.block eb he.lt fun e => by
    obtain rfl : eb = L0 := Option.some.inj e
    exact h1 he
  exact ⟨R.tab.other gs h2 R.hL h1, R.out.kept gs (.inr h3), R.two.row gs (by intro g hg; cases hg; exact R.hN), hb, ha.same hs, hl.same hs, R.hL, R.hN, R.hO⟩
theorem Rs.set3 (R : Rs w0 RB v P L N o L0 k u zs va vb h l w) {va' : Value} {h' : List (Int × Int)} (ha : WantsR w va' h') : Rs w0 RB v P L N o L0 k u zs va' vb h' l (w.setCell ⟨L0, 3, none⟩ va') :=
  R.set 3 va' va' vb h' l (by have := R.box; unfold RBox at this ⊢; simp [World.setCell, Array.getElem?_modify, this]) ha R.wb
theorem Rs.set4 (R : Rs w0 RB v P L N o L0 k u zs va vb h l w) {vb' : Value} {l' : List (Int × Int)} (hl : WantsR w vb' l') : Rs w0 RB v P L N o L0 k u zs va vb' h l' (w.setCell ⟨L0, 4, none⟩ vb') :=
  R.set 4 vb' va vb' h l' (by have := R.box; unfold RBox at this ⊢; simp [World.setCell, Array.getElem?_modify, this]) R.wa hl
theorem Rs.more (R : Rs w0 RB v P L N o L0 k u zs va vb h l w) {u' : Value} {zs' : List Int} (hg : w.grownBy w' u.ownBlock) (O : w'.ownsInts N 23 .u32 u' zs') : Rs w0 RB v P L N o L0 k u' zs' va vb h l w' :=
  ⟨R.tab.nums R.out hg, O, R.two.row hg (fun g e => Nat.le_trans R.hO (row_ge R.out.1 g e).1), (hg.block L0 R.lt (fun e => R.off.2.2 e.symm)).trans R.box, R.wa.nums R.out hg, R.wb.nums R.out hg, R.hL, R.hN, R.hO⟩
end

def relTo (L : RT) (t : Int) (i : Nat) : RT := (L.take i).map (fun e => (e.1, (relL e.2 t).1)) ++ L.drop i
def relOut (L : RT) (t : Int) (i : Nat) : List Int := (L.take i).flatMap fun e => (relL e.2 t).2
theorem relTo_len (L : RT) (t : Int) (i : Nat) : (relTo L t i).length = L.length := by simp [relTo]; omega
theorem relTo_get (L : RT) (t : Int) {i : Nat} (hi : i < L.length) : (relTo L t i)[i]? = L[i]? := by
  rw [relTo, List.getElem?_append_right (by simp; omega)]
  simp only [List.length_map, List.length_take, List.getElem?_drop]
  congr 1; omega
theorem relTo_succ {L : RT} {t : Int} {i : Nat} {k : Ky} {l : Lk} (h : L[i]? = some (k, l)) : relTo L t (i + 1) = (relTo L t i).set i (k, (relL l t).1) := by
  obtain ⟨hi, e⟩ := List.getElem?_eq_some_iff.1 h
  have hl : ((L.take i).map (fun e => (e.1, (relL e.2 t).1))).length = i := by simp; omega
  have hd : L.drop i = (k, l) :: L.drop (i + 1) := by rw [List.drop_eq_getElem_cons hi, e]
  rw [relTo, relTo, List.take_succ_eq_append_getElem hi, List.map_append, e, hd, List.set_append_right _ _ (by omega), hl, Nat.sub_self]
  simp
theorem relOut_succ {L : RT} {t : Int} {i : Nat} {k : Ky} {l : Lk} (h : L[i]? = some (k, l)) : relOut L t (i + 1) = relOut L t i ++ (relL l t).2 := by
  obtain ⟨hi, e⟩ := List.getElem?_eq_some_iff.1 h
  rw [relOut, relOut, List.take_succ_eq_append_getElem hi, List.flatMap_append, e]
  simp
theorem relTo_same {L : RT} {t : Int} {i : Nat} {k : Ky} {l : Lk} (h : L[i]? = some (k, l)) (hr : relL l t = (l, [])) : relTo L t (i + 1) = relTo L t i ∧ relOut L t (i + 1) = relOut L t i := by
  have hi := (List.getElem?_eq_some_iff.1 h).1
  rw [relTo_succ h, relOut_succ h, hr]
  refine ⟨?_, by simp⟩
  have := (relTo_get L t hi).trans h
  obtain ⟨hj, e⟩ := List.getElem?_eq_some_iff.1 this
  rw [← e, List.set_getElem_self]
theorem relOut_len {L : RT} {t : Int} {n0 : Nat} (h : ∀ e ∈ L, (relL e.2 t).2.length ≤ n0) : ∀ i, (relOut L t i).length ≤ i * n0
  | 0 => by simp [relOut]
  | i + 1 => by
    have ih := relOut_len h i
    by_cases hi : i < L.length
    · obtain ⟨⟨k, l⟩, he⟩ : ∃ e, L[i]? = some e := ⟨_, List.getElem?_eq_getElem hi⟩
      rw [relOut_succ he, List.length_append, Nat.add_mul, Nat.one_mul]
      have := h _ (List.mem_of_getElem? he)
      simp only at this
      omega
    · have : relOut L t (i + 1) = relOut L t i := by rw [relOut, relOut, List.take_of_length_le (by omega), List.take_of_length_le (by omega)]
      rw [this, Nat.add_mul]
      omega
theorem relTo_all (L : RT) (t : Int) : relTo L t L.length = (rRel L t).1 ∧ relOut L t L.length = (rRel L t).2 := by
  rw [relTo, relOut, List.take_length, List.drop_length, List.append_nil]
  exact ⟨rfl, rfl⟩
theorem relL_len (l : Lk) (t : Int) (hu : ∀ x ∈ l.2, U x.1) : (relL l t).2.length ≤ l.2.length := by
  unfold relL
  split
  · simp
  · have key : ∀ (n : Nat) (l : Lk), (wake n l).2.length ≤ l.2.length := by
      intro n
      induction n with
      | zero => intro l; simp [wake]
      | succ n ih =>
        intro l
        obtain ⟨h, r⟩ := l
        cases r with
        | nil => simp [wake]
        | cons x r =>
          simp only [wake]
          split
          · have := ih (notL h x.1 ++ [x], notL (x :: r) x.1)
            have h2 := notL_cons_lt x r
            simp only [List.length_cons] at this ⊢
            omega
          · simp
    exact Nat.le_trans (key _ _) (notL_length _ _)
theorem lenAt_box {w : World} {L0 n c : Nat} {k : Ky} {va : Value} {a : Option Addr} (h : RBox w L0 k va (.slice a n c)) : lenAt w L0 4 = n := by
  have : w.cell? ⟨L0, 4, none⟩ = some (.slice a n c) := by rw [cell_of_heap h]; rfl
  simp [lenAt, this]
end Go.Proofs.Ytilknhackmccpaa

set_option linter.unusedVariables false
set_option linter.unusedSimpArgs false
namespace Go.Proofs.Ytilknhackmccpaa
open Go.RowKit Go.Sort Go.Lib Go.Maps

/-- A list of numbers, to be read, in a block of numbers. -/
def ReadT (w : World) (v : Value) (l : List Int) : Prop := ReadN w v l ∧ ∀ g, v.ownBlock = some g → ∃ cs fr, w.heap[g]? = some (.cells cs 23 fr)
theorem ReadT.below {w w' : World} {v : Value} {l : List Int} {B : Nat} (h : ReadT w v l) (hb : RowKit.Below B w w') (hB : w.heap.size ≤ B) : ReadT w' v l :=
  ⟨h.1.below hb hB, fun g hg => by
    obtain ⟨cs, fr, e⟩ := h.2 g hg
    exact ⟨cs, fr, (hb.block g (Nat.lt_of_lt_of_le (Array.getElem?_eq_some_iff.1 e).1 hB)).trans e⟩⟩
theorem readT_own {w : World} {l : List Int} {v : Value} {base : Nat} (O : w.ownsInts base 23 .u32 v l) : ReadT w v l := ⟨readN_own O, fun g hg => nums_block O hg⟩
theorem readT_nil (w : World) : ReadT w (.slice none 0 0) [] := ⟨⟨by simp, .inl ⟨rfl, rfl⟩⟩, fun g hg => by cases hg⟩

set_option maxRecDepth 100000 in
set_option maxHeartbeats 8000000 in
theorem into_r (v : Value) (l : List Int) (x : Int) (w : World) (hv : ReadT w v l) (ux : U x) (hl : l.length < 100000) :
    Calls Try.prog 24 #[v, .int .u32 x] w fun e w' => ∃ v', e = .returned v' ∧ ReadT w' v' (insI x l) ∧ RowKit.Below w.heap.size w w' := by
  obtain ⟨i0, hi0, hz0, hz1, hz2⟩ := info_parts info_u
  obtain ⟨BA, hBA⟩ : ∃ b, w.heap.size = b := ⟨_, rfl⟩
  rcases hv.1.2 with ⟨rfl, rfl⟩ | ⟨g, cap, rfl, hc, hm, hg, hcs, hcell⟩
  · rw [hBA]
    have hB0 : BA ≤ w.heap.size := by omega
    go_enter Try.func24, Try.ntmps24
    go_wp2
    refine wp_loop_rounds 1 ?_
    rw [rounds_succ]
    have hE : ∀ (W : World) a, Nums W a ([] : List Int) := fun _ _ h => absurd rfl h
    go_upto_region 8 with (at_builtin; refine wpList_append_n rfl (.tmp 34) (.tmp 37) rfl BA _ [] rfl (World.ownsInts_nil _ _ _ _) none 0 0 [] rfl (hE _ _) (by simp) rfl (by simp) hB0 ?_; intro v1 w6 ho1 g1)
    rw [List.nil_append] at ho1
    have g1n : w.grownBy w6 none := g1
    have hB6 : BA ≤ w6.heap.size := by have := g1.size; omega
    have hnc6 := Lib.hid (heap_alloc_new w6 (.cells #[.int .u32 x] 23))
    have ho1a := Lib.hid (ho1.alloc (.cells #[.int .u32 x] 23))
    have hB6a : BA ≤ (w6.alloc (.cells #[.int .u32 x] 23)).heap.size := by simp; omega
    go_upto_region 9 with (at_builtin; refine wpList_append_n rfl (.tmp 39) (.tmp 41) rfl BA v1 [] rfl ho1a.out (some ⟨w6.heap.size, 0, none⟩) 1 1 [x] rfl (nums_one hnc6.out) (by intro z hz; rw [List.mem_singleton.1 hz]; exact ux) rfl (by simp) hB6a ?_; intro v2 w7 ho2 g2)
    have gA7 : w.grownBy w7 none := g1n.andThen ((World.grownBy_alloc w6 _ _).trans g2) (fun j hj => .inl (by have := (row_ge ho1.1 j hj).1; omega))
    have hB7 : BA ≤ w7.heap.size := by have := gA7.size; omega
    replace ho2 := Lib.hid ho2
    replace gA7 := Lib.hid gA7
    clear g1 g1n g2 ho1 ho1a hnc6
    go_wp2_with (at_builtin; refine wpList_append_n rfl (.tmp 43) (.tmp 46) rfl BA v2 ([] ++ [x]) rfl ho2.out none 0 0 [] rfl (hE _ _) (by simp) rfl (by simp) hB7 ?_; intro v3 w8 ho3 g3)
    go_ret
    have gg : w.grownBy w8 none := gA7.out.andThen g3 (fun j hj => .inl (by have := (row_ge ho2.out.1 j hj).1; omega))
    exact ⟨_, rfl, readT_own ho3, ⟨gg.os, gg.tape, gg.output, gg.size, fun i hi => gg.block i (by omega) (by simp)⟩⟩
  · obtain ⟨n, hn⟩ : ∃ n, l.length = n := ⟨_, rfl⟩
    rw [hn] at hc hcell hl ⊢
    rw [hBA]
    have hnc : (n : Int) ≤ (cap : Int) := by omega
    have hcm : cap ≤ 9223372036854775807 := by unfold maxLen at hm; omega
    have hv' := Lib.hid hv
    have hcs' := Lib.hid hcs
    have hcl := Lib.hid hcell
    clear hv hcs hcell
    go_enter Try.func24, Try.ntmps24
    go_upto_block 0 with fail
    go_cut [5] from 7 to 20 (fun v5 wx => ∃ k : Nat, v5 = .int .i64 k ∧ k ≤ n ∧ wx = w ∧ Hid ((∀ j, j < k → l.getD j 0 < x) ∧ (k < n → x ≤ l.getD k 0)))
    case first =>
      have hL0 : Hid (∀ j, j < 0 → l.getD j 0 < x) := Lib.hid fun j hj => absurd hj (Nat.not_lt_zero _)
      go_wp2_with fail
      go_loopw [5] (fun v5 wr => ∃ k : Nat, v5 = .int .i64 k ∧ k ≤ n ∧ wr = w ∧ Hid (∀ j, j < k → l.getD j 0 < x)) (fun v5 _ => n - (intOf v5).toNat)
      case atStart => exact ⟨0, rfl, Nat.zero_le _, rfl, hL0⟩
      case round =>
        clear hL0
        obtain ⟨k, rfl, hk, rfl, hL⟩ := hrel
        by_cases hkn : k < n
        · have hki : (k : Int) < (n : Int) := by omega
          have ck := hcl.out k hkn
          obtain ⟨y, hy⟩ : ∃ y, l.getD k 0 = y := ⟨_, rfl⟩
          rw [hy] at ck
          replace hy := Lib.hid hy
          by_cases hyx : y < x
          · have hL2 : Hid (∀ j, j < k + 1 → l.getD j 0 < x) := Lib.hid fun j hj => by
              rcases Nat.lt_or_ge j k with h | h
              · exact hL.out j h
              · rw [show j = k by omega, hy.out]; exact hyx
            go_wp2
            go_roundw
            case rel => exact ⟨k + 1, by go_num, by omega, by first | rfl | trivial, hL2⟩
            case measure => simp [intOf]; omega
          · have hF : Hid ((∀ j, j < k → l.getD j 0 < x) ∧ (k < n → x ≤ l.getD k 0)) := Lib.hid ⟨hL.out, fun _ => by rw [hy.out]; omega⟩
            go_wp2
            go_meet
            exact ⟨k, rfl, hk, rfl, hF⟩
        · have hF : Hid ((∀ j, j < k → l.getD j 0 < x) ∧ (k < n → x ≤ l.getD k 0)) := Lib.hid ⟨hL.out, fun h => absurd h hkn⟩
          obtain rfl : k = n := by omega
          go_wp2
          go_meet
          exact ⟨k, rfl, hk, rfl, hF⟩
    case rest =>
    obtain ⟨k, rfl, hk, rfl, hF⟩ := hcut
    have hins := insI_at (t := x) (out := l) (k := k) (by omega) hF.out.1 (fun h => hF.out.2 (by omega))
    rw [hn] at hins
    by_cases heq : k < n ∧ l.getD k 0 = x
    · rw [if_pos heq] at hins
      have hki : (k : Int) < (n : Int) := by omega
      have ck := hcl.out k heq.1
      rw [heq.2] at ck
      replace hins := Lib.hid hins
      replace heq := Lib.hid heq
      replace hF := Lib.hid hF.out
      go_wp2
      go_ret
      refine ⟨_, rfl, ?_, RowKit.Below.refl _ _⟩
      rw [hins.out, ← hn]
      exact hv'.out
    · rw [if_neg heq] at hins
      have hN : Nums wc (some ⟨g, 0, none⟩) l := fun _ => ⟨g, 0, rfl, hg, fun i hi => by rw [Nat.zero_add]; exact hcl.out i (by omega)⟩
      have hU : ∀ z ∈ l, U z := hv'.out.1.1
      have hl1 : (l.take k).length = k := by rw [List.length_take]; omega
      have hl2 : (l.drop k).length = n - k := by rw [List.length_drop, hn]
      have hN1 := hN.take k
      have hki : (k : Int) ≤ (n : Int) := by omega
      have hkc : (k : Int) ≤ (cap : Int) := by omega
      have hB0 : BA ≤ wc.heap.size := by omega
      replace hins := Lib.hid hins
      replace hF := Lib.hid hF.out
      replace hU := Lib.hid hU
      replace hl1 := Lib.hid hl1
      replace hl2 := Lib.hid hl2
      have hX : Hid (∀ w8 v3, w8.ownsInts BA 23 .u32 v3 (l.take k ++ [x] ++ l.drop k) → wc.grownBy w8 none → ∃ v', Ending.returned v3 = .returned v' ∧ ReadT w8 v' (insI x l) ∧ RowKit.Below BA wc w8) := Lib.hid fun w8 v3 h gg =>
        ⟨v3, rfl, by rw [hins.out, ← List.append_assoc]; exact readT_own h, ⟨gg.os, gg.tape, gg.output, gg.size, fun i hi => gg.block i (by omega) (by simp)⟩⟩
      have hgo : k < n → ¬ l.getD k 0 = x := fun h e => heq ⟨h, e⟩
      by_cases hkn : k < n
      · have ck := hcl.out k hkn
        obtain ⟨y, hy⟩ : ∃ y, l.getD k 0 = y := ⟨_, rfl⟩
        rw [hy] at ck
        have hyx : ¬ y = x := by rw [← hy]; exact hgo hkn
        have hki2 : (k : Int) < (n : Int) := by omega
        replace hy := Lib.hid hy
        clear heq hgo
        go_upto_region 8 with (at_builtin; refine wpList_append_n rfl (.tmp 34) (.tmp 37) rfl BA _ [] rfl (World.ownsInts_nil _ _ _ _) (some ⟨g, 0, none⟩) k cap (l.take k) rfl hN1 (fun z hz => hU.out z (List.mem_of_mem_take hz)) hl1.out (by simp; omega) hB0 ?_; intro v1 w6 ho1 g1)
        rw [List.nil_append] at ho1
        have g1n : wc.grownBy w6 none := g1
        have hB6 : BA ≤ w6.heap.size := by have := g1.size; omega
        have hnc6 := Lib.hid (heap_alloc_new w6 (.cells #[.int .u32 x] 23))
        have ho1a := Lib.hid (ho1.alloc (.cells #[.int .u32 x] 23))
        have hB6a : BA ≤ (w6.alloc (.cells #[.int .u32 x] 23)).heap.size := by simp; omega
        have hl6 : (l.take k).length + 1 < 1000000 := by have := hl1.out; omega
        go_upto_region 9 with (at_builtin; refine wpList_append_n rfl (.tmp 39) (.tmp 41) rfl BA v1 (l.take k) rfl ho1a.out (some ⟨w6.heap.size, 0, none⟩) 1 1 [x] rfl (nums_one hnc6.out) (by intro z hz; rw [List.mem_singleton.1 hz]; exact ux) rfl hl6 hB6a ?_; intro v2 w7 ho2 g2)
        have gA7 : wc.grownBy w7 none := g1n.andThen ((World.grownBy_alloc w6 _ _).trans g2) (fun j hj => .inl (by have := (row_ge ho1.1 j hj).1; omega))
        have hN7 : Nums w7 (some ⟨g, 0, none⟩) l := fun _ => ⟨g, 0, rfl, Nat.lt_of_lt_of_le hg gA7.size, fun i hi => by rw [Nat.zero_add]; exact (gA7.cell_far ⟨g, i, none⟩ hg (by simp)).trans (hcl.out i (by omega))⟩
        have hB7 : BA ≤ w7.heap.size := by have := gA7.size; omega
        have hl7 : (l.take k ++ [x]).length + (n - k) < 1000000 := by have := hl1.out; simp only [List.length_append, List.length_cons, List.length_nil]; omega
        replace ho2 := Lib.hid ho2
        replace gA7 := Lib.hid gA7
        clear g1 g1n g2 ho1 ho1a hnc6 hN
        have hcap : ¬ (cap = k) := by omega
        have hD := hN7.drop k
        go_wp2_with (at_builtin; refine wpList_append_n rfl (.tmp 43) (.tmp 46) rfl BA v2 (l.take k ++ [x]) rfl ho2.out (some ⟨g, k, none⟩) (n - k) (cap - k) (l.drop k) rfl hD (fun z hz => hU.out z (List.mem_of_mem_drop hz)) hl2.out hl7 hB7 ?_; intro v3 w8 ho3 g3)
        all_goals (
          go_ret
          exact hX.out _ _ ho3 (gA7.out.andThen g3 (fun j hj => .inl (by have := (row_ge ho2.out.1 j hj).1; omega))))
      · obtain rfl : k = n := by omega
        clear heq hgo
        go_upto_region 8 with (at_builtin; refine wpList_append_n rfl (.tmp 34) (.tmp 37) rfl BA _ [] rfl (World.ownsInts_nil _ _ _ _) (some ⟨g, 0, none⟩) k cap (l.take k) rfl hN1 (fun z hz => hU.out z (List.mem_of_mem_take hz)) hl1.out (by simp; omega) hB0 ?_; intro v1 w6 ho1 g1)
        rw [List.nil_append] at ho1
        have g1n : wc.grownBy w6 none := g1
        have hB6 : BA ≤ w6.heap.size := by have := g1.size; omega
        have hnc6 := Lib.hid (heap_alloc_new w6 (.cells #[.int .u32 x] 23))
        have ho1a := Lib.hid (ho1.alloc (.cells #[.int .u32 x] 23))
        have hB6a : BA ≤ (w6.alloc (.cells #[.int .u32 x] 23)).heap.size := by simp; omega
        have hl6 : (l.take k).length + 1 < 1000000 := by have := hl1.out; omega
        go_upto_region 9 with (at_builtin; refine wpList_append_n rfl (.tmp 39) (.tmp 41) rfl BA v1 (l.take k) rfl ho1a.out (some ⟨w6.heap.size, 0, none⟩) 1 1 [x] rfl (nums_one hnc6.out) (by intro z hz; rw [List.mem_singleton.1 hz]; exact ux) rfl hl6 hB6a ?_; intro v2 w7 ho2 g2)
        have gA7 : wc.grownBy w7 none := g1n.andThen ((World.grownBy_alloc w6 _ _).trans g2) (fun j hj => .inl (by have := (row_ge ho1.1 j hj).1; omega))
        have hN7 : Nums w7 (some ⟨g, 0, none⟩) l := fun _ => ⟨g, 0, rfl, Nat.lt_of_lt_of_le hg gA7.size, fun i hi => by rw [Nat.zero_add]; exact (gA7.cell_far ⟨g, i, none⟩ hg (by simp)).trans (hcl.out i (by omega))⟩
        have hB7 : BA ≤ w7.heap.size := by have := gA7.size; omega
        have hl7 : (l.take k ++ [x]).length + (k - k) < 1000000 := by have := hl1.out; simp only [List.length_append, List.length_cons, List.length_nil]; omega
        replace ho2 := Lib.hid ho2
        replace gA7 := Lib.hid gA7
        clear g1 g1n g2 ho1 ho1a hnc6 hN
        have hD : ∀ a, Nums w7 a (l.drop k) := fun _ h => absurd (List.eq_nil_of_length_eq_zero (by rw [hl2.out]; omega)) h
        by_cases hck : cap = k
        · subst hck
          go_wp2_with (at_builtin; refine wpList_append_n rfl (.tmp 43) (.tmp 46) rfl BA v2 (l.take cap ++ [x]) rfl ho2.out _ _ _ (l.drop cap) rfl (hD _) (fun z hz => hU.out z (List.mem_of_mem_drop hz)) (by rw [hl2.out]; omega) (by omega) hB7 ?_; intro v3 w8 ho3 g3)
          all_goals (
            go_ret
            exact hX.out _ _ ho3 (gA7.out.andThen g3 (fun j hj => .inl (by have := (row_ge ho2.out.1 j hj).1; omega))))
        · have hck2 : (k : Int) < (cap : Int) := by omega
          go_wp2_with (at_builtin; refine wpList_append_n rfl (.tmp 43) (.tmp 46) rfl BA v2 (l.take k ++ [x]) rfl ho2.out _ _ _ (l.drop k) rfl (hD _) (fun z hz => hU.out z (List.mem_of_mem_drop hz)) (by rw [hl2.out]; omega) (by omega) hB7 ?_; intro v3 w8 ho3 g3)
          all_goals (
            go_ret
            exact hX.out _ _ ho3 (gA7.out.andThen g3 (fun j hj => .inl (by have := (row_ge ho2.out.1 j hj).1; omega))))

set_option maxRecDepth 100000 in
set_option maxHeartbeats 8000000 in
theorem blocks_r {w : World} (c1 c2 c3 : Int) (va vb : Value) (h l : List (Int × Int)) (k : Nat) (ha : WantsR w va h) (hb : WantsR w vb l) (hhl : h.length ≤ 40000) (hll : l.length ≤ 40000) (hk : k < l.length) (hu1 : ∀ x ∈ h, U x.1) (hu2 : ∀ x ∈ l, U x.1) :
    Calls Try.prog 58 #[.agg #[.int .u8 c1, .int .u32 c2, .int .u32 c3, va, vb], .int .i64 k] w fun e w' => ∃ v', e = .returned v' ∧ ReadT w' v' (blkL h l k) ∧ RowKit.Below w.heap.size w w' := by
  obtain ⟨a1, q1, rfl, hq1⟩ := ha.shape
  obtain ⟨a2, q2, rfl, hq2⟩ := hb.shape
  obtain ⟨nh, hnh⟩ : ∃ n, h.length = n := ⟨_, rfl⟩
  obtain ⟨nl, hnl⟩ : ∃ n, l.length = n := ⟨_, rfl⟩
  rw [hnh] at ha hhl hq1 ⊢
  rw [hnl] at hb hll hk hq2 ⊢
  obtain ⟨⟨x1, x2⟩, hx⟩ : ∃ x, l.getD k (0, 0) = x := ⟨_, rfl⟩
  have b1 := below_alloc w (.cells #[.int .u8 c1, .int .u32 c2, .int .u32 c3, .slice a1 nh q1, .slice a2 nl q2] 97)
  have n1 := heap_alloc_new w (.cells #[.int .u8 c1, .int .u32 c2, .int .u32 c3, .slice a1 nh q1, .slice a2 nl q2] 97)
  obtain ⟨N, hN⟩ : ∃ N, w.heap.size = N := ⟨_, rfl⟩
  obtain ⟨w1, hw1⟩ : ∃ y, w.alloc (.cells #[.int .u8 c1, .int .u32 c2, .int .u32 c3, .slice a1 nh q1, .slice a2 nl q2] 97) = y := ⟨_, rfl⟩
  have hs1 : w1.heap.size = N + 1 := by rw [← hw1, ← hN]; simp
  rw [hw1, hN] at b1 n1
  rw [hN]
  have b2 := below_alloc w1 (.cells #[.int .u32 x1, .int .u8 x2] 99)
  have n2 := heap_alloc_new w1 (.cells #[.int .u32 x1, .int .u8 x2] 99)
  obtain ⟨w2, hw2⟩ : ∃ y, w1.alloc (.cells #[.int .u32 x1, .int .u8 x2] 99) = y := ⟨_, rfl⟩
  have hs2 : w2.heap.size = N + 2 := by rw [← hw2]; simp [hs1]
  rw [hw2, hs1] at b2 n2
  have n1' := (b2.block N (Nat.lt_succ_self _)).trans n1
  have bT : RowKit.Below N w w2 := b1.trans (b2.mono (Nat.le_succ _))
  have hfar : Hid (∀ wx, RowKit.Below (N + 2) w2 wx → wx.cell? ⟨N, 3, none⟩ = some (.slice a1 nh q1) ∧ wx.cell? ⟨N, 4, none⟩ = some (.slice a2 nl q2) ∧ wx.cell? ⟨N + 1, 0, none⟩ = some (.int .u32 x1) ∧ wx.cell? ⟨N + 1, 1, none⟩ = some (.int .u8 x2) ∧ WantsR wx (.slice a1 nh q1) h ∧ WantsR wx (.slice a2 nl q2) l) := Lib.hid fun wx b => by
    have e1 := (b.block N (by omega)).trans n1'
    have e2 := (b.block (N + 1) (by omega)).trans n2
    have hb0 : RowKit.Below N w wx := bT.trans (b.mono (by omega))
    exact ⟨by rw [cell_of_heap e1]; rfl, by rw [cell_of_heap e1]; rfl, by rw [cell_of_heap e2]; rfl, by rw [cell_of_heap e2]; rfl, ha.keep hb0 (by omega), hb.keep hb0 (by omega)⟩
  obtain ⟨e1, o1, q1', he1, hlt1, d1, d2⟩ := (hb.keep b1 (by omega)).at (i := k) (by omega)
  rw [hnl] at he1
  simp only [Value.slice.injEq] at he1
  obtain ⟨rfl, -, rfl⟩ := he1
  rw [hx] at d1 d2
  simp only at d1 d2
  have y3 : w1.cell? ⟨N, 3, none⟩ = some (.slice a1 nh q1) := by rw [cell_of_heap n1]; rfl
  have y4 : w1.cell? ⟨N, 4, none⟩ = some (.slice (some ⟨e1, o1, none⟩) nl q2) := by rw [cell_of_heap n1]; rfl
  have hki : (k : Int) < (nl : Int) := by omega
  have hB0 : Hid (RowKit.Below (N + 2) w2 w2) := Lib.hid (RowKit.Below.refl _ _)
  have hR0 : Hid (ReadT w2 (.slice none 0 0) (canon (((h.take 0).filter fun y => apartB y (x1, x2)).map (·.1)))) := Lib.hid (by simpa [canon_nil] using readT_nil _)
  have hbT := Lib.hid bT
  have hu1' := Lib.hid hu1
  have hu2' := Lib.hid hu2
  have hx' := Lib.hid hx
  replace hnh := Lib.hid hnh
  replace hnl := Lib.hid hnl
  have hs2' := Lib.hid hs2
  clear ha hb b1 b2 n1 n2 n1' bT hu1 hu2 hx hlt1
  go_enter Try.func58, Try.ntmps58
  go_wp2
  clear y3 y4 d1 d2
  go_loopw [5, 7] (fun v5 v7 wr => ∃ i : Nat, v7 = .int .i64 i ∧ i ≤ nh ∧ Hid (ReadT wr v5 (canon (((h.take i).filter fun y => apartB y (x1, x2)).map (·.1)))) ∧ Hid (RowKit.Below (N + 2) w2 wr)) (fun _ v7 _ => nh - (intOf v7).toNat)
  case atStart => exact ⟨0, rfl, Nat.zero_le _, hR0, hB0⟩
  case round =>
    clear hR0 hB0
    obtain ⟨i, rfl, hi, hRd, hB⟩ := hrel
    obtain ⟨f3, f4, f5, f6, hWa, hWb⟩ := hfar.out _ hB.out
    have hrs : N + 2 ≤ wr.heap.size := by have := hB.out.size; omega
    by_cases hin : i < nh
    · have hii : (i : Int) < (nh : Int) := by omega
      obtain ⟨eb, off, q1', he1, hlt1, d1, d2⟩ := hWa.at (i := i) (by have := hnh.out; omega)
      rw [hnh.out] at he1
      simp only [Value.slice.injEq] at he1
      obtain ⟨rfl, -, rfl⟩ := he1
      have hfs := filt_snoc (h := h) (i := i) (by have := hnh.out; omega) fun y => apartB y (x1, x2)
      have hln := filt_len h i fun y => apartB y (x1, x2)
      have hyu := hu1'.out (h.getD i (0, 0)) (by rw [getD_eq h (by have := hnh.out; omega)]; exact List.getElem_mem _)
      obtain ⟨⟨y1, y2⟩, hy⟩ : ∃ y, h.getD i (0, 0) = y := ⟨_, rfl⟩
      rw [hy] at d1 d2 hfs hyu
      simp only at d1 d2 hfs hyu
      have hap : apartB (y1, y2) (x1, x2) = ((y1 != x1) && ((y2 == 2) || (x2 == 2))) := rfl
      obtain ⟨p1, hp1⟩ : ∃ x, (y1 != x1) = x := ⟨_, rfl⟩
      obtain ⟨p2, hp2⟩ : ∃ x, (y2 == 2) = x := ⟨_, rfl⟩
      obtain ⟨p3, hp3⟩ : ∃ x, (x2 == 2) = x := ⟨_, rfl⟩
      rw [hp1, hp2, hp3] at hap
      rw [hap] at hfs
      obtain ⟨L, hL⟩ : ∃ L, ((h.take i).filter fun y => apartB y (x1, x2)).map (·.1) = L := ⟨_, rfl⟩
      rw [hL] at hRd hfs hln
      have hcl := canon_length L
      obtain ⟨a5, c5, rfl, -⟩ := hRd.out.1.nums
      have bN := below_alloc wr (.cells #[.int .u32 y1, .int .u8 y2] 99)
      have nb := heap_alloc_new wr (.cells #[.int .u32 y1, .int .u8 y2] 99)
      have B4 := hB.out.trans (bN.mono hrs)
      have R4 := hRd.out.below bN (Nat.le_refl _)
      replace hfs := Lib.hid hfs
      replace hyu := Lib.hid hyu
      replace hRd := Lib.hid hRd.out
      clear hL hy hap hWa hWb
      go_upto_region 7 with fail
      obtain ⟨KB, hKB⟩ : ∃ x, x = wr.heap.size := ⟨_, rfl⟩
      obtain ⟨w4, hw4⟩ : ∃ x, x = wr.alloc (.cells #[.int .u32 y1, .int .u8 y2] 99) := ⟨_, rfl⟩
      rw [← hw4] at B4 R4 nb ⊢
      rw [← hKB] at nb ⊢
      have m0 : w4.cell? ⟨KB, 0, none⟩ = some (.int .u32 y1) := by rw [cell_of_heap nb]; rfl
      have m1 : w4.cell? ⟨KB, 1, none⟩ = some (.int .u8 y2) := by rw [cell_of_heap nb]; rfl
      have hs4 : N + 2 ≤ w4.heap.size := by rw [hw4]; simp; omega
      clear f3 f4 f5 f6 d1 d2 hlt1 hKB hw4 bN hB hRd
      obtain ⟨f3, f4, f5, f6, -, -⟩ := hfar.out _ B4
      have hin' := into_r _ (canon L) y1 w4 R4 hyu.out (by have := hnh.out; omega)
      rw [← canon_snoc] at hin'
      replace B4 := Lib.hid B4
      replace R4 := Lib.hid R4
      replace nb := Lib.hid nb
      cases p1 <;> cases p2 <;> cases p3
      all_goals (
        first
          | (have hO2 : Hid (ReadT w4 (.slice a5 (canon L).length c5) (canon (((h.take (i + 1)).filter fun y => apartB y (x1, x2)).map (·.1)))) := Lib.hid (by have := R4.out; rw [hfs.out]; simpa using this)
             go_wp2
             go_roundw
             case rel => exact ⟨i + 1, by go_num, by omega, hO2, B4⟩
             case measure => simp [intOf]; omega)
          | (have hcz : Hid (canon (L ++ [y1]) = canon (((h.take (i + 1)).filter fun y => apartB y (x1, x2)).map (·.1))) := Lib.hid (by rw [hfs.out]; simp)
             rw [hcz.out] at hin'
             go_wp2_with (go_at_call 24; refine hin'.mono ?_; rintro e w8 ⟨v8, rfl, hR8, b8⟩)
             have hR8' := Lib.hid hR8
             have B8 := Lib.hid (B4.out.trans (b8.mono hs4))
             clear hR8 b8
             go_roundw
             case rel => exact ⟨i + 1, by go_num, by omega, hR8', B8⟩
             case measure => simp [intOf]; omega))
    · obtain rfl : i = nh := by omega
      rw [List.take_of_length_le (by have := hnh.out; omega)] at hRd
      have hl1 : ((h.filter fun y => apartB y (x1, x2)).map (·.1)).length ≤ i := by rw [List.length_map]; exact Nat.le_trans (List.length_filter_le _ _) (by have := hnh.out; omega)
      obtain ⟨L1, hL1⟩ : ∃ L, (h.filter fun y => apartB y (x1, x2)).map (·.1) = L := ⟨_, rfl⟩
      rw [hL1] at hRd hl1
      have hO0 : Hid (ReadT wr u5 (canon (L1 ++ (l.take 0).map (·.1)))) := Lib.hid (by simpa using hRd.out)
      replace hL1 := Lib.hid hL1
      clear hWa hWb hRd
      go_wp2
      clear f3 f4 f5 f6
      go_loopw [5, 9] (fun v5 v9 ws => ∃ j : Nat, v9 = .int .i64 j ∧ j ≤ k ∧ Hid (ReadT ws v5 (canon (L1 ++ (l.take j).map (·.1)))) ∧ Hid (RowKit.Below (N + 2) w2 ws)) (fun _ v9 _ => k - (intOf v9).toNat)
      case atStart => exact ⟨0, rfl, Nat.zero_le _, hO0, hB⟩
      case round =>
        clear hO0 hB
        obtain ⟨j, rfl, hj, hRd, hB⟩ := hrel
        obtain ⟨f3, f4, f5, f6, hWa, hWb⟩ := hfar.out _ hB.out
        have hrs : N + 2 ≤ wr.heap.size := by have := hB.out.size; omega
        by_cases hjk : j < k
        · have hjj : (j : Int) < (k : Int) := by omega
          have hjl : (j : Int) < (nl : Int) := by omega
          obtain ⟨eb, off, q1', he1, hlt1, d1, d2⟩ := hWb.at (i := j) (by have := hnl.out; omega)
          rw [hnl.out] at he1
          simp only [Value.slice.injEq] at he1
          obtain ⟨he1, -, rfl⟩ := he1
          cases he1
          have hst : (l.take (j + 1)).map (·.1) = (l.take j).map (·.1) ++ [(l.getD j (0, 0)).1] := by
            rw [List.take_succ_eq_append_getElem (by have := hnl.out; omega), List.map_append, getD_eq l (by have := hnl.out; omega)]; rfl
          have hzu := hu2'.out (l.getD j (0, 0)) (by rw [getD_eq l (by have := hnl.out; omega)]; exact List.getElem_mem _)
          have hlt : ((l.take j).map (·.1)).length ≤ j := by rw [List.length_map, List.length_take]; omega
          obtain ⟨z, hz⟩ : ∃ y, (l.getD j (0, 0)).1 = y := ⟨_, rfl⟩
          rw [hz] at d1 hst hzu
          obtain ⟨L2, hL2⟩ : ∃ L, (l.take j).map (·.1) = L := ⟨_, rfl⟩
          rw [hL2] at hRd hst hlt
          have hcl := canon_length (L1 ++ L2)
          rw [List.length_append] at hcl
          obtain ⟨a5, c5, rfl, -⟩ := hRd.out.1.nums
          have hin' := into_r _ (canon (L1 ++ L2)) z wr hRd.out hzu (by omega)
          rw [← canon_snoc] at hin'
          have hcz : L1 ++ L2 ++ [z] = L1 ++ (l.take (j + 1)).map (·.1) := by rw [hst, List.append_assoc]
          rw [hcz] at hin'
          clear hst hz hL2 hWa hWb d2 hcz hzu hRd f3 f5 f6 hlt1
          go_wp2_with (go_at_call 24; refine hin'.mono ?_; rintro e w8 ⟨v8, rfl, hR8, b8⟩)
          have hR8' := Lib.hid hR8
          have B8 := Lib.hid (hB.out.trans (b8.mono hrs))
          clear hR8 b8
          go_roundw
          case rel => exact ⟨j + 1, by go_num, by omega, hR8', B8⟩
          case measure => simp [intOf]; omega
        · obtain rfl : j = k := by omega
          have hblk : Hid (canon (L1 ++ (l.take j).map (·.1)) = blkL h l j) := Lib.hid (by rw [blkL, hx'.out, ← hL1.out])
          rw [hblk.out] at hRd
          go_wp2
          go_ret
          exact ⟨_, rfl, hRd.out, hbT.out.trans (hB.out.mono (by omega))⟩
end Go.Proofs.Ytilknhackmccpaa

set_option linter.unusedVariables false
set_option linter.unusedSimpArgs false
namespace Go.Proofs.Ytilknhackmccpaa
open Go.RowKit Go.Sort Go.Lib Go.Maps

theorem pre_flat {α β : Type} (f : α → List β) {l : List α} {i : Nat} {x : α} (h : l[i]? = some x) {s : List β} (hs : s <+: f x) : ((l.take i).flatMap f ++ s) <+: l.flatMap f := by
  obtain ⟨hi, e⟩ := List.getElem?_eq_some_iff.1 h
  have h2 : l.flatMap f = (l.take i).flatMap f ++ (f x ++ (l.drop (i + 1)).flatMap f) := by
    conv => lhs; rw [← List.take_append_drop i l, List.drop_eq_getElem_cons hi, e]
    rw [List.flatMap_append, List.flatMap_cons]
  rw [h2]
  exact (List.prefix_append_right_inj _).2 (hs.trans (List.prefix_append _ _))
theorem flat_snoc {α β : Type} (f : α → List β) {l : List α} {i : Nat} {x : α} (h : l[i]? = some x) : (l.take (i + 1)).flatMap f = (l.take i).flatMap f ++ f x := by
  obtain ⟨hi, e⟩ := List.getElem?_eq_some_iff.1 h
  rw [List.take_succ_eq_append_getElem hi, List.flatMap_append, e]
  simp
theorem range_snoc {β : Type} (f : Nat → List β) (k : Nat) : (List.range (k + 1)).flatMap f = (List.range k).flatMap f ++ f k := by
  rw [List.range_succ, List.flatMap_append]; simp
/-- What is told so far, and one more, is no more than all. -/
theorem edges_more (L : RT) {m i k j : Nat} {x : Int} {e : Ky × Lk} (hx : (rWho L)[m]? = some x) (he : L[i]? = some e) (hk : k < e.2.2.length) (hxk : (e.2.2.getD k (0, 0)).1 = x) (hj : j < (blkL e.2.1 e.2.2 k).length) :
    (((((rWho L).take m).flatMap fun x => L.flatMap fun e => rEdgL x e.2) ++ (L.take i).flatMap (fun e => rEdgL x e.2)) ++ (List.range k).flatMap (rBlk x e.2)).length + j + 1 ≤ (rEdges L).length := by
  have h1 : ((blkL e.2.1 e.2.2 k).take (j + 1)).map (fun o => (x, o)) <+: rBlk x e.2 k := by
    rw [rBlk, if_pos hxk]
    exact (List.take_prefix _ _).map _
  have h2 := pre_flat (rBlk x e.2) (l := List.range e.2.2.length) (i := k) (x := k) (by rw [List.getElem?_range hk]) h1
  have h3 := pre_flat (fun e : Ky × Lk => rEdgL x e.2) he h2
  have h4 := pre_flat (fun x => L.flatMap fun e => rEdgL x e.2) hx h3
  have h5 := h4.length_le
  have ht : (List.range e.2.2.length).take k = List.range k := by
    rw [List.take_range]
    congr 1; omega
  rw [ht] at h5
  simp only [List.length_append, List.length_map, List.length_take] at h5 ⊢
  show _ ≤ ((rWho L).flatMap fun x => L.flatMap fun e => rEdgL x e.2).length
  omega
theorem who_len {L : RT} {n0 : Nat} (hsz : ∀ e ∈ L, e.2.1.length + e.2.2.length ≤ n0) : ∀ i, ((L.take i).flatMap fun e => e.2.2.map (·.1)).length ≤ i * n0
  | 0 => by simp
  | i + 1 => by
    have ih := who_len hsz i
    by_cases hi : i < L.length
    · obtain ⟨e, he⟩ : ∃ e, L[i]? = some e := ⟨_, List.getElem?_eq_getElem hi⟩
      rw [flat_snoc _ he, List.length_append, Nat.add_mul, Nat.one_mul, List.length_map]
      have := hsz _ (List.mem_of_getElem? he)
      omega
    · rw [List.take_of_length_le (by omega)] at ih ⊢
      rw [Nat.add_mul]
      omega
theorem who_snoc {L : RT} {i : Nat} {e : Ky × Lk} (he : L[i]? = some e) : ((L.take (i + 1)).flatMap fun e => e.2.2.map (·.1)) = ((L.take i).flatMap fun e => e.2.2.map (·.1)) ++ e.2.2.map (·.1) := flat_snoc _ he
theorem map_snoc {l : List (Int × Int)} {k : Nat} (h : k < l.length) : (l.take (k + 1)).map (·.1) = (l.take k).map (·.1) ++ [(l.getD k (0, 0)).1] := by
  rw [List.take_succ_eq_append_getElem h, List.map_append, getD_eq l h]; rfl
/-- The i-th lock, wherever nothing but new memory was made. -/
theorem RTab.far {w : World} {RB : Nat} {v : Value} {P : List RL} {L : RT} (S : RTab w RB v P L) {i : Nat} (hi : i < L.length) : ∃ g cap k h l a1 q1 a2 q2, v = .slice (some ⟨g, 0, none⟩) L.length cap ∧ L.length ≤ cap ∧ L[i]? = some (k, h, l) ∧ h.length ≤ min maxLen q1 ∧ l.length ≤ min maxLen q2 ∧ ∀ wx, RowKit.Below w.heap.size w wx →
    wx.cell? ⟨RB, 0, none⟩ = some v ∧ wx.cell? ⟨g, i * 5, none⟩ = some (.int .u8 k.1) ∧ wx.cell? ⟨g, i * 5 + 1, none⟩ = some (.int .u32 k.2.1) ∧ wx.cell? ⟨g, i * 5 + 2, none⟩ = some (.int .u32 k.2.2) ∧ wx.cell? ⟨g, i * 5 + 3, none⟩ = some (.slice a1 h.length q1) ∧ wx.cell? ⟨g, i * 5 + 4, none⟩ = some (.slice a2 l.length q2) ∧ WantsR wx (.slice a1 h.length q1) h ∧ WantsR wx (.slice a2 l.length q2) l := by
  obtain ⟨g, cap, ⟨p1, va, vb⟩, ⟨k, h, l⟩, hv, hc, hgl, hp, he, e1, hWa, hWb, c0, c1, c2, c3, c4⟩ := S.at hi
  obtain rfl : p1 = k := e1
  simp only at hWa hWb c0 c1 c2 c3 c4
  obtain ⟨a1, q1, rfl, hq1⟩ := hWa.shape
  obtain ⟨a2, q2, rfl, hq2⟩ := hWb.shape
  refine ⟨g, cap, p1, h, l, a1, q1, a2, q2, hv, hc, he, hq1, hq2, fun wx b => ⟨(b.cell (p := ⟨RB, 0, none⟩) S.lt).trans S.c0, (b.cell (p := ⟨g, i * 5, none⟩) hgl).trans c0, (b.cell (p := ⟨g, i * 5 + 1, none⟩) hgl).trans c1, (b.cell (p := ⟨g, i * 5 + 2, none⟩) hgl).trans c2, (b.cell (p := ⟨g, i * 5 + 3, none⟩) hgl).trans c3, (b.cell (p := ⟨g, i * 5 + 4, none⟩) hgl).trans c4, hWa.keep b (Nat.le_refl _), hWb.keep b (Nat.le_refl _)⟩⟩
theorem own_edge {w : World} {u : Value} {es : List (Int × Int)} {base g : Nat} (E : OwnE w base u es) (e : u.ownBlock = some g) : ∃ cs fr, w.heap[g]? = some (.cells cs 35 fr) := by
  rcases E.2 with ⟨rfl, _⟩ | ⟨g', cap', cur', rfl, _, hg', _⟩
  · cases e
  · obtain rfl : g' = g := Option.some.inj e
    exact ⟨_, _, hg'⟩
/-- append to edges leaves a list of numbers. -/
theorem ReadT.edges {w w' : World} {v u : Value} {l : List Int} {es : List (Int × Int)} {base : Nat} (h : ReadT w v l) (E : OwnE w base u es) (hg : w.grownBy w' u.ownBlock) : ReadT w' v l := by
  have key : ∀ g, v.ownBlock = some g → w'.heap[g]? = w.heap[g]? := fun g hgv => by
    obtain ⟨cs, fr, e⟩ := h.2 g hgv
    refine hg.block g (Array.getElem?_eq_some_iff.1 e).1 fun e2 => ?_
    rcases E.2 with ⟨rfl, _⟩ | ⟨g', cap', cur', rfl, _, hg', _⟩
    · cases e2
    · obtain rfl : g = g' := Option.some.inj e2
      rw [e] at hg'
      cases hg'
  refine ⟨⟨h.1.1, ?_⟩, fun g hgv => by
    obtain ⟨cs, fr, e⟩ := h.2 g hgv
    exact ⟨cs, fr, (key g hgv).trans e⟩⟩
  rcases h.1.2 with h0 | ⟨g, cap, e, h1, h2, h3, ⟨cs, ty, fr, h4⟩, h5⟩
  · exact .inl h0
  · have hk := key g (by rw [e]; rfl)
    exact .inr ⟨g, cap, e, h1, h2, Nat.lt_of_lt_of_le h3 hg.size, ⟨cs, ty, fr, hk.trans h4⟩, fun i hi => by simp only [World.cell?, hk]; exact h5 i hi⟩
end Go.Proofs.Ytilknhackmccpaa
