/- Package lock: LockFirst, plainly. -/
import Derived.Test.YtilknhackmccpaaLckT
set_option linter.unusedVariables false
set_option linter.unusedSimpArgs false
namespace Go.Proofs.Ytilknhackmccpaa
open Go.RowKit Go.Sort Go.Lib Go.Maps

/-- In which order they come first. -/
def ordL (l : List Int) : List Int := l.foldl (fun o x => if x ∈ o then o else o ++ [x]) []
theorem ordL_snoc (l : List Int) (x : Int) : ordL (l ++ [x]) = if x ∈ ordL l then ordL l else ordL l ++ [x] := by
  rw [ordL, List.foldl_append]
  rfl
theorem ordL_fold (x : Int) : ∀ (l o : List Int), x ∈ l.foldl (fun o x => if x ∈ o then o else o ++ [x]) o ↔ x ∈ o ∨ x ∈ l
  | [], o => by simp
  | y :: r, o => by
    rw [List.foldl_cons, ordL_fold x r]
    by_cases h : y ∈ o
    · rw [if_pos h]
      constructor
      · rintro (h1 | h1)
        · exact .inl h1
        · exact .inr (List.mem_cons_of_mem _ h1)
      · rintro (h1 | h1)
        · exact .inl h1
        · rcases List.mem_cons.1 h1 with rfl | h1
          · exact .inl h
          · exact .inr h1
    · rw [if_neg h]
      simp only [List.mem_append, List.mem_cons, List.not_mem_nil, or_false]
      constructor
      · rintro ((h1 | h1) | h1)
        · exact .inl h1
        · exact .inr (.inl h1)
        · exact .inr (.inr h1)
      · rintro (h1 | h1 | h1)
        · exact .inl (.inl h1)
        · exact .inl (.inr h1)
        · exact .inr h1
theorem ordL_mem (l : List Int) (x : Int) : x ∈ ordL l ↔ x ∈ l := by
  rw [ordL, ordL_fold]
  simp
theorem ordL_len (l : List Int) : (ordL l).length ≤ l.length := by
  have key : ∀ (l o : List Int), (l.foldl (fun o x => if x ∈ o then o else o ++ [x]) o).length ≤ o.length + l.length := by
    intro l
    induction l with
    | nil => intro o; simp
    | cons y r ih =>
      intro o
      rw [List.foldl_cons]
      refine Nat.le_trans (ih _) ?_
      split <;> simp <;> omega
  have := key l []
  rw [ordL]
  simpa using this
/-- What is at a key that all want as their own. -/
def stF : List Int → Lk
  | [] => ([], [])
  | t :: r => ([(t, 2)], r.map fun x => (x, 2))
structure FirstOk (k : Ky) (T : Tb) (ord : List Int) : Prop where
  at_ : T.F k = stF ord
  else_ : ∀ k', k' ≠ k → T.F k' = ([], [])
  wait : ∀ t, (T.W t).isSome = true ↔ t ∈ ord.tail
  keys : ∀ k' ∈ T.ks, k' = k
  key : ord ≠ [] → k ∈ T.ks
  nodup : ord.Nodup
theorem first_start (k : Ky) : FirstOk k noTb [] := ⟨rfl, fun _ _ => rfl, fun t => by simp [noTb], fun _ h => by simp [noTb] at h, fun h => absurd rfl h, List.nodup_nil⟩
theorem modeL_nil (t : Int) : modeL [] t = 0 := rfl
theorem modeL_one (a b t : Int) : modeL [(a, b)] t = if a = t then b else 0 := by
  by_cases h : a = t <;> simp [modeL, h]
theorem modeL_not {l : List (Int × Int)} {t : Int} (h : ∀ p ∈ l, p.1 ≠ t) : modeL l t = 0 := by
  have : l.find? (fun p => p.1 == t) = none := by
    rw [List.find?_eq_none]
    intro p hp
    simpa using h p hp
  simp [modeL, this]
theorem first_ask {k : Ky} {T : Tb} {ord : List Int} (h : FirstOk k T ord) {t : Int} (ht : t ∉ ord) : (askT T t k 2).1 = decide (ord = []) ∧ FirstOk k (askT T t k 2).2 (ord ++ [t]) := by
  have hW : (T.W t).isSome = false := by
    cases hb : (T.W t).isSome with
    | false => rfl
    | true => exact absurd (List.mem_of_mem_tail ((h.wait t).1 hb)) ht
  rcases ord with _ | ⟨a, r⟩
  · have e : askT T t k 2 = (true, ⟨insK T.ks k, setF T.F k ([(t, 2)], []), T.hs, T.W⟩) := by
      rw [askT, h.at_]
      simp [stF, modeL_nil, askM, hW, freeB, notL]
    rw [e]
    refine ⟨rfl, ⟨by simp [setF, stF], fun k' hk => by simp [setF, hk, h.else_ k' hk], fun x => ?_, fun k' hk => ?_, fun _ => (insK_mem T.ks k k).2 (.inl rfl), by simp⟩⟩
    · have := h.wait x
      simpa using this
    · rcases (insK_mem T.ks k k').1 hk with e | e
      · exact e
      · exact h.keys k' e
  · have hat : a ≠ t := fun e => ht (by simp [e])
    have e : askT T t k 2 = (false, ⟨insK T.ks k, setF T.F k ([(a, 2)], r.map (fun x => (x, 2)) ++ [(t, 2)]), insH T.hs t, setW T.W t (some (k, 2))⟩) := by
      have h1 : modeL [(a, (2 : Int))] t = 0 := by rw [modeL_one, if_neg hat]
      have h2 : freeB [(a, 2)] (t, 2) = false := by simp [freeB, apartB, hat]
      have h3 : insL (r.map fun x => (x, (2 : Int))) (place [(a, 2)] (r.map fun x => (x, 2)) t) (t, 2) = r.map (fun x => (x, 2)) ++ [(t, 2)] := by
        rw [place, h1, if_neg (by simp), insL, List.take_length, List.drop_length]
      rw [askT, h.at_]
      simp only [stF, h1, h2, h3, hW, askM, Bool.false_and, Bool.false_eq_true, if_false]
      simp [h2, h3]
    rw [e]
    refine ⟨by simp, ⟨by simp [setF, stF], fun k' hk => by simp [setF, hk, h.else_ k' hk], fun x => ?_, fun k' hk => ?_, fun _ => (insK_mem T.ks k k).2 (.inl rfl), ?_⟩⟩
    · have := h.wait x
      by_cases hx : x = t
      · simp [setW, hx]
      · simp only [List.tail_cons] at this
        simp [setW, hx, this]
    · rcases (insK_mem T.ks k k').1 hk with e | e
      · exact e
      · exact h.keys k' e
    · rw [List.nodup_append]
      exact ⟨h.nodup, by simp, fun x hx y hy => by rw [List.mem_singleton.1 hy]; rintro rfl; exact ht hx⟩
theorem notL_map {t : Int} {r : List Int} (h : t ∉ r) : notL (r.map fun x => (x, (2 : Int))) t = r.map fun x => (x, 2) :=
  notL_none fun p hp => by
    obtain ⟨x, hx, rfl⟩ := List.mem_map.1 hp
    rintro rfl
    exact h hx
theorem first_rel {k : Ky} {T : Tb} {t : Int} {r : List Int} (h : FirstOk k T (t :: r)) (hs : T.ks.Pairwise KLt) : (relT T t).2 = r.head?.toList ∧ FirstOk k (relT T t).1 r := by
  obtain ⟨htr, hr⟩ := List.nodup_cons.1 h.nodup
  have hks : T.ks = [k] := by
    refine one_list KLt.irrefl (fun _ _ _ => KLt.trans) hs (by simp) fun x => ?_
    rw [List.mem_singleton]
    exact ⟨h.keys x, fun e => by rw [e]; exact h.key (by simp)⟩
  have hm : modeL [(t, (2 : Int))] t = 2 := by rw [modeL_one, if_pos rfl]
  have hins : insK [k] k = [k] := by simp [insK, insR, kltB, KLt.irrefl k]
  have hn1 : notL [(t, (2 : Int))] t = [] := by simp [notL]
  rcases r with _ | ⟨y, r⟩
  · have hrl : relL (T.F k) t = (([], []), []) := by
      rw [relL, h.at_, stF, if_neg (by rw [hm]; simp), hn1]
      rfl
    have hst : relStep t T k = (⟨[], setF T.F k ([], []), T.hs, T.W⟩, []) := by
      rw [relStep, hrl, h.at_, stF, if_neg (by rw [hm]; simp), hks, hins]
      simp [dropAll]
    have hf : relT T t = (dropW ⟨[], setF T.F k ([], []), T.hs, T.W⟩ t, []) := by
      rw [relT, hks]
      simp [relFold, hst]
    rw [hf]
    refine ⟨rfl, ⟨by simp [dropW, setF, stF], fun k' hk => by simp [dropW, setF, hk, h.else_ k' hk], fun x => ?_, fun _ hk => by simp [dropW] at hk, fun h => absurd rfl h, List.nodup_nil⟩⟩
    have := h.wait x
    simp only [List.tail_cons, List.not_mem_nil, iff_false, Bool.not_eq_true] at this
    by_cases hx : x = t <;> simp [dropW, setW, hx, this]
  · obtain ⟨hyr, hr'⟩ := List.nodup_cons.1 hr
    have hty : ¬ t = y := fun e => htr (by simp [e])
    have hn2 : notL ((y :: r).map fun x => (x, (2 : Int))) t = (y :: r).map fun x => (x, 2) := notL_map htr
    have hn3 : notL ((y, (2 : Int)) :: r.map fun x => (x, (2 : Int))) y = r.map fun x => (x, 2) := by
      have : notL ((y, (2 : Int)) :: r.map fun x => (x, (2 : Int))) y = notL (r.map fun x => (x, (2 : Int))) y := by simp [notL]
      rw [this, notL_map hyr]
    have hw : wakeL ([], (y, 2) :: r.map fun x => (x, 2)) = (([(y, 2)], r.map fun x => (x, 2)), [y]) := by
      rw [wakeL_step (by rfl), hn3]
      have : wakeL (notL [] y ++ [(y, 2)], r.map fun x => (x, (2 : Int))) = (([(y, 2)], r.map fun x => (x, 2)), []) := by
        rcases r with _ | ⟨z, r⟩
        · rfl
        · have hyz : ¬ y = z := fun e => hyr (by simp [e])
          exact wakeL_stop (by simp [freeB, apartB, notL, hyz])
      rw [this]
    have hrl : relL (T.F k) t = (([(y, 2)], r.map fun x => (x, 2)), [y]) := by
      rw [relL, h.at_, stF, if_neg (by rw [hm]; simp), hn1, hn2]
      exact hw
    have hst : relStep t T k = (⟨[k], setF T.F k ([(y, 2)], r.map fun x => (x, 2)), (dropW T y).hs, (dropW T y).W⟩, [y]) := by
      rw [relStep, hrl, h.at_, stF, if_neg (by rw [hm]; simp), hks, hins]
      simp [dropAll]
    have hf : relT T t = (dropW ⟨[k], setF T.F k ([(y, 2)], r.map fun x => (x, 2)), (dropW T y).hs, (dropW T y).W⟩ t, [y]) := by
      rw [relT, hks]
      simp [relFold, hst]
    rw [hf]
    refine ⟨rfl, ⟨by simp [dropW, setF, stF], fun k' hk => by simp [dropW, setF, hk, h.else_ k' hk], fun x => ?_, fun k' hk => by simpa [dropW] using hk, fun _ => by simp [dropW], hr⟩⟩
    have := h.wait x
    simp only [List.tail_cons, List.mem_cons] at this ⊢
    by_cases hx : x = t
    · subst hx
      simp only [dropW, setW, if_true, Option.isSome_none, Bool.false_eq_true, false_iff]
      exact fun h => htr (List.mem_cons_of_mem _ h)
    · by_cases hxy : x = y
      · subst hxy
        simp [dropW, setW, hx, hyr]
      · simp [dropW, setW, hx, hxy, this]
theorem canon_len_same {l : List Int} {x : Int} (h : x ∈ l) : canon (l ++ [x]) = canon l := canon_congr fun z => by
  rw [List.mem_append, List.mem_singleton]
  exact ⟨fun h' => h'.elim id fun e => by rw [e]; exact h, .inl⟩
theorem canon_len_more {l : List Int} {x : Int} (h : x ∉ l) : (canon (l ++ [x])).length ≠ (canon l).length := by
  intro e
  have hnd : ∀ zs, (canon zs).Nodup := fun zs => (canon_rising zs).imp fun {a b} hab => by rintro rfl; omega
  have hsub : canon l ++ [x] ⊆ canon (l ++ [x]) := fun z hz => by
    rw [mem_canon]
    rcases List.mem_append.1 hz with hz | hz
    · exact List.mem_append_left _ (mem_canon.1 hz)
    · exact List.mem_append_right _ hz
  have := nodup_len (l := canon l ++ [x]) (by
    rw [List.nodup_append]
    exact ⟨hnd l, by simp, fun a ha b hb => by rw [List.mem_singleton.1 hb]; rintro rfl; exact h (mem_canon.1 ha)⟩) hsub
  simp only [List.length_append, List.length_cons, List.length_nil] at this
  omega
end Go.Proofs.Ytilknhackmccpaa
