/- Contracts of the reference's Needs, count, Change. -/
import Derived.Test.YtghpjmihlgfeaaaRecC
namespace Go.Proofs.Ytghpjmihlgfeaaa
open Go.RowKit

def needsE (id n : Int) : Int := if inL id = [] then 40 else if n < 1 ∨ 1000 < n then 1 else 0
def needsI (id n : Int) : List (Int × Int) := if inL id = [] ∨ n < 1 ∨ 1000 < n then [] else mulL n (inL id)
def needsO (id n : Int) : List (Int × Int) := if inL id = [] ∨ n < 1 ∨ 1000 < n then [] else mulL n (outL id)

theorem needs_none {id n : Int} (h : inL id = []) : needsE id n = 40 ∧ needsI id n = [] ∧ needsO id n = [] := by
  unfold needsE needsI needsO; rw [if_pos h, if_pos (.inl h), if_pos (.inl h)]; exact ⟨rfl, rfl, rfl⟩
theorem needs_arg {id n : Int} (h : inL id ≠ []) (hn : n < 1 ∨ 1000 < n) : needsE id n = 1 ∧ needsI id n = [] ∧ needsO id n = [] := by
  unfold needsE needsI needsO; rw [if_neg h, if_pos hn, if_pos (.inr hn), if_pos (.inr hn)]; exact ⟨rfl, rfl, rfl⟩
theorem needs_ok {id n : Int} (h : inL id ≠ []) (h1 : 1 ≤ n) (h2 : n ≤ 1000) : needsE id n = 0 ∧ needsI id n = mulL n (inL id) ∧ needsO id n = mulL n (outL id) := by
  have hn : ¬ (n < 1 ∨ 1000 < n) := by omega
  have hi : ¬ (inL id = [] ∨ n < 1 ∨ 1000 < n) := fun h' => h'.elim h hn
  unfold needsE needsI needsO; rw [if_neg h, if_neg hn, if_neg hi, if_neg hi]; exact ⟨rfl, rfl, rfl⟩

set_option maxRecDepth 100000 in
set_option maxHeartbeats 400000 in
theorem refNeeds_ok (id n : Int) (w : World) (h : inL id ≠ []) (n1 : 1 ≤ n) (n2 : n ≤ 1000) : Calls Try.prog 17 #[.int .u32 id, .int .u64 n] w (SomeTwo (.int .i64 0) (mulL n (inL id)) (mulL n (outL id)) w) := by
  obtain ⟨s1, s2, s3, s4⟩ := rows_small id
  have hl : (inL id).length ≠ 0 := by simpa using h
  have hp : ((flat (inL id)).length == 0) = false := by rw [beq_eq_false_iff_ne, flat_len]; omega
  have hp2 : (((flat (inL id)).length : Int) == 0) = false := by rw [beq_eq_false_iff_ne]; rw [flat_len]; omega
  go_enter Try.func17, Try.ntmps17
  go_wp2_with fail
  refine (line_any _ _).mono ?_
  rintro e w1 ⟨b1, ⟨h1, h2, rfl⟩ | ⟨hne, x, y, rfl, r1, r2⟩⟩
  · exact absurd h1 h
  · clear h hne
    go_wp2_with fail
    refine (stacks_row _ _ _ _ _ r1 s1 (by omega) (by omega) (by omega)).mono ?_
    rintro e w2 ⟨vi, rfl, k1, b2⟩
    obtain ⟨ai, ci, rfl⟩ := k1.shape
    have r2' := r2.below b2
    go_wp2_with fail
    refine (stacks_row _ _ _ _ _ r2' s2 (by omega) (by omega) (by omega)).mono ?_
    rintro e w3 ⟨vo, rfl, k2, b3⟩
    obtain ⟨ao, co, rfl⟩ := k2.shape
    have B := below_trans b1 (below_trans b2 b3)
    obtain ⟨c0, c1, f0, f1, hs⟩ := kept_two _ _ _ _ _ B
    have hb1 := b1.size
    have hb2 := b2.size
    rw [World.size_alloc] at hb1
    go_wp2_with fail
    refine bodyPost_ret (v := .tuple #[.agg #[.slice ai (mulL n (inL id)).length ci, .slice ao (mulL n (outL id)).length co], .int .i64 0]) (by simp [results, Try.results17, go_sem, c0, c1]) rfl ⟨_, rfl, ?_, _, _, rfl, ?_, ?_⟩
    · exact ((((Below.refl _ _).alloc (Nat.le_refl _) _).trans (B.mono (by simp))).setCell (Nat.le_refl _) _).setCell (Nat.le_refl _) _
    · exact (((k1.below b3).setCell (p := ⟨w.heap.size, 0, none⟩) (show w.heap.size < w1.heap.size by omega) _).setCell (p := ⟨w.heap.size, 1, none⟩) (show w.heap.size < w1.heap.size by omega) _).mono (by omega)
    · exact ((k2.setCell (p := ⟨w.heap.size, 0, none⟩) (show w.heap.size < w2.heap.size by omega) _).setCell (p := ⟨w.heap.size, 1, none⟩) (show w.heap.size < w2.heap.size by omega) _).mono (by omega)

set_option maxRecDepth 100000 in
set_option maxHeartbeats 400000 in
theorem refNeeds_arg (id n : Int) (w : World) (h : inL id ≠ []) (hn : n < 1 ∨ 1000 < n) : Calls Try.prog 17 #[.int .u32 id, .int .u64 n] w (SomeTwo (.int .i64 1) [] [] w) := by
  have hl : (inL id).length ≠ 0 := by simpa using h
  have hp : ((flat (inL id)).length == 0) = false := by rw [beq_eq_false_iff_ne, flat_len]; omega
  have hp2 : (((flat (inL id)).length : Int) == 0) = false := by rw [beq_eq_false_iff_ne]; rw [flat_len]; omega
  rcases hn with hn | hn
  all_goals
    go_enter Try.func17, Try.ntmps17
    go_wp2_with fail
    refine (line_any _ _).mono ?_
    rintro e w1 ⟨b1, ⟨h1, h2, rfl⟩ | ⟨hne, x, y, rfl, r1, r2⟩⟩
    · exact absurd h1 h
    · obtain ⟨c0, c1, f0, f1, hs⟩ := kept_two _ _ _ _ _ b1
      have hm : ¬ 1000 < n ∨ 1 ≤ n := by omega
      go_wp2_with fail
      refine bodyPost_ret (v := .tuple #[.agg #[.slice none 0 0, .slice none 0 0], .int .i64 1]) (by simp [results, Try.results17, go_sem, c0, c1]) rfl ⟨_, rfl, ?_, _, _, rfl, Stks.nil _ _, Stks.nil _ _⟩
      exact ((((Below.refl _ _).alloc (Nat.le_refl _) _).trans (b1.mono (by simp))).setCell (Nat.le_refl _) _).setCell (Nat.le_refl _) _

set_option maxRecDepth 100000 in
set_option maxHeartbeats 400000 in
theorem refNeeds_none (id n : Int) (w : World) (h : inL id = []) : Calls Try.prog 17 #[.int .u32 id, .int .u64 n] w (SomeTwo (.int .i64 40) [] [] w) := by
  have H := Lib.hid h
  clear h
  go_enter Try.func17, Try.ntmps17
  go_wp2_with fail
  refine (line_any _ _).mono ?_
  rintro e w1 ⟨b1, ⟨h1, h2, rfl⟩ | ⟨hne, x, y, rfl, r1, r2⟩⟩
  · clear h1 h2
    obtain ⟨c0, c1, f0, f1, hs⟩ := kept_two _ _ _ _ _ b1
    go_wp2_with fail
    refine bodyPost_ret (v := .tuple #[.agg #[.slice none 0 0, .slice none 0 0], .int .i64 40]) (by simp [results, Try.results17, go_sem, c0, c1]) rfl ⟨_, rfl, ?_, _, _, rfl, Stks.nil _ _, Stks.nil _ _⟩
    exact ((((Below.refl _ _).alloc (Nat.le_refl _) _).trans (b1.mono (by simp))).setCell (Nat.le_refl _) _).setCell (Nat.le_refl _) _
  · exact absurd H.out hne

theorem refNeeds_any (id n : Int) (w : World) : Calls Try.prog 17 #[.int .u32 id, .int .u64 n] w (SomeTwo (.int .i64 (needsE id n)) (needsI id n) (needsO id n) w) := by
  by_cases h : inL id = []
  · obtain ⟨e1, e2, e3⟩ := needs_none (n := n) h
    rw [e1, e2, e3]; exact refNeeds_none id n w h
  · by_cases hn : n < 1 ∨ 1000 < n
    · obtain ⟨e1, e2, e3⟩ := needs_arg h hn
      rw [e1, e2, e3]; exact refNeeds_arg id n w h hn
    · obtain ⟨e1, e2, e3⟩ := needs_ok h (show 1 ≤ n by omega) (by omega)
      rw [e1, e2, e3]; exact refNeeds_ok id n w h (by omega) (by omega)

/-- How many there are of an item. -/
def cnt : List (Int × Int) → Int → Int
  | [], _ => 0
  | p :: l, item => if p.1 = item then p.2 else cnt l item

theorem cnt_drop (item : Int) : ∀ (k : Nat) (l : List (Int × Int)), (∀ (j : Nat) p, j < k → l[j]? = some p → p.1 ≠ item) → cnt l item = cnt (l.drop k) item := by
  intro k
  induction k with
  | zero => intro l _; rfl
  | succ k ih =>
    intro l h
    cases l with
    | nil => rfl
    | cons x l =>
      rw [List.drop_succ_cons, ← ih l fun j p hj hp => h (j + 1) p (by omega) (by simpa using hp)]
      rw [cnt, if_neg (h 0 x (by omega) rfl)]
theorem cnt_hit {item : Int} {k : Nat} {l : List (Int × Int)} {p : Int × Int} (h : ∀ (j : Nat) p, j < k → l[j]? = some p → p.1 ≠ item) (hk : l[k]? = some p) (hp : p.1 = item) : cnt l item = p.2 := by
  obtain ⟨hl, e⟩ := List.getElem?_eq_some_iff.1 hk
  rw [cnt_drop item k l h, List.drop_eq_getElem_cons hl, e, cnt, if_pos hp]
theorem cnt_miss {item : Int} {l : List (Int × Int)} (h : ∀ (j : Nat) p, j < l.length → l[j]? = some p → p.1 ≠ item) : cnt l item = 0 := by
  rw [cnt_drop item l.length l h, List.drop_length]; rfl

theorem stkCells_at : ∀ (l : List (Int × Int)) (k : Nat) (p : Int × Int), l[k]? = some p → (stkCells l)[k * 2]? = some (.int .u32 p.1) ∧ (stkCells l)[k * 2 + 1]? = some (.int .u64 p.2) := by
  intro l
  induction l with
  | nil => intro k p h; simp at h
  | cons x l ih =>
    intro k p h
    have e : stkCells (x :: l) = .int .u32 x.1 :: .int .u64 x.2 :: stkCells l := by simp [stkCells]
    rw [e]
    cases k with
    | zero => simp at h; subst h; exact ⟨rfl, rfl⟩
    | succ k =>
      have := ih k p (by simpa using h)
      rw [show (k + 1) * 2 = k * 2 + 1 + 1 by omega]
      exact this

/-- The cells of one stack. -/
theorem Stks.cells {w : World} {base g n c : Nat} {l : List (Int × Int)} (h : Stks w base (.slice (some ⟨g, 0, none⟩) n c) l) {k : Nat} {p : Int × Int} (hk : l[k]? = some p) :
    w.cell? ⟨g, k * 2, none⟩ = some (.int .u32 p.1) ∧ w.cell? ⟨g, k * 2 + 1, none⟩ = some (.int .u64 p.2) := by
  obtain ⟨hl, hr⟩ := h
  rcases hr with ⟨h1, _⟩ | ⟨g', cap, cur, h1, h2, h3, h4, h5, h6, h7⟩
  · cases h1
  · cases h1
    have hkl : k < l.length := (List.getElem?_eq_some_iff.1 hk).1
    obtain ⟨e1, e2⟩ := stkCells_at l k p hk
    rw [cell_of_row w g _ cur _ _ h3, cell_of_row w g _ cur _ _ h3]
    have t : ∀ j, j < l.length * 2 → cur[j]? = (stkCells l)[j]? := by
      intro j hj
      rw [← h7, List.getElem?_take_of_lt hj, Array.getElem?_toList]
    rw [t _ (by omega), t _ (by omega)]
    exact ⟨e1, e2⟩
end Go.Proofs.Ytghpjmihlgfeaaa
