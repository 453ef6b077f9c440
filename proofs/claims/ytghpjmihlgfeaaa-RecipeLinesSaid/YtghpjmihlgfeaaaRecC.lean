/- Contracts of the reference's line, Of, Needs. -/
import Derived.Test.YtghpjmihlgfeaaaRecB
namespace Go.Proofs.Ytghpjmihlgfeaaa
open Go.RowKit

def flat (l : List (Int × Int)) : List Int := l.flatMap fun p => [p.1, p.2]
def mulL (n : Int) (l : List (Int × Int)) : List (Int × Int) := l.map fun p => (p.1, p.2 * n)

theorem flat_len (l : List (Int × Int)) : (flat l).length = 2 * l.length := by
  induction l with
  | nil => rfl
  | cons x l ih =>
    have h : flat (x :: l) = [x.1, x.2] ++ flat l := by simp [flat]
    rw [h, List.length_append, ih]; simp; omega
theorem prs_cons (x : Int × Int) (l : List (Int × Int)) (n : Int) (k : Nat) : prs (flat (x :: l)) n (k + 1) = (x.1, x.2 * n) :: prs (flat l) n k := by
  have h : flat (x :: l) = x.1 :: x.2 :: flat l := by simp [flat]
  unfold prs
  rw [List.range_succ_eq_map, List.map_cons, List.map_map]
  rw [h]
  congr 1
theorem prs_flat (l : List (Int × Int)) (n : Int) : prs (flat l) n l.length = mulL n l := by
  induction l with
  | nil => rfl
  | cons x l ih => rw [List.length_cons, prs_cons, ih]; rfl
theorem mulL_one (l : List (Int × Int)) : mulL 1 l = l := by simp [mulL]
theorem mulL_len (n : Int) (l : List (Int × Int)) : (mulL n l).length = l.length := by simp [mulL]

/-- A row of u64 in a new block. -/
theorem rowU_new (w : World) (zs : List Int) (h : ∀ x ∈ zs, 0 ≤ x ∧ x ≤ 18446744073709551615) (x : Nat) (fr : Nat × Nat) (t : TypeId) (hb : w.heap[x]? = some (.cells (zs.map (Value.int .u64)).toArray t fr)) : RowU w (some ⟨x, 0, none⟩) zs := by
  refine ⟨h, .inr ⟨x, 0, rfl, fun i hi => ?_⟩⟩
  rw [Nat.zero_add]
  rw [cell_of_row w x i _ t fr hb]
  simp [List.getElem?_eq_getElem hi]

def LineTold (id : Int) (w : World) (e : Ending) (w' : World) : Prop :=
  Below w.heap.size w w' ∧ ((inL id = [] ∧ outL id = [] ∧ e = .returned (.tuple #[.slice none 0 0, .slice none 0 0])) ∨
    inL id ≠ [] ∧ ∃ x y, e = .returned (.tuple #[.slice (some ⟨x, 0, none⟩) (flat (inL id)).length (flat (inL id)).length, .slice (some ⟨y, 0, none⟩) (flat (outL id)).length (flat (outL id)).length]) ∧
      RowU w' (some ⟨x, 0, none⟩) (flat (inL id)) ∧ RowU w' (some ⟨y, 0, none⟩) (flat (outL id)))

theorem line_of (id : Int) (w : World) (h0 : inL id ≠ []) (h1 : ∀ x ∈ flat (inL id), 0 ≤ x ∧ x ≤ 18446744073709551615) (h2 : ∀ x ∈ flat (outL id), 0 ≤ x ∧ x ≤ 18446744073709551615) :
    LineTold id w (.returned (.tuple #[.slice (some ⟨w.heap.size, 0, none⟩) (flat (inL id)).length (flat (inL id)).length, .slice (some ⟨w.heap.size + 1, 0, none⟩) (flat (outL id)).length (flat (outL id)).length]))
      ((w.alloc (.cells ((flat (inL id)).map (Value.int .u64)).toArray 23)).alloc (.cells ((flat (outL id)).map (Value.int .u64)).toArray 23)) := by
  refine ⟨((Below.refl _ _).alloc (Nat.le_refl _) _).alloc (by simp) _, .inr ⟨h0, _, _, rfl, rowU_new _ _ h1 _ (0, 0) 23 ?_, rowU_new _ _ h2 _ (0, 0) 23 ?_⟩⟩
  · rw [Below.heap_alloc _ _ _ (by simp)]
    show (w.heap.push _)[_]? = _
    rw [Array.getElem?_push, if_pos rfl]
  · show ((w.alloc _).heap.push _)[_]? = _
    rw [Array.getElem?_push, if_pos (by simp)]

set_option maxRecDepth 100000 in
set_option maxHeartbeats 400000 in
theorem line_1 (w : World) : Calls Try.prog 34 #[.int .u32 1] w (LineTold 1 w) := by
  go_enter Try.func34, Try.ntmps34
  go_wp2_with fail
  go_ret2
  exact line_of 1 w (by decide) (by decide) (by decide)

set_option maxRecDepth 100000 in
set_option maxHeartbeats 400000 in
theorem line_2 (w : World) : Calls Try.prog 34 #[.int .u32 2] w (LineTold 2 w) := by
  go_enter Try.func34, Try.ntmps34
  go_wp2_with fail
  go_ret2
  exact line_of 2 w (by decide) (by decide) (by decide)

set_option maxRecDepth 100000 in
set_option maxHeartbeats 400000 in
theorem line_3 (w : World) : Calls Try.prog 34 #[.int .u32 3] w (LineTold 3 w) := by
  go_enter Try.func34, Try.ntmps34
  go_wp2_with fail
  go_ret2
  exact line_of 3 w (by decide) (by decide) (by decide)

set_option maxRecDepth 100000 in
set_option maxHeartbeats 400000 in
theorem line_4 (w : World) : Calls Try.prog 34 #[.int .u32 4] w (LineTold 4 w) := by
  go_enter Try.func34, Try.ntmps34
  go_wp2_with fail
  go_ret2
  exact line_of 4 w (by decide) (by decide) (by decide)

set_option maxRecDepth 100000 in
set_option maxHeartbeats 400000 in
theorem line_5 (w : World) : Calls Try.prog 34 #[.int .u32 5] w (LineTold 5 w) := by
  go_enter Try.func34, Try.ntmps34
  go_wp2_with fail
  go_ret2
  exact line_of 5 w (by decide) (by decide) (by decide)

set_option maxRecDepth 100000 in
set_option maxHeartbeats 400000 in
theorem line_6 (w : World) : Calls Try.prog 34 #[.int .u32 6] w (LineTold 6 w) := by
  go_enter Try.func34, Try.ntmps34
  go_wp2_with fail
  go_ret2
  exact line_of 6 w (by decide) (by decide) (by decide)

set_option maxRecDepth 100000 in
set_option maxHeartbeats 400000 in
theorem line_none (id : Int) (w : World) (h : id < 1 ∨ 6 < id) : Calls Try.prog 34 #[.int .u32 id] w (LineTold id w) := by
  have e1 : (id == 1) = false := by simp; omega
  have e2 : (id == 2) = false := by simp; omega
  have e3 : (id == 3) = false := by simp; omega
  have e4 : (id == 4) = false := by simp; omega
  have e5 : (id == 5) = false := by simp; omega
  have e6 : (id == 6) = false := by simp; omega
  have hi : Hid (inL id = [] ∧ outL id = []) := Lib.hid (by
    unfold inL outL
    simp only [beq_eq_false_iff_ne] at e1 e2 e3 e4 e5 e6
    simp [e1, e2, e3, e4, e5, e6])
  clear h
  go_enter Try.func34, Try.ntmps34
  go_wp2_with fail
  go_ret2
  exact ⟨Below.refl _ _, .inl ⟨hi.out.1, hi.out.2, rfl⟩⟩

theorem line_any (id : Int) (w : World) : Calls Try.prog 34 #[.int .u32 id] w (LineTold id w) := by
  by_cases h : id < 1 ∨ 6 < id
  · exact line_none id w h
  · rcases (show id = 1 ∨ id = 2 ∨ id = 3 ∨ id = 4 ∨ id = 5 ∨ id = 6 by omega) with rfl | rfl | rfl | rfl | rfl | rfl
    · exact line_1 w
    · exact line_2 w
    · exact line_3 w
    · exact line_4 w
    · exact line_5 w
    · exact line_6 w

theorem owns_below {w w' : World} {base : Nat} {e : TypeId} {size : Nat} {v : Value} {n : Nat} {xs : List Value} (h : w.ownsRow base e size v n xs) (hb : Below w.heap.size w w') : w'.ownsRow base e size v n xs := by
  refine ⟨h.1, ?_⟩
  rcases h.2 with h2 | ⟨g, cap, cur, h1, h2, h3, h4⟩
  · exact .inl h2
  · refine .inr ⟨g, cap, cur, h1, h2, ?_, h4⟩
    rw [hb.block g (by have := (Array.getElem?_eq_some_iff.1 h3).1; omega)]; exact h3
theorem owns_mono {w : World} {base base' : Nat} {e : TypeId} {size : Nat} {v : Value} {n : Nat} {xs : List Value} (h : w.ownsRow base e size v n xs) (hb : base' ≤ base) : w.ownsRow base' e size v n xs := by
  refine ⟨h.1, ?_⟩
  rcases h.2 with h2 | ⟨g, cap, cur, h1, h2, h3, h4⟩
  · exact .inl h2
  · exact .inr ⟨g, cap, cur, h1, by omega, h3, h4⟩

/-- A slice of stacks that the call has made. -/
def Stks (w : World) (base : Nat) (v : Value) (l : List (Int × Int)) : Prop := w.ownsRow base 41 2 v l.length (stkCells l)

theorem Stks.below {w w' : World} {base : Nat} {v : Value} {l : List (Int × Int)} (h : Stks w base v l) (hb : Below w.heap.size w w') : Stks w' base v l := owns_below h hb
theorem Stks.mono {w : World} {base base' : Nat} {v : Value} {l : List (Int × Int)} (h : Stks w base v l) (hb : base' ≤ base) : Stks w base' v l := owns_mono h hb
theorem Stks.shape {w : World} {base : Nat} {v : Value} {l : List (Int × Int)} (h : Stks w base v l) : ∃ a c, v = .slice a l.length c := by
  rcases h.2 with ⟨rfl, h2⟩ | ⟨g, cap, cur, rfl, _⟩
  · exact ⟨none, 0, by rw [h2]⟩
  · exact ⟨_, _, rfl⟩
theorem Stks.setCell {w : World} {base : Nat} {v : Value} {l : List (Int × Int)} (h : Stks w base v l) {p : Addr} (hp : p.block < base) (u : Value) : Stks (w.setCell p u) base v l := by
  refine ⟨h.1, ?_⟩
  rcases h.2 with h2 | ⟨g, cap, cur, h1, h2, h3, h4⟩
  · exact .inl h2
  · exact .inr ⟨g, cap, cur, h1, h2, by rw [Below.heap_setCell _ _ _ _ (by omega)]; exact h3, h4⟩
theorem Stks.nil (w : World) (base : Nat) : Stks w base (.slice none 0 0) [] := ⟨rfl, .inl ⟨rfl, rfl⟩⟩

theorem stacks_row (b : Nat) (l : List (Int × Int)) (cap : Nat) (n : Int) (w : World) (hr : RowU w (some ⟨b, 0, none⟩) (flat l)) (hz : ∀ x ∈ flat l, x ≤ 1000) (n0 : 0 ≤ n) (n1 : n ≤ 1000) (hl : l.length ≤ 1000) :
    Calls Try.prog 35 #[.slice (some ⟨b, 0, none⟩) (flat l).length cap, .int .u64 n] w fun e w' => ∃ v, e = .returned v ∧ Stks w' w.heap.size v (mulL n l) ∧ Below w.heap.size w w' := by
  refine (stacks_any b 0 (flat l) cap n l.length w (flat_len l) hr hz n0 n1 hl).mono ?_
  rintro e w' ⟨v, rfl, h, hb⟩
  rw [prs_flat] at h
  exact ⟨v, rfl, by unfold Stks; rw [mulL_len]; exact h, hb⟩

set_option maxHeartbeats 400000 in
theorem stacks_nil (n : Int) (w : World) :
    Calls Try.prog 35 #[.slice none 0 0, .int .u64 n] w fun e w' => e = .returned (.slice none 0 0) ∧ w = w' := by
  go_enter Try.func35, Try.ntmps35
  go_wp2_with fail
  go_loop [5, 6] (fun v i => v = .slice none 0 0 ∧ i = .int .i64 0) (fun _ _ => 0)
  case atStart => exact ⟨rfl, rfl⟩
  case round =>
    obtain ⟨rfl, rfl⟩ := hrel
    go_wp2_with fail
    go_ret
    exact ⟨rfl, rfl⟩

theorem rows_small (id : Int) : (∀ x ∈ flat (inL id), x ≤ 1000) ∧ (∀ x ∈ flat (outL id), x ≤ 1000) ∧ (inL id).length ≤ 3 ∧ (outL id).length ≤ 2 := by
  unfold inL outL
  repeat' split
  all_goals decide

/-- What a recipe's call hands back: two slices in new memory. -/
def Two (w : World) (i o : List (Int × Int)) (r : Value) (w' : World) : Prop := Below w.heap.size w w' ∧ ∃ vi vo, r = .agg #[vi, vo] ∧ Stks w' w.heap.size vi i ∧ Stks w' w.heap.size vo o

def SomeTwo (x : Value) (i o : List (Int × Int)) (w : World) (e : Ending) (w' : World) : Prop := ∃ r, e = .returned (.tuple #[r, x]) ∧ Two w i o r w'

theorem cell_keep {w w' : World} (hb : Below w.heap.size w w') {a : Addr} {v : Value} (h : w.cell? a = some v) : w'.cell? a = some v := by
  rw [hb.cell (World.block_lt_of_cell? _ _ h)]; exact h
theorem frozen_keep {w w' : World} (hb : Below w.heap.size w w') {a : Addr} {v : Value} (h : w.cell? a = some v) (hf : w.frozen? a = false) : w'.frozen? a = false := by
  rw [hb.frozen (World.block_lt_of_cell? _ _ h)]; exact hf

/-- A box of two cells behind calls that keep what was there. -/
theorem kept_two (w w' : World) (a b : Value) (t : TypeId) (B : Below (w.alloc (.cells #[a, b] t)).heap.size (w.alloc (.cells #[a, b] t)) w') :
    w'.cell? ⟨w.heap.size, 0, none⟩ = some a ∧ w'.cell? ⟨w.heap.size, 1, none⟩ = some b ∧ w'.frozen? ⟨w.heap.size, 0, none⟩ = false ∧ w'.frozen? ⟨w.heap.size, 1, none⟩ = false ∧ w.heap.size < w'.heap.size := by
  have hs := B.size
  rw [World.size_alloc] at hs
  refine ⟨?_, ?_, ?_, ?_, hs⟩
  · rw [B.cell (by simp)]; simp [go_sem]
  · rw [B.cell (by simp)]; simp [go_sem]
  · rw [B.frozen (by simp)]; simp [go_sem]
  · rw [B.frozen (by simp)]; simp [go_sem]

set_option maxRecDepth 100000 in
set_option maxHeartbeats 400000 in
theorem refOf_some (id : Int) (w : World) (h : inL id ≠ []) : Calls Try.prog 15 #[.int .u32 id] w (SomeTwo (.bool (decide (inL id ≠ []))) (inL id) (outL id) w) := by
  obtain ⟨s1, s2, s3, s4⟩ := rows_small id
  go_enter Try.func15, Try.ntmps15
  go_wp2_with fail
  refine (line_any _ _).mono ?_
  rintro e w1 ⟨b1, ⟨h1, h2, rfl⟩ | ⟨hne, x, y, rfl, r1, r2⟩⟩
  · exact absurd h1 h
  · have hl : (inL id).length ≠ 0 := by simpa using h
    have hd : Hid (decide (inL id ≠ []) = true) := Lib.hid (by simpa using h)
    have hp : 0 < (flat (inL id)).length := by rw [flat_len]; omega
    clear h
    go_wp2_with fail
    refine (stacks_row _ _ _ _ _ r1 s1 (by omega) (by omega) (by omega)).mono ?_
    rintro e w2 ⟨vi, rfl, k1, b2⟩
    obtain ⟨ai, ci, rfl⟩ := k1.shape
    have r2' := r2.below b2
    go_wp2_with fail
    refine (stacks_row _ _ _ _ _ r2' s2 (by omega) (by omega) (by omega)).mono ?_
    rintro e w3 ⟨vo, rfl, k2, b3⟩
    obtain ⟨ao, co, rfl⟩ := k2.shape
    have B := below_trans b1 (below_trans b2 b3)
    obtain ⟨c0, c1, f0, f1, hs⟩ := kept_two _ _ _ _ _ B
    have hb1 := b1.size
    have hb2 := b2.size
    rw [World.size_alloc] at hb1
    go_wp2_with fail
    refine bodyPost_ret (v := .tuple #[.agg #[.slice ai (mulL 1 (inL id)).length ci, .slice ao (mulL 1 (outL id)).length co], .bool true]) (by simp [results, Try.results15, go_sem, c0, c1]) rfl ⟨_, by rw [hd.out], ?_, _, _, rfl, ?_, ?_⟩
    · exact ((((Below.refl _ _).alloc (Nat.le_refl _) _).trans (B.mono (by simp))).setCell (Nat.le_refl _) _).setCell (Nat.le_refl _) _
    · simp only [mulL_one] at k1 ⊢; exact (((k1.below b3).setCell (by simp; omega) _).setCell (by simp; omega) _).mono (by omega)
    · simp only [mulL_one] at k2 ⊢; exact ((k2.setCell (p := ⟨w.heap.size, 0, none⟩) (show w.heap.size < w2.heap.size by omega) _).setCell (p := ⟨w.heap.size, 1, none⟩) (show w.heap.size < w2.heap.size by omega) _).mono (by omega)

set_option maxRecDepth 100000 in
set_option maxHeartbeats 400000 in
theorem refOf_none (id : Int) (w : World) (h : inL id = []) : Calls Try.prog 15 #[.int .u32 id] w (SomeTwo (.bool (decide (inL id ≠ []))) (inL id) (outL id) w) := by
  go_enter Try.func15, Try.ntmps15
  go_wp2_with fail
  refine (line_any _ _).mono ?_
  rintro e w1 ⟨b1, ⟨h1, h2, rfl⟩ | ⟨hne, x, y, rfl, r1, r2⟩⟩
  · have H1 := Lib.hid h1
    have H2 := Lib.hid h2
    clear h h1 h2
    go_wp2_with fail
    refine (stacks_nil _ _).mono ?_
    rintro e w2 ⟨rfl, rfl⟩
    go_wp2_with fail
    refine (stacks_nil _ _).mono ?_
    rintro e w2 ⟨rfl, rfl⟩
    obtain ⟨c0, c1, f0, f1, hs⟩ := kept_two _ _ _ _ _ b1
    go_wp2_with fail
    refine bodyPost_ret (v := .tuple #[.agg #[.slice none 0 0, .slice none 0 0], .bool false]) (by simp [results, Try.results15, go_sem, c0, c1]) rfl ⟨_, by rw [H1.out]; rfl, ?_, _, _, rfl, by rw [H1.out]; exact Stks.nil _ _, by rw [H2.out]; exact Stks.nil _ _⟩
    exact ((((Below.refl _ _).alloc (Nat.le_refl _) _).trans (b1.mono (by simp))).setCell (Nat.le_refl _) _).setCell (Nat.le_refl _) _
  · exact absurd h hne

theorem refOf_any (id : Int) (w : World) : Calls Try.prog 15 #[.int .u32 id] w (SomeTwo (.bool (decide (inL id ≠ []))) (inL id) (outL id) w) := by
  by_cases h : inL id = []
  · exact refOf_none id w h
  · exact refOf_some id w h
end Go.Proofs.Ytghpjmihlgfeaaa
