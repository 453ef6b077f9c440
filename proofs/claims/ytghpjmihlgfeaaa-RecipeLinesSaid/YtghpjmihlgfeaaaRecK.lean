/- The walks of the laws RecipeOwn and RecipeLines. -/
import Derived.Test.YtghpjmihlgfeaaaRecJ
namespace Go.Proofs.Ytghpjmihlgfeaaa
open Go.RowKit

theorem stkCells_set2 : ∀ (l : List (Int × Int)) (k : Nat) (a c : Int), k < l.length → ((stkCells l).set (k * 2) (.int .u32 a)).set (k * 2 + 1) (.int .u64 c) = stkCells (l.set k (a, c)) := by
  intro l
  induction l with
  | nil => intro k a c h; simp at h
  | cons x l ih =>
    intro k a c h
    have e : ∀ (x : Int × Int) l, stkCells (x :: l) = .int .u32 x.1 :: .int .u64 x.2 :: stkCells l := by intro x l; simp [stkCells]
    cases k with
    | zero => simp [e]
    | succ k =>
      rw [e, show (k + 1) * 2 = k * 2 + 1 + 1 by omega, List.set_cons_succ, List.set_cons_succ, List.set_cons_succ, List.set_cons_succ, ih k a c (by simpa using h), List.set_cons_succ, e]

theorem StkAt.set2 {w : World} {x : Nat} {l : List (Int × Int)} (h : StkAt w x l) {k : Nat} (hk : k < l.length) (a c : Int) : StkAt ((w.setCell ⟨x, k * 2, none⟩ (.int .u32 a)).setCell ⟨x, k * 2 + 1, none⟩ (.int .u64 c)) x (l.set k (a, c)) := by
  unfold StkAt at *
  simp only [World.setCell, Array.getElem?_modify, if_pos, h, Option.map_some, ← stkCells_set2 l k a c hk]
  simp

/-- What the loops of RecipeOwn hold. -/
structure OS (w wr : World) (b3 x y : Nat) (li lo : List (Int × Int)) : Prop where
  below : Below w.heap.size w wr
  hx : StkAt wr x li
  hy : StkAt wr y lo
  h3 : wr.heap[b3]? = some (.cells #[.slice (some ⟨x, 0, none⟩) li.length li.length, .slice (some ⟨y, 0, none⟩) lo.length lo.length] 26 (0, 0))
  l1 : w.heap.size ≤ x
  l2 : x < y
  l3 : y < b3

theorem OS.setX {w wr : World} {b3 x y : Nat} {li lo : List (Int × Int)} (h : OS w wr b3 x y li lo) {k : Nat} (hk : k < li.length) (a c : Int) : OS w ((wr.setCell ⟨x, k * 2, none⟩ (.int .u32 a)).setCell ⟨x, k * 2 + 1, none⟩ (.int .u64 c)) b3 x y (li.set k (a, c)) lo := by
  have l1 := h.l1
  have l2 := h.l2
  have l3 := h.l3
  refine ⟨(h.below.setCell (by show _ ≤ x; omega) _).setCell (by show _ ≤ x; omega) _, h.hx.set2 hk a c, (h.hy.other (by show y ≠ x; omega) _).other (by show y ≠ x; omega) _, ?_, l1, l2, l3⟩
  rw [Below.heap_setCell _ _ _ _ (by show b3 ≠ x; omega), Below.heap_setCell _ _ _ _ (by show b3 ≠ x; omega), List.length_set]; exact h.h3
theorem OS.setY {w wr : World} {b3 x y : Nat} {li lo : List (Int × Int)} (h : OS w wr b3 x y li lo) {k : Nat} (hk : k < lo.length) (a c : Int) : OS w ((wr.setCell ⟨y, k * 2, none⟩ (.int .u32 a)).setCell ⟨y, k * 2 + 1, none⟩ (.int .u64 c)) b3 x y li (lo.set k (a, c)) := by
  have l1 := h.l1
  have l2 := h.l2
  have l3 := h.l3
  refine ⟨(h.below.setCell (by show _ ≤ y; omega) _).setCell (by show _ ≤ y; omega) _, (h.hx.other (by show x ≠ y; omega) _).other (by show x ≠ y; omega) _, h.hy.set2 hk a c, ?_, l1, l2, l3⟩
  rw [Below.heap_setCell _ _ _ _ (by show b3 ≠ y; omega), Below.heap_setCell _ _ _ _ (by show b3 ≠ y; omega), List.length_set]; exact h.h3

/-- The cells that a round of RecipeOwn meets. -/
theorem OS.cells {w wr : World} {b3 x y : Nat} {li lo : List (Int × Int)} (h : OS w wr b3 x y li lo) :
    wr.cell? ⟨b3, 0, none⟩ = some (.slice (some ⟨x, 0, none⟩) li.length li.length) ∧ wr.cell? ⟨b3, 1, none⟩ = some (.slice (some ⟨y, 0, none⟩) lo.length lo.length) := by
  constructor
  · rw [cell_of_row wr _ _ _ _ _ h.h3]; rfl
  · rw [cell_of_row wr _ _ _ _ _ h.h3]; rfl

set_option maxRecDepth 100000 in
set_option maxHeartbeats 1000000 in
theorem recipeOwn_some (id : Int) (w : World) (hne : inL id ≠ []) :
    Calls Try.prog 5 #[.int .u32 id] w fun e w' => e = .returned (.bool true) ∧ Below w.heap.size w w' := by
  obtain ⟨_, _, s3, s4⟩ := rows_small id
  obtain ⟨d, hd⟩ : ∃ d, decide (inL id ≠ []) = d := ⟨_, rfl⟩
  have HD := Lib.hid hd
  have HNE := Lib.hid hne
  clear hd hne
  go_enter Try.func5, Try.ntmps5
  go_wp2_with fail
  refine (of_any _ _).mono ?_
  rintro e w1 ⟨r, rfl, b1, ⟨h1, h2, h3⟩ | ⟨_, x, y, rfl, l1, l2, k1, k2⟩⟩
  · exact absurd h1 HNE.out
  · rw [HD.out]
    have R0 : OS w (w1.alloc (.cells #[.slice (some ⟨x, 0, none⟩) (inL id).length (inL id).length, .slice (some ⟨y, 0, none⟩) (outL id).length (outL id).length] 26)) w1.heap.size x y (inL id) (outL id) := by
      have hb := b1.size
      have ly := heap_lt k2
      refine ⟨b1.alloc b1.size _, k1.keep (below_alloc _ _), k2.keep (below_alloc _ _), ?_, l1, l2, ly⟩
      show (w1.heap.push _)[_]? = _
      rw [Array.getElem?_push, if_pos rfl]
    clear k1 k2 l1 l2
    go_wp2_with fail
    go_loopw [5] (fun s5 wr => ∃ (k : Nat) (l' : List (Int × Int)), k ≤ (inL id).length ∧ s5 = .int .i64 k ∧ l'.length = (inL id).length ∧ OS w wr w1.heap.size x y l' (outL id)) (fun s5 _ => (inL id).length - (intOf s5).toNat)
    case atStart => exact ⟨0, _, Nat.zero_le _, rfl, rfl, R0⟩
    case round =>
      clear R0
      obtain ⟨k, l', hk, rfl, hl', R⟩ := hrel
      by_cases hlt : k < (inL id).length
      · have hkl : k < l'.length := by omega
        obtain ⟨p, hp⟩ : ∃ p, l'[k]? = some p := ⟨_, List.getElem?_eq_getElem hkl⟩
        obtain ⟨d1, d2, f2, f1⟩ := R.hx.cells hp
        obtain ⟨e1, e2⟩ := R.cells
        rw [hl'] at e1
        have R3 := R.setX hkl 99 0
        have HL := Lib.hid hl'
        have hn : (((inL id).length) : Int) ≤ 3 := by omega
        clear R hl' hp
        go_wp2_with fail
        go_roundw
        case rel => exact ⟨k + 1, l'.set k (99, 0), by omega, by go_num, by rw [List.length_set]; exact HL.out, R3⟩
        case measure => simp [intOf]; omega
      · obtain rfl : k = (inL id).length := by omega
        obtain ⟨e1, e2⟩ := R.cells
        rw [hl'] at e1
        have HL := Lib.hid hl'
        have R1 := Lib.hid R
        clear R hl'
        go_wp2_with fail
        obtain ⟨wo, hwo⟩ : ∃ wo : World, wo = wr := ⟨_, rfl⟩
        have li := HL.out
        go_loopw [6] (fun s6 wr => ∃ (k : Nat) (m' : List (Int × Int)), k ≤ (outL id).length ∧ s6 = .int .i64 k ∧ m'.length = (outL id).length ∧ OS w wr w1.heap.size x y l' m') (fun s6 _ => (outL id).length - (intOf s6).toNat)
        case atStart => exact ⟨0, _, Nat.zero_le _, rfl, rfl, R1.out⟩
        case round =>
          obtain ⟨k, m', hk, rfl, hm', R⟩ := hrel
          by_cases hlt : k < (outL id).length
          · have hkl : k < m'.length := by omega
            obtain ⟨p, hp⟩ : ∃ p, m'[k]? = some p := ⟨_, List.getElem?_eq_getElem hkl⟩
            obtain ⟨d1, d2, f2, f1⟩ := R.hy.cells hp
            obtain ⟨e1, e2⟩ := R.cells
            rw [hm'] at e2
            have R3 := R.setY hkl 99 0
            have HM := Lib.hid hm'
            have hn : ((outL id).length : Int) ≤ 3 := by omega
            clear R hm' hp hwo R1 li
            go_wp2_with fail
            go_roundw
            case rel => exact ⟨k + 1, m'.set k (99, 0), by omega, by go_num, by rw [List.length_set]; exact HM.out, R3⟩
            case measure => simp [intOf]; omega
          · obtain rfl : k = (outL id).length := by omega
            obtain ⟨e1, e2⟩ := R.cells
            rw [hm'] at e2
            have B0 := R.below
            clear R hm' hwo R1 li HL
            go_wp2_with fail
            refine (of_two _ _).mono ?_
            rintro e w2 ⟨r, rfl, b2, v1, v2, rfl, k1, k2⟩
            obtain ⟨a1, c1, rfl⟩ := k1.shape
            obtain ⟨a2, c2, rfl⟩ := k2.shape
            rw [HD.out]
            clear e1 e2
            go_wp2_with fail
            refine (refOf_any _ _).mono ?_
            rintro e w3 ⟨r, rfl, b3, v3, v4, rfl, k3, k4⟩
            obtain ⟨a3, c3, rfl⟩ := k3.shape
            obtain ⟨a4, c4, rfl⟩ := k4.shape
            rw [HD.out]
            go_wp2_with fail
            refine (recKnown_any _).mono ?_
            rintro e w4 ⟨rfl, b4⟩
            have t1 := below_trans b3 (below_trans (below_alloc _ _) b4)
            obtain ⟨x1, x2, _, _, y1⟩ := kept_two _ _ _ _ _ t1
            obtain ⟨x3, x4, _, _, y2⟩ := kept_two _ _ _ _ _ b4
            have q1 := Lib.hid (k1.below (below_trans (below_alloc _ _) t1))
            have q2 := Lib.hid (k2.below (below_trans (below_alloc _ _) t1))
            have q3 := Lib.hid (k3.below (below_trans (below_alloc _ _) b4))
            have q4 := Lib.hid (k4.below (below_trans (below_alloc _ _) b4))
            have T0 := Lib.hid (below_trans B0 (below_trans b2 (below_trans (below_alloc _ _) t1)))
            clear k1 k2 k3 k4 t1 b2 b3 b4 B0
            go_wp2_with fail
            refine (same_any _ _ _ _ _ _ _ _ _ _ _ _ _ q1.out q2.out q3.out q4.out (by omega) (by omega) (by omega) (by omega)).mono ?_
            rintro e w8 ⟨rfl, b8⟩
            have e1 : (decide (inL id = inL id) && decide (outL id = outL id)) = true := by simp
            rw [e1]
            go_wp2_with fail
            go_ret
            exact ⟨rfl, below_trans T0.out b8⟩

set_option maxRecDepth 100000 in
set_option maxHeartbeats 1000000 in
theorem recipeOwn_none (id : Int) (w : World) (hne : inL id = []) :
    Calls Try.prog 5 #[.int .u32 id] w fun e w' => e = .returned (.bool true) ∧ Below w.heap.size w w' := by
  obtain ⟨_, _, s3, s4⟩ := rows_small id
  obtain ⟨d, hd⟩ : ∃ d, decide (inL id ≠ []) = d := ⟨_, rfl⟩
  have HD := Lib.hid hd
  have HNE := Lib.hid hne
  clear hd hne
  go_enter Try.func5, Try.ntmps5
  go_wp2_with fail
  refine (of_any _ _).mono ?_
  rintro e w1 ⟨r, rfl, b1, ⟨h1, h2, rfl⟩ | ⟨hne, x, y, rfl, l1, l2, k1, k2⟩⟩
  · rw [HD.out]
    clear h1 h2
    go_wp2_with fail
    go_loop [5] (fun s5 => s5 = .int .i64 0) (fun _ => 0)
    case atStart => rfl
    case round =>
      subst hrel
      go_wp2_with fail
      go_loop [6] (fun s6 => s6 = .int .i64 0) (fun _ => 0)
      case atStart => rfl
      case round =>
        subst hrel
        go_wp2_with fail
        refine (of_two _ _).mono ?_
        rintro e w2 ⟨r, rfl, b2, v1, v2, rfl, k1, k2⟩
        obtain ⟨a1, c1, rfl⟩ := k1.shape
        obtain ⟨a2, c2, rfl⟩ := k2.shape
        rw [HD.out]
        go_wp2_with fail
        refine (refOf_any _ _).mono ?_
        rintro e w3 ⟨r, rfl, b3, v3, v4, rfl, k3, k4⟩
        obtain ⟨a3, c3, rfl⟩ := k3.shape
        obtain ⟨a4, c4, rfl⟩ := k4.shape
        rw [HD.out]
        go_wp2_with fail
        refine (recKnown_any _).mono ?_
        rintro e w4 ⟨rfl, b4⟩
        have t1 := below_trans b3 (below_trans (below_alloc _ _) b4)
        obtain ⟨x1, x2, _, _, y1⟩ := kept_two _ _ _ _ _ t1
        obtain ⟨x3, x4, _, _, y2⟩ := kept_two _ _ _ _ _ b4
        have q1 := Lib.hid (k1.below (below_trans (below_alloc _ _) t1))
        have q2 := Lib.hid (k2.below (below_trans (below_alloc _ _) t1))
        have q3 := Lib.hid (k3.below (below_trans (below_alloc _ _) b4))
        have q4 := Lib.hid (k4.below (below_trans (below_alloc _ _) b4))
        have T0 := Lib.hid (below_trans b1 (below_trans (below_alloc _ _) (below_trans b2 (below_trans (below_alloc _ _) t1))))
        clear k1 k2 k3 k4 t1 b1 b2 b3 b4
        go_wp2_with fail
        refine (same_any _ _ _ _ _ _ _ _ _ _ _ _ _ q1.out q2.out q3.out q4.out (by omega) (by omega) (by omega) (by omega)).mono ?_
        rintro e w8 ⟨rfl, b8⟩
        have e1 : (decide (inL id = inL id) && decide (outL id = outL id)) = true := by simp
        rw [e1]
        go_wp2_with fail
        go_ret
        exact ⟨rfl, below_trans T0.out b8⟩
  · exact absurd HNE.out hne

theorem recipeOwn_walk (id : Int) (w : World) : Calls Try.prog 5 #[.int .u32 id] w fun e w' => e = .returned (.bool true) ∧ Below w.heap.size w w' := by
  by_cases h : inL id = []
  · exact recipeOwn_none id w h
  · exact recipeOwn_some id w h

/-- Of each item once, and something of each. -/
theorem lines_in (id : Int) : (∀ (i k : Nat) p q, k < i → (inL id)[i]? = some p → (inL id)[k]? = some q → p.1 ≠ q.1) ∧ (∀ p ∈ inL id, p.2 ≠ 0) ∧ (inL id ≠ [] → outL id ≠ []) := by
  have key : ∀ l : List (Int × Int), (l.length ≤ 3 ∧ (∀ i, i < 3 → ∀ k, k < i → ∀ p q, l[i]? = some p → l[k]? = some q → p.1 ≠ q.1)) → ∀ (i k : Nat) p q, k < i → l[i]? = some p → l[k]? = some q → p.1 ≠ q.1 := by
    intro l ⟨hl, h⟩ i k p q hk hp hq
    have : i < l.length := (List.getElem?_eq_some_iff.1 hp).1
    exact h i (by omega) k hk p q hp hq
  refine ⟨key _ ?_, ?_, ?_⟩
  · unfold inL
    repeat' split
    all_goals
      refine ⟨by decide, ?_⟩
      intro i hi k hk p q hp hq
      rcases (show (i = 1 ∧ k = 0) ∨ (i = 2 ∧ k = 0) ∨ (i = 2 ∧ k = 1) by omega) with ⟨rfl, rfl⟩ | ⟨rfl, rfl⟩ | ⟨rfl, rfl⟩ <;> simp at hp hq <;> (try subst hp) <;> (try subst hq) <;> decide
  · unfold inL
    repeat' split
    all_goals decide
  · unfold inL outL
    repeat' split
    all_goals decide
end Go.Proofs.Ytghpjmihlgfeaaa
