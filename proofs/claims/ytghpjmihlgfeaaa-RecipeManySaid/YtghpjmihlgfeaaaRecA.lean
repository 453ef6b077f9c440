/- Contracts of package recipe: recipe, Of. -/
import Derived.Test.YtghpjmihlgfeaaaMoneyC
import Derived.Outline
namespace Go.Proofs.Ytghpjmihlgfeaaa
open Go.RowKit

set_option maxHeartbeats 400000 in
theorem recipe_any (a b : Option Addr) (n c m d : Nat) (w : World) :
    Calls Try.prog 33 #[.slice a n c, .slice b m d] w fun e w' => e = .returned (.tuple #[.agg #[.slice a n c, .slice b m d], .bool true]) ∧ w.alloc (.cells #[.slice a n c, .slice b m d] 26) = w' := by
  go_enter Try.func33, Try.ntmps33
  go_wp2
  exact bodyPost_ret (v := .tuple #[.agg #[.slice a n c, .slice b m d], .bool true]) (by simp [results, Try.results33, go_sem]) rfl ⟨rfl, rfl⟩

/-- The cells of a list of stacks. -/
def stkCells (l : List (Int × Int)) : List Value := l.flatMap fun p => [.int .u32 p.1, .int .u64 p.2]
/-- A block that is a list of stacks. -/
def StkAt (w : World) (x : Nat) (l : List (Int × Int)) : Prop := w.heap[x]? = some (.cells (stkCells l).toArray 41 (0, 0))

/-- The recipes: what goes, and what comes. -/
def inL (id : Int) : List (Int × Int) := if id = 1 then [(1, 2)] else if id = 2 then [(2, 1), (3, 1)] else if id = 3 then [(4, 1)] else if id = 4 then [(5, 10)] else if id = 5 then [(6, 1), (4, 2), (1, 5)] else if id = 6 then [(7, 1)] else []
def outL (id : Int) : List (Int × Int) := if id = 1 then [(2, 1)] else if id = 2 then [(4, 1)] else if id = 3 then [(2, 1), (5, 3)] else if id = 4 then [(6, 1), (5, 1)] else if id = 5 then [(7, 1)] else if id = 6 then [(6, 1), (1, 4)] else []

/-- What a call tells that hands back a recipe in new memory. -/
def Told (w : World) (i o : List (Int × Int)) (r : Value) (w' : World) : Prop :=
  Below w.heap.size w w' ∧ ((i = [] ∧ o = [] ∧ r = .agg #[.slice none 0 0, .slice none 0 0]) ∨
    i ≠ [] ∧ ∃ x y, r = .agg #[.slice (some ⟨x, 0, none⟩) i.length i.length, .slice (some ⟨y, 0, none⟩) o.length o.length] ∧ w.heap.size ≤ x ∧ x < y ∧ StkAt w' x i ∧ StkAt w' y o)

def SomeTold (id : Int) (w : World) (e : Ending) (w' : World) : Prop := ∃ r, e = .returned (.tuple #[r, .bool (decide (inL id ≠ []))]) ∧ Told w (inL id) (outL id) r w'

theorem told_of (w : World) (i o : List (Int × Int)) (A B : Obj) (hi : i ≠ []) :
    Told w i o (.agg #[.slice (some ⟨w.heap.size + 1, 0, none⟩) i.length i.length, .slice (some ⟨w.heap.size + 1 + 1, 0, none⟩) o.length o.length])
      ((((w.alloc A).alloc (.cells (stkCells i).toArray 41)).alloc (.cells (stkCells o).toArray 41)).alloc B) := by
  refine ⟨((((Below.refl _ _).alloc (Nat.le_refl _) _).alloc (by simp) _).alloc (by simp; omega) _).alloc (by simp; omega) _, .inr ⟨hi, _, _, rfl, by omega, by omega, ?_, ?_⟩⟩
  · unfold StkAt
    rw [Below.heap_alloc _ _ _ (by simp), Below.heap_alloc _ _ _ (by simp)]
    show ((w.alloc A).heap.push _)[_]? = _
    rw [Array.getElem?_push, if_pos (by simp)]
  · unfold StkAt
    rw [Below.heap_alloc _ _ _ (by simp)]
    show (((w.alloc A).alloc _).heap.push _)[_]? = _
    rw [Array.getElem?_push, if_pos (by simp)]

set_option maxRecDepth 100000 in
set_option maxHeartbeats 400000 in
theorem of_1 (w : World) : Calls Try.prog 14 #[.int .u32 1] w (SomeTold 1 w) := by
  go_enter Try.func14, Try.ntmps14
  go_wp2_with fail
  refine (recipe_any _ _ _ _ _ _ _).mono ?_
  rintro e w1 ⟨rfl, rfl⟩
  go_wp2_with fail
  exact bodyPost_ret (v := .tuple #[.agg #[.slice (some ⟨w.heap.size + 1, 0, none⟩) 1 1, .slice (some ⟨w.heap.size + 1 + 1, 0, none⟩) 1 1], .bool true]) (by simp [results, Try.results14, go_sem]) rfl ⟨_, rfl, told_of w (inL 1) (outL 1) _ _ (by decide)⟩

set_option maxRecDepth 100000 in
set_option maxHeartbeats 400000 in
theorem of_2 (w : World) : Calls Try.prog 14 #[.int .u32 2] w (SomeTold 2 w) := by
  go_enter Try.func14, Try.ntmps14
  go_wp2_with fail
  refine (recipe_any _ _ _ _ _ _ _).mono ?_
  rintro e w1 ⟨rfl, rfl⟩
  go_wp2_with fail
  exact bodyPost_ret (v := .tuple #[.agg #[.slice (some ⟨w.heap.size + 1, 0, none⟩) 2 2, .slice (some ⟨w.heap.size + 1 + 1, 0, none⟩) 1 1], .bool true]) (by simp [results, Try.results14, go_sem]) rfl ⟨_, rfl, told_of w (inL 2) (outL 2) _ _ (by decide)⟩

set_option maxRecDepth 100000 in
set_option maxHeartbeats 400000 in
theorem of_3 (w : World) : Calls Try.prog 14 #[.int .u32 3] w (SomeTold 3 w) := by
  go_enter Try.func14, Try.ntmps14
  go_wp2_with fail
  refine (recipe_any _ _ _ _ _ _ _).mono ?_
  rintro e w1 ⟨rfl, rfl⟩
  go_wp2_with fail
  exact bodyPost_ret (v := .tuple #[.agg #[.slice (some ⟨w.heap.size + 1, 0, none⟩) 1 1, .slice (some ⟨w.heap.size + 1 + 1, 0, none⟩) 2 2], .bool true]) (by simp [results, Try.results14, go_sem]) rfl ⟨_, rfl, told_of w (inL 3) (outL 3) _ _ (by decide)⟩

set_option maxRecDepth 100000 in
set_option maxHeartbeats 400000 in
theorem of_4 (w : World) : Calls Try.prog 14 #[.int .u32 4] w (SomeTold 4 w) := by
  go_enter Try.func14, Try.ntmps14
  go_wp2_with fail
  refine (recipe_any _ _ _ _ _ _ _).mono ?_
  rintro e w1 ⟨rfl, rfl⟩
  go_wp2_with fail
  exact bodyPost_ret (v := .tuple #[.agg #[.slice (some ⟨w.heap.size + 1, 0, none⟩) 1 1, .slice (some ⟨w.heap.size + 1 + 1, 0, none⟩) 2 2], .bool true]) (by simp [results, Try.results14, go_sem]) rfl ⟨_, rfl, told_of w (inL 4) (outL 4) _ _ (by decide)⟩

set_option maxRecDepth 100000 in
set_option maxHeartbeats 400000 in
theorem of_5 (w : World) : Calls Try.prog 14 #[.int .u32 5] w (SomeTold 5 w) := by
  go_enter Try.func14, Try.ntmps14
  go_wp2_with fail
  refine (recipe_any _ _ _ _ _ _ _).mono ?_
  rintro e w1 ⟨rfl, rfl⟩
  go_wp2_with fail
  exact bodyPost_ret (v := .tuple #[.agg #[.slice (some ⟨w.heap.size + 1, 0, none⟩) 3 3, .slice (some ⟨w.heap.size + 1 + 1, 0, none⟩) 1 1], .bool true]) (by simp [results, Try.results14, go_sem]) rfl ⟨_, rfl, told_of w (inL 5) (outL 5) _ _ (by decide)⟩

set_option maxRecDepth 100000 in
set_option maxHeartbeats 400000 in
theorem of_6 (w : World) : Calls Try.prog 14 #[.int .u32 6] w (SomeTold 6 w) := by
  go_enter Try.func14, Try.ntmps14
  go_wp2_with fail
  refine (recipe_any _ _ _ _ _ _ _).mono ?_
  rintro e w1 ⟨rfl, rfl⟩
  go_wp2_with fail
  exact bodyPost_ret (v := .tuple #[.agg #[.slice (some ⟨w.heap.size + 1, 0, none⟩) 1 1, .slice (some ⟨w.heap.size + 1 + 1, 0, none⟩) 2 2], .bool true]) (by simp [results, Try.results14, go_sem]) rfl ⟨_, rfl, told_of w (inL 6) (outL 6) _ _ (by decide)⟩

set_option maxRecDepth 100000 in
set_option maxHeartbeats 400000 in
theorem of_none (id : Int) (w : World) (h : id < 1 ∨ 6 < id) : Calls Try.prog 14 #[.int .u32 id] w (SomeTold id w) := by
  have e1 : (id == 1) = false := by simp; omega
  have e2 : (id == 2) = false := by simp; omega
  have e3 : (id == 3) = false := by simp; omega
  have e4 : (id == 4) = false := by simp; omega
  have e5 : (id == 5) = false := by simp; omega
  have e6 : (id == 6) = false := by simp; omega
  have hi : Hid (inL id = [] ∧ outL id = []) := Lib.hid (by
    unfold inL outL
    simp only [beq_eq_false_iff_ne] at e1 e2 e3 e4 e5 e6
    simp [e1, e2, e3, e4, e5, e6])
  clear h
  go_enter Try.func14, Try.ntmps14
  go_wp2_with fail
  exact bodyPost_ret (v := .tuple #[.agg #[.slice none 0 0, .slice none 0 0], .bool false]) (by simp [results, Try.results14, go_sem]) rfl
    ⟨_, by rw [hi.out.1]; rfl, by rw [hi.out.1, hi.out.2]; exact ⟨(Below.refl _ _).alloc (Nat.le_refl _) _, .inl ⟨rfl, rfl, rfl⟩⟩⟩

theorem of_any (id : Int) (w : World) : Calls Try.prog 14 #[.int .u32 id] w (SomeTold id w) := by
  by_cases h : id < 1 ∨ 6 < id
  · exact of_none id w h
  · rcases (show id = 1 ∨ id = 2 ∨ id = 3 ∨ id = 4 ∨ id = 5 ∨ id = 6 by omega) with rfl | rfl | rfl | rfl | rfl | rfl
    · exact of_1 w
    · exact of_2 w
    · exact of_3 w
    · exact of_4 w
    · exact of_5 w
    · exact of_6 w
end Go.Proofs.Ytghpjmihlgfeaaa
