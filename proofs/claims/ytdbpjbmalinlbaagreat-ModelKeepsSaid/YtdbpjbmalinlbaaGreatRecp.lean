/- Contracts of package recipe: Of, Needs, Change. -/
import Derived.Test.YtdbpjbmalinlbaaGreatMoneyT
import Derived.StillTactics
import Derived.Laws.Pointers
import Derived.Deep.RegionHeld3
import Derived.Deep.AppendLies
import Derived.Deep.QuietTactic
import Derived.BigQuiet
namespace Go.Proofs.YtdbpjbmalinlbaaGreat
open Go.RowKit

set_option maxHeartbeats 400000 in
theorem recipe_any (a b : Option Addr) (n c m d : Nat) (w : World) :
    Calls Tryz.prog 102 #[.slice a n c, .slice b m d] w fun e w' => e = .returned (.tuple #[.agg #[.slice a n c, .slice b m d], .bool true]) ∧ w.alloc (.cells #[.slice a n c, .slice b m d] 82) = w' := by
  go_enter Tryz.func102, Tryz.ntmps102
  go_wp2
  exact bodyPost_ret (v := .tuple #[.agg #[.slice a n c, .slice b m d], .bool true]) (by simp [results, Tryz.results102, go_sem]) rfl ⟨rfl, rfl⟩

/-- The cells of a list of stacks. -/
def stkCells (l : List (Int × Int)) : List Value := l.flatMap fun p => [.int .u32 p.1, .int .u64 p.2]

/-- A block that is a list of stacks. -/
def StkAt (w : World) (x : Nat) (l : List (Int × Int)) : Prop := w.heap[x]? = some (.cells (stkCells l).toArray 107 (0, 0))

/-- The recipes: what goes, and what comes. -/
def inL (id : Int) : List (Int × Int) := if id = 1 then [(1, 2)] else if id = 2 then [(2, 1), (3, 1)] else if id = 3 then [(4, 1)] else if id = 4 then [(5, 10)] else if id = 5 then [(6, 1), (4, 2), (1, 5)] else if id = 6 then [(7, 1)] else []

def outL (id : Int) : List (Int × Int) := if id = 1 then [(2, 1)] else if id = 2 then [(4, 1)] else if id = 3 then [(2, 1), (5, 3)] else if id = 4 then [(6, 1), (5, 1)] else if id = 5 then [(7, 1)] else if id = 6 then [(6, 1), (1, 4)] else []

/-- What a call tells that hands back a recipe in new memory. -/
def Told (w : World) (i o : List (Int × Int)) (r : Value) (w' : World) : Prop :=
  Below w.heap.size w w' ∧ ((i = [] ∧ o = [] ∧ r = .agg #[.slice none 0 0, .slice none 0 0]) ∨
    i ≠ [] ∧ ∃ x y, r = .agg #[.slice (some ⟨x, 0, none⟩) i.length i.length, .slice (some ⟨y, 0, none⟩) o.length o.length] ∧ w.heap.size ≤ x ∧ x < y ∧ StkAt w' x i ∧ StkAt w' y o)

def SomeTold (id : Int) (w : World) (e : Ending) (w' : World) : Prop := ∃ r, e = .returned (.tuple #[r, .bool (decide (inL id ≠ []))]) ∧ Told w (inL id) (outL id) r w'

theorem told_of (w : World) (i o : List (Int × Int)) (A B : Obj) (hi : i ≠ []) :
    Told w i o (.agg #[.slice (some ⟨w.heap.size + 1, 0, none⟩) i.length i.length, .slice (some ⟨w.heap.size + 1 + 1, 0, none⟩) o.length o.length])
      ((((w.alloc A).alloc (.cells (stkCells i).toArray 107)).alloc (.cells (stkCells o).toArray 107)).alloc B) := by
  refine ⟨((((Below.refl _ _).alloc (Nat.le_refl _) _).alloc (by simp) _).alloc (by simp; omega) _).alloc (by simp; omega) _, .inr ⟨hi, _, _, rfl, by omega, by omega, ?_, ?_⟩⟩
  · unfold StkAt
    rw [Below.heap_alloc _ _ _ (by simp), Below.heap_alloc _ _ _ (by simp)]
    show ((w.alloc A).heap.push _)[_]? = _
    rw [Array.getElem?_push, if_pos (by simp)]
  · unfold StkAt
    rw [Below.heap_alloc _ _ _ (by simp)]
    show (((w.alloc A).alloc _).heap.push _)[_]? = _
    rw [Array.getElem?_push, if_pos (by simp)]

set_option maxRecDepth 100000 in
set_option maxHeartbeats 400000 in
theorem of_1 (w : World) : Calls Tryz.prog 97 #[.int .u32 1] w (SomeTold 1 w) := by
  go_enter Tryz.func97, Tryz.ntmps97
  go_wp2_with fail
  refine (recipe_any _ _ _ _ _ _ _).mono ?_
  rintro e w1 ⟨rfl, rfl⟩
  go_wp2_with fail
  exact bodyPost_ret (v := .tuple #[.agg #[.slice (some ⟨w.heap.size + 1, 0, none⟩) 1 1, .slice (some ⟨w.heap.size + 1 + 1, 0, none⟩) 1 1], .bool true]) (by simp [results, Tryz.results97, go_sem]) rfl ⟨_, rfl, told_of w (inL 1) (outL 1) _ _ (by decide)⟩

set_option maxRecDepth 100000 in
set_option maxHeartbeats 400000 in
theorem of_2 (w : World) : Calls Tryz.prog 97 #[.int .u32 2] w (SomeTold 2 w) := by
  go_enter Tryz.func97, Tryz.ntmps97
  go_wp2_with fail
  refine (recipe_any _ _ _ _ _ _ _).mono ?_
  rintro e w1 ⟨rfl, rfl⟩
  go_wp2_with fail
  exact bodyPost_ret (v := .tuple #[.agg #[.slice (some ⟨w.heap.size + 1, 0, none⟩) 2 2, .slice (some ⟨w.heap.size + 1 + 1, 0, none⟩) 1 1], .bool true]) (by simp [results, Tryz.results97, go_sem]) rfl ⟨_, rfl, told_of w (inL 2) (outL 2) _ _ (by decide)⟩

set_option maxRecDepth 100000 in
set_option maxHeartbeats 400000 in
theorem of_3 (w : World) : Calls Tryz.prog 97 #[.int .u32 3] w (SomeTold 3 w) := by
  go_enter Tryz.func97, Tryz.ntmps97
  go_wp2_with fail
  refine (recipe_any _ _ _ _ _ _ _).mono ?_
  rintro e w1 ⟨rfl, rfl⟩
  go_wp2_with fail
  exact bodyPost_ret (v := .tuple #[.agg #[.slice (some ⟨w.heap.size + 1, 0, none⟩) 1 1, .slice (some ⟨w.heap.size + 1 + 1, 0, none⟩) 2 2], .bool true]) (by simp [results, Tryz.results97, go_sem]) rfl ⟨_, rfl, told_of w (inL 3) (outL 3) _ _ (by decide)⟩

set_option maxRecDepth 100000 in
set_option maxHeartbeats 400000 in
theorem of_4 (w : World) : Calls Tryz.prog 97 #[.int .u32 4] w (SomeTold 4 w) := by
  go_enter Tryz.func97, Tryz.ntmps97
  go_wp2_with fail
  refine (recipe_any _ _ _ _ _ _ _).mono ?_
  rintro e w1 ⟨rfl, rfl⟩
  go_wp2_with fail
  exact bodyPost_ret (v := .tuple #[.agg #[.slice (some ⟨w.heap.size + 1, 0, none⟩) 1 1, .slice (some ⟨w.heap.size + 1 + 1, 0, none⟩) 2 2], .bool true]) (by simp [results, Tryz.results97, go_sem]) rfl ⟨_, rfl, told_of w (inL 4) (outL 4) _ _ (by decide)⟩

set_option maxRecDepth 100000 in
set_option maxHeartbeats 400000 in
theorem of_5 (w : World) : Calls Tryz.prog 97 #[.int .u32 5] w (SomeTold 5 w) := by
  go_enter Tryz.func97, Tryz.ntmps97
  go_wp2_with fail
  refine (recipe_any _ _ _ _ _ _ _).mono ?_
  rintro e w1 ⟨rfl, rfl⟩
  go_wp2_with fail
  exact bodyPost_ret (v := .tuple #[.agg #[.slice (some ⟨w.heap.size + 1, 0, none⟩) 3 3, .slice (some ⟨w.heap.size + 1 + 1, 0, none⟩) 1 1], .bool true]) (by simp [results, Tryz.results97, go_sem]) rfl ⟨_, rfl, told_of w (inL 5) (outL 5) _ _ (by decide)⟩

set_option maxRecDepth 100000 in
set_option maxHeartbeats 400000 in
theorem of_6 (w : World) : Calls Tryz.prog 97 #[.int .u32 6] w (SomeTold 6 w) := by
  go_enter Tryz.func97, Tryz.ntmps97
  go_wp2_with fail
  refine (recipe_any _ _ _ _ _ _ _).mono ?_
  rintro e w1 ⟨rfl, rfl⟩
  go_wp2_with fail
  exact bodyPost_ret (v := .tuple #[.agg #[.slice (some ⟨w.heap.size + 1, 0, none⟩) 1 1, .slice (some ⟨w.heap.size + 1 + 1, 0, none⟩) 2 2], .bool true]) (by simp [results, Tryz.results97, go_sem]) rfl ⟨_, rfl, told_of w (inL 6) (outL 6) _ _ (by decide)⟩

set_option maxRecDepth 100000 in
set_option maxHeartbeats 400000 in
theorem of_none (id : Int) (w : World) (h : id < 1 ∨ 6 < id) : Calls Tryz.prog 97 #[.int .u32 id] w (SomeTold id w) := by
  have e1 : (id == 1) = false := by simp; omega
  have e2 : (id == 2) = false := by simp; omega
  have e3 : (id == 3) = false := by simp; omega
  have e4 : (id == 4) = false := by simp; omega
  have e5 : (id == 5) = false := by simp; omega
  have e6 : (id == 6) = false := by simp; omega
  have hi : Hid (inL id = [] ∧ outL id = []) := Lib.hid (by
    unfold inL outL
    simp only [beq_eq_false_iff_ne] at e1 e2 e3 e4 e5 e6
    simp [e1, e2, e3, e4, e5, e6])
  clear h
  go_enter Tryz.func97, Tryz.ntmps97
  go_wp2_with fail
  exact bodyPost_ret (v := .tuple #[.agg #[.slice none 0 0, .slice none 0 0], .bool false]) (by simp [results, Tryz.results97, go_sem]) rfl
    ⟨_, by rw [hi.out.1]; rfl, by rw [hi.out.1, hi.out.2]; exact ⟨(Below.refl _ _).alloc (Nat.le_refl _) _, .inl ⟨rfl, rfl, rfl⟩⟩⟩

theorem of_any (id : Int) (w : World) : Calls Tryz.prog 97 #[.int .u32 id] w (SomeTold id w) := by
  by_cases h : id < 1 ∨ 6 < id
  · exact of_none id w h
  · rcases (show id = 1 ∨ id = 2 ∨ id = 3 ∨ id = 4 ∨ id = 5 ∨ id = 6 by omega) with rfl | rfl | rfl | rfl | rfl | rfl
    · exact of_1 w
    · exact of_2 w
    · exact of_3 w
    · exact of_4 w
    · exact of_5 w
    · exact of_6 w

/-- The j-th row of stacks. -/
def prAt (zs : List Int) (n : Int) (j : Nat) : Int × Int := (zs.getD (2 * j) 0, zs.getD (2 * j + 1) 0 * n)

def prs (zs : List Int) (n : Int) (k : Nat) : List (Int × Int) := (List.range k).map (prAt zs n)

theorem prs_succ (zs : List Int) (n : Int) (k : Nat) : prs zs n (k + 1) = prs zs n k ++ [prAt zs n k] := by
  simp [prs, List.range_succ]

theorem prs_len (zs : List Int) (n : Int) (k : Nat) : (prs zs n k).length = k := by simp [prs]

theorem stkCells_app (l m : List (Int × Int)) : stkCells (l ++ m) = stkCells l ++ stkCells m := by simp [stkCells]

theorem stkCells_len (l : List (Int × Int)) : (stkCells l).length = 2 * l.length := by
  induction l with
  | nil => rfl
  | cons x l ih =>
    have h : stkCells (x :: l) = [.int .u32 x.1, .int .u64 x.2] ++ stkCells l := by simp [stkCells]
    rw [h, List.length_append, ih]; simp; omega

theorem Tryz.info41 : (Tryz.prog.info? 107).map (fun i => (i.zero, i.size, i.bytes)) = some (some (.agg #[.int .u32 0, .int .u64 0]), 2, 16) := by kernel_rfl

/-- The cells of a new block of two. -/
theorem cells_new2 (w : World) (a b : Value) (t : TypeId) : ∀ (j : Nat) (u : Value), [a, b][j]? = some u → (w.alloc (.cells #[a, b] t)).cell? ((⟨w.heap.size, 0, none⟩ : Addr).add j) = some u := by
  intro j u h
  match j, h with
  | 0, h => simp at h; subst h; simp [Addr.add, go_sem]
  | 1, h => simp at h; subst h; simp [Addr.add, go_sem]
  | j + 2, h => simp at h

def flat (l : List (Int × Int)) : List Int := l.flatMap fun p => [p.1, p.2]

def mulL (n : Int) (l : List (Int × Int)) : List (Int × Int) := l.map fun p => (p.1, p.2 * n)

theorem flat_len (l : List (Int × Int)) : (flat l).length = 2 * l.length := by
  induction l with
  | nil => rfl
  | cons x l ih =>
    have h : flat (x :: l) = [x.1, x.2] ++ flat l := by simp [flat]
    rw [h, List.length_append, ih]; simp; omega

theorem prs_cons (x : Int × Int) (l : List (Int × Int)) (n : Int) (k : Nat) : prs (flat (x :: l)) n (k + 1) = (x.1, x.2 * n) :: prs (flat l) n k := by
  have h : flat (x :: l) = x.1 :: x.2 :: flat l := by simp [flat]
  unfold prs
  rw [List.range_succ_eq_map, List.map_cons, List.map_map]
  rw [h]
  congr 1

theorem prs_flat (l : List (Int × Int)) (n : Int) : prs (flat l) n l.length = mulL n l := by
  induction l with
  | nil => rfl
  | cons x l ih => rw [List.length_cons, prs_cons, ih]; rfl

theorem mulL_one (l : List (Int × Int)) : mulL 1 l = l := by simp [mulL]

theorem mulL_len (n : Int) (l : List (Int × Int)) : (mulL n l).length = l.length := by simp [mulL]

theorem owns_below {w w' : World} {base : Nat} {e : TypeId} {size : Nat} {v : Value} {n : Nat} {xs : List Value} (h : w.ownsRow base e size v n xs) (hb : Below w.heap.size w w') : w'.ownsRow base e size v n xs := by
  refine ⟨h.1, ?_⟩
  rcases h.2 with h2 | ⟨g, cap, cur, h1, h2, h3, h4⟩
  · exact .inl h2
  · refine .inr ⟨g, cap, cur, h1, h2, ?_, h4⟩
    rw [hb.block g (by have := (Array.getElem?_eq_some_iff.1 h3).1; omega)]; exact h3

theorem owns_mono {w : World} {base base' : Nat} {e : TypeId} {size : Nat} {v : Value} {n : Nat} {xs : List Value} (h : w.ownsRow base e size v n xs) (hb : base' ≤ base) : w.ownsRow base' e size v n xs := by
  refine ⟨h.1, ?_⟩
  rcases h.2 with h2 | ⟨g, cap, cur, h1, h2, h3, h4⟩
  · exact .inl h2
  · exact .inr ⟨g, cap, cur, h1, by omega, h3, h4⟩

/-- A slice of stacks that the call has made. -/
def Stks (w : World) (base : Nat) (v : Value) (l : List (Int × Int)) : Prop := w.ownsRow base 107 2 v l.length (stkCells l)

theorem Stks.below {w w' : World} {base : Nat} {v : Value} {l : List (Int × Int)} (h : Stks w base v l) (hb : Below w.heap.size w w') : Stks w' base v l := owns_below h hb

theorem Stks.mono {w : World} {base base' : Nat} {v : Value} {l : List (Int × Int)} (h : Stks w base v l) (hb : base' ≤ base) : Stks w base' v l := owns_mono h hb

theorem Stks.shape {w : World} {base : Nat} {v : Value} {l : List (Int × Int)} (h : Stks w base v l) : ∃ a c, v = .slice a l.length c := by
  rcases h.2 with ⟨rfl, h2⟩ | ⟨g, cap, cur, rfl, _⟩
  · exact ⟨none, 0, by rw [h2]⟩
  · exact ⟨_, _, rfl⟩

theorem Stks.setCell {w : World} {base : Nat} {v : Value} {l : List (Int × Int)} (h : Stks w base v l) {p : Addr} (hp : p.block < base) (u : Value) : Stks (w.setCell p u) base v l := by
  refine ⟨h.1, ?_⟩
  rcases h.2 with h2 | ⟨g, cap, cur, h1, h2, h3, h4⟩
  · exact .inl h2
  · exact .inr ⟨g, cap, cur, h1, h2, by rw [Below.heap_setCell _ _ _ _ (by omega)]; exact h3, h4⟩

theorem Stks.nil (w : World) (base : Nat) : Stks w base (.slice none 0 0) [] := ⟨rfl, .inl ⟨rfl, rfl⟩⟩

theorem rows_small (id : Int) : (∀ x ∈ flat (inL id), x ≤ 1000) ∧ (∀ x ∈ flat (outL id), x ≤ 1000) ∧ (inL id).length ≤ 3 ∧ (outL id).length ≤ 2 := by
  unfold inL outL
  repeat' split
  all_goals decide

/-- What a recipe's call hands back: two slices in new memory. -/
def Two (w : World) (i o : List (Int × Int)) (r : Value) (w' : World) : Prop := Below w.heap.size w w' ∧ ∃ vi vo, r = .agg #[vi, vo] ∧ Stks w' w.heap.size vi i ∧ Stks w' w.heap.size vo o

def SomeTwo (x : Value) (i o : List (Int × Int)) (w : World) (e : Ending) (w' : World) : Prop := ∃ r, e = .returned (.tuple #[r, x]) ∧ Two w i o r w'

theorem cell_keep {w w' : World} (hb : Below w.heap.size w w') {a : Addr} {v : Value} (h : w.cell? a = some v) : w'.cell? a = some v := by
  rw [hb.cell (World.block_lt_of_cell? _ _ h)]; exact h

theorem frozen_keep {w w' : World} (hb : Below w.heap.size w w') {a : Addr} {v : Value} (h : w.cell? a = some v) (hf : w.frozen? a = false) : w'.frozen? a = false := by
  rw [hb.frozen (World.block_lt_of_cell? _ _ h)]; exact hf

/-- A box of two cells behind calls that keep what was there. -/
theorem kept_two (w w' : World) (a b : Value) (t : TypeId) (B : Below (w.alloc (.cells #[a, b] t)).heap.size (w.alloc (.cells #[a, b] t)) w') :
    w'.cell? ⟨w.heap.size, 0, none⟩ = some a ∧ w'.cell? ⟨w.heap.size, 1, none⟩ = some b ∧ w'.frozen? ⟨w.heap.size, 0, none⟩ = false ∧ w'.frozen? ⟨w.heap.size, 1, none⟩ = false ∧ w.heap.size < w'.heap.size := by
  have hs := B.size
  rw [World.size_alloc] at hs
  refine ⟨?_, ?_, ?_, ?_, hs⟩
  · rw [B.cell (by simp)]; simp [go_sem]
  · rw [B.cell (by simp)]; simp [go_sem]
  · rw [B.frozen (by simp)]; simp [go_sem]
  · rw [B.frozen (by simp)]; simp [go_sem]

def needsE (id n : Int) : Int := if inL id = [] then 40 else if n < 1 ∨ 1000 < n then 1 else 0

def needsI (id n : Int) : List (Int × Int) := if inL id = [] ∨ n < 1 ∨ 1000 < n then [] else mulL n (inL id)

def needsO (id n : Int) : List (Int × Int) := if inL id = [] ∨ n < 1 ∨ 1000 < n then [] else mulL n (outL id)

theorem needs_none {id n : Int} (h : inL id = []) : needsE id n = 40 ∧ needsI id n = [] ∧ needsO id n = [] := by
  unfold needsE needsI needsO; rw [if_pos h, if_pos (.inl h), if_pos (.inl h)]; exact ⟨rfl, rfl, rfl⟩

theorem needs_arg {id n : Int} (h : inL id ≠ []) (hn : n < 1 ∨ 1000 < n) : needsE id n = 1 ∧ needsI id n = [] ∧ needsO id n = [] := by
  unfold needsE needsI needsO; rw [if_neg h, if_pos hn, if_pos (.inr hn), if_pos (.inr hn)]; exact ⟨rfl, rfl, rfl⟩

theorem needs_ok {id n : Int} (h : inL id ≠ []) (h1 : 1 ≤ n) (h2 : n ≤ 1000) : needsE id n = 0 ∧ needsI id n = mulL n (inL id) ∧ needsO id n = mulL n (outL id) := by
  have hn : ¬ (n < 1 ∨ 1000 < n) := by omega
  have hi : ¬ (inL id = [] ∨ n < 1 ∨ 1000 < n) := fun h' => h'.elim h hn
  unfold needsE needsI needsO; rw [if_neg h, if_neg hn, if_neg hi, if_neg hi]; exact ⟨rfl, rfl, rfl⟩

/-- How many there are of an item. -/
def cnt : List (Int × Int) → Int → Int
  | [], _ => 0
  | p :: l, item => if p.1 = item then p.2 else cnt l item

theorem cnt_drop (item : Int) : ∀ (k : Nat) (l : List (Int × Int)), (∀ (j : Nat) p, j < k → l[j]? = some p → p.1 ≠ item) → cnt l item = cnt (l.drop k) item := by
  intro k
  induction k with
  | zero => intro l _; rfl
  | succ k ih =>
    intro l h
    cases l with
    | nil => rfl
    | cons x l =>
      rw [List.drop_succ_cons, ← ih l fun j p hj hp => h (j + 1) p (by omega) (by simpa using hp)]
      rw [cnt, if_neg (h 0 x (by omega) rfl)]

theorem cnt_hit {item : Int} {k : Nat} {l : List (Int × Int)} {p : Int × Int} (h : ∀ (j : Nat) p, j < k → l[j]? = some p → p.1 ≠ item) (hk : l[k]? = some p) (hp : p.1 = item) : cnt l item = p.2 := by
  obtain ⟨hl, e⟩ := List.getElem?_eq_some_iff.1 hk
  rw [cnt_drop item k l h, List.drop_eq_getElem_cons hl, e, cnt, if_pos hp]

theorem cnt_miss {item : Int} {l : List (Int × Int)} (h : ∀ (j : Nat) p, j < l.length → l[j]? = some p → p.1 ≠ item) : cnt l item = 0 := by
  rw [cnt_drop item l.length l h, List.drop_length]; rfl

theorem stkCells_at : ∀ (l : List (Int × Int)) (k : Nat) (p : Int × Int), l[k]? = some p → (stkCells l)[k * 2]? = some (.int .u32 p.1) ∧ (stkCells l)[k * 2 + 1]? = some (.int .u64 p.2) := by
  intro l
  induction l with
  | nil => intro k p h; simp at h
  | cons x l ih =>
    intro k p h
    have e : stkCells (x :: l) = .int .u32 x.1 :: .int .u64 x.2 :: stkCells l := by simp [stkCells]
    rw [e]
    cases k with
    | zero => simp at h; subst h; exact ⟨rfl, rfl⟩
    | succ k =>
      have := ih k p (by simpa using h)
      rw [show (k + 1) * 2 = k * 2 + 1 + 1 by omega]
      exact this

/-- The cells of one stack. -/
theorem Stks.cells {w : World} {base g n c : Nat} {l : List (Int × Int)} (h : Stks w base (.slice (some ⟨g, 0, none⟩) n c) l) {k : Nat} {p : Int × Int} (hk : l[k]? = some p) :
    w.cell? ⟨g, k * 2, none⟩ = some (.int .u32 p.1) ∧ w.cell? ⟨g, k * 2 + 1, none⟩ = some (.int .u64 p.2) := by
  obtain ⟨hl, hr⟩ := h
  rcases hr with ⟨h1, _⟩ | ⟨g', cap, cur, h1, h2, h3, h4, h5, h6, h7⟩
  · cases h1
  · cases h1
    have hkl : k < l.length := (List.getElem?_eq_some_iff.1 hk).1
    obtain ⟨e1, e2⟩ := stkCells_at l k p hk
    rw [cell_of_row w g _ cur _ _ h3, cell_of_row w g _ cur _ _ h3]
    have t : ∀ j, j < l.length * 2 → cur[j]? = (stkCells l)[j]? := by
      intro j hj
      rw [← h7, List.getElem?_take_of_lt hj, Array.getElem?_toList]
    rw [t _ (by omega), t _ (by omega)]
    exact ⟨e1, e2⟩

theorem ret_one {k : IntKind} {a b : Int} (h : a = b) : Ending.returned (.int k a) = .returned (.int k b) := by rw [h]

theorem cell_alloc_old {w : World} {q : Addr} {v : Value} (h : w.cell? q = some v) (o : Obj) : (w.alloc o).cell? q = some v := by
  rw [((Below.refl _ _).alloc (Nat.le_refl _) o).cell (World.block_lt_of_cell? _ _ h)]; exact h

set_option maxHeartbeats 400000 in
theorem pred_any (a b item : Int) (q : Addr) (w : World) (hq : w.cell? q = some (.int .u32 item)) :
    Calls Tryz.prog 105 #[.agg #[.int .u32 a, .int .u64 b], .pointer (some q)] w fun e w' => e = .returned (.bool (a == item)) ∧ w.alloc (.cells #[.int .u32 a, .int .u64 b] 107) = w' := by
  have hq2 := cell_alloc_old hq (.cells #[.int .u32 a, .int .u64 b] 107)
  clear hq
  go_enter Tryz.func105, Tryz.ntmps105
  go_wp2_with fail
  go_ret
  exact ⟨rfl, rfl⟩

def idx : List (Int × Int) → Int → Nat
  | [], _ => 0
  | p :: l, item => if p.1 = item then 0 else idx l item + 1

theorem idx_drop (item : Int) : ∀ (k : Nat) (l : List (Int × Int)), k ≤ l.length → (∀ (j : Nat) p, j < k → l[j]? = some p → p.1 ≠ item) → idx l item = k + idx (l.drop k) item := by
  intro k
  induction k with
  | zero => intro l _ _; simp
  | succ k ih =>
    intro l hl h
    cases l with
    | nil => simp at hl
    | cons x l =>
      rw [List.drop_succ_cons, idx, if_neg (h 0 x (by omega) rfl), ih l (by simpa using hl) fun j p hj hp => h (j + 1) p (by omega) (by simpa using hp)]
      omega

/-- The place that IndexFunc tells. -/
def idxI (l : List (Int × Int)) (item : Int) : Int := if idx l item < l.length then (idx l item : Int) else -1

theorem idxI_hit {item : Int} {k : Nat} {l : List (Int × Int)} {p : Int × Int} (h : ∀ (j : Nat) p, j < k → l[j]? = some p → p.1 ≠ item) (hk : l[k]? = some p) (hp : p.1 = item) : idxI l item = k := by
  obtain ⟨hl, e⟩ := List.getElem?_eq_some_iff.1 hk
  unfold idxI
  rw [idx_drop item k l (by omega) h, List.drop_eq_getElem_cons hl, e, idx, if_pos hp, if_pos (by omega)]; rfl

theorem idxI_miss {item : Int} {l : List (Int × Int)} (h : ∀ (j : Nat) p, j < l.length → l[j]? = some p → p.1 ≠ item) : idxI l item = -1 := by
  unfold idxI
  rw [idx_drop item l.length l (Nat.le_refl _) h, if_neg (by omega)]

/-- What IndexFunc tells is where the count stands. -/
theorem idxI_cnt (item : Int) : ∀ l : List (Int × Int), (idxI l item = -1 ∧ cnt l item = 0) ∨ (∃ p, 0 ≤ idxI l item ∧ idxI l item < l.length ∧ l[(idxI l item).toNat]? = some p ∧ cnt l item = p.2) := by
  intro l
  induction l with
  | nil => exact .inl ⟨rfl, rfl⟩
  | cons x l ih =>
    by_cases hx : x.1 = item
    · refine .inr ⟨x, ?_⟩
      have e : idxI (x :: l) item = 0 := by unfold idxI; rw [idx, if_pos hx]; simp
      rw [e]
      exact ⟨by omega, by simp, rfl, by rw [cnt, if_pos hx]⟩
    · have e1 : cnt (x :: l) item = cnt l item := by rw [cnt, if_neg hx]
      rcases ih with ⟨h1, h2⟩ | ⟨p, h1, h2, h3, h4⟩
      · refine .inl ⟨?_, by rw [e1, h2]⟩
        unfold idxI at h1 ⊢
        rw [idx, if_neg hx, List.length_cons]
        split at h1
        · omega
        · rw [if_neg (by omega)]
      · refine .inr ⟨p, ?_⟩
        have e : idxI (x :: l) item = idxI l item + 1 := by
          unfold idxI at h1 h2 ⊢
          rw [idx, if_neg hx, List.length_cons]
          split at h1
          · rename_i hlt
            rw [if_pos (by omega), if_pos hlt]; omega
          · omega
        rw [e]
        refine ⟨by omega, by rw [List.length_cons]; omega, ?_, by rw [e1, h4]⟩
        rw [show (idxI l item + 1).toNat = (idxI l item).toNat + 1 by omega]
        simpa using h3

set_option maxHeartbeats 400000 in
theorem indexFunc_any (a : Option Addr) (c : Nat) (l : List (Int × Int)) (item : Int) (q : Addr) (base : Nat) (w : World) (h : Stks w base (.slice a l.length c) l) (hl : l.length ≤ 1000) (hq : w.cell? q = some (.int .u32 item)) :
    Calls Tryz.prog 104 #[.slice a l.length c, .func (.func 105) #[] #[.pointer (some q)]] w fun e w' => e = .returned (.int .i64 (idxI l item)) ∧ Below w.heap.size w w' := by
  go_enter Tryz.func104, Tryz.ntmps104
  go_wp2_with fail
  go_loopw [8] (fun i wr => ∃ k : Nat, k ≤ l.length ∧ i = .int .i64 k ∧ (∀ (j : Nat) p, j < k → l[j]? = some p → p.1 ≠ item) ∧ Below w.heap.size w wr) (fun i _ => l.length - (intOf i).toNat)
  case atStart => exact ⟨0, Nat.zero_le _, rfl, by simp, Below.refl _ _⟩
  case round =>
    obtain ⟨k, hk, rfl, hn, B⟩ := hrel
    have HN := Lib.hid hn
    clear hn
    by_cases hlt : k < l.length
    · obtain ⟨p, hp⟩ : ∃ p, l[k]? = some p := ⟨l[k], List.getElem?_eq_getElem hlt⟩
      rcases h.2 with ⟨h1, h2⟩ | ⟨g, cap, cur, h1, h2, h3⟩
      · omega
      · cases h1
        obtain ⟨c1, c2⟩ := (h.below B).cells hp
        have hq' := cell_keep B hq
        have HP := Lib.hid hp
        have H := Lib.hid h
        clear h2 h3 hp hq h
        go_wp2_with fail
        refine (pred_any _ _ _ _ _ hq').mono ?_
        rintro e w1 ⟨rfl, rfl⟩
        by_cases he : p.1 = item
        · have hb : (p.1 == item) = true := by simpa using he
          have HE := Lib.hid he
          clear he
          go_wp2_with fail
          go_ret
          exact ⟨ret_one (idxI_hit HN.out HP.out HE.out).symm, B.alloc B.size _⟩
        · have hb : (p.1 == item) = false := by simpa using he
          have HE := Lib.hid he
          clear he
          go_wp2_with fail
          go_roundw
          case rel =>
            refine ⟨k + 1, by omega, by go_num, fun j q hj hq => ?_, B.alloc B.size _⟩
            by_cases hjk : j = k
            · subst hjk; rw [HP.out] at hq; cases hq; exact HE.out
            · exact HN.out j q (by omega) hq
          case measure => simp [intOf]; omega
    · obtain rfl : k = l.length := by omega
      go_wp2_with fail
      go_ret
      exact ⟨ret_one (idxI_miss HN.out).symm, B⟩

set_option maxHeartbeats 400000 in
theorem count_any (v : Value) (l : List (Int × Int)) (item : Int) (base : Nat) (w : World) (h : Stks w base v l) (hl : l.length ≤ 1000) :
    Calls Tryz.prog 101 #[v, .int .u32 item] w fun e w' => e = .returned (.int .u64 (cnt l item)) ∧ Below w.heap.size w w' := by
  obtain ⟨a, c, rfl⟩ := h.shape
  have hq : (w.alloc (.cells #[.int .u32 item] 23)).cell? ⟨w.heap.size, 0, none⟩ = some (.int .u32 item) := by simp [go_sem]
  have h' := h.below ((Below.refl _ _).alloc (Nat.le_refl _) (.cells #[.int .u32 item] 23))
  have H := Lib.hid h'
  have HQ := Lib.hid hq
  clear h h' hq
  go_enter Tryz.func101, Tryz.ntmps101
  go_wp2_with fail
  refine (indexFunc_any _ _ _ item _ _ _ H.out hl HQ.out).mono ?_
  rintro e w1 ⟨rfl, b1⟩
  have B : Below w.heap.size w w1 := ((Below.refl _ _).alloc (Nat.le_refl _) _).trans (b1.mono (by simp))
  have h2 := H.out.below b1
  rcases idxI_cnt item l with ⟨h3, h4⟩ | ⟨p, h3, h4, h5, h6⟩
  · have H4 := Lib.hid h4
    clear h4 h2
    go_wp2_with fail
    go_ret
    exact ⟨ret_one H4.out.symm, B⟩
  · obtain ⟨k, hk⟩ := Int.eq_ofNat_of_zero_le h3
    rw [hk] at h3 h4 h5 ⊢
    rw [Int.toNat_natCast] at h5
    rcases h2.2 with ⟨h7, h8⟩ | ⟨g, cap, cur, h7, h8, h9⟩
    · omega
    · cases h7
      obtain ⟨c1, c2⟩ := h2.cells h5
      have H6 := Lib.hid h6
      have hkl : (k : Int) < (l.length : Int) := h4
      have hl' : (l.length : Int) ≤ 1000 := by omega
      clear h2 h6 h9 h5 h8 hk h4
      go_wp2_with fail
      go_ret
      exact ⟨ret_one H6.out.symm, B⟩

theorem needs_len (id n : Int) : (needsI id n).length ≤ 3 ∧ (needsO id n).length ≤ 2 := by
  obtain ⟨_, _, s3, s4⟩ := rows_small id
  unfold needsI needsO
  constructor <;> split <;> simp [mulL_len] <;> omega

theorem frozen_of {w : World} {x j : Nat} {cs : Array Value} {t : TypeId} (hb : w.heap[x]? = some (.cells cs t (0, 0))) : w.frozen? ⟨x, j, none⟩ = false := by
  simp [World.frozen?, hb]

theorem StkAt.cells {w : World} {x : Nat} {l : List (Int × Int)} (h : StkAt w x l) {k : Nat} {p : Int × Int} (hk : l[k]? = some p) :
    w.cell? ⟨x, k * 2, none⟩ = some (.int .u32 p.1) ∧ w.cell? ⟨x, k * 2 + 1, none⟩ = some (.int .u64 p.2) ∧ w.frozen? ⟨x, k * 2 + 1, none⟩ = false ∧ w.frozen? ⟨x, k * 2, none⟩ = false := by
  obtain ⟨e1, e2⟩ := stkCells_at l k p hk
  refine ⟨?_, ?_, frozen_of h, frozen_of h⟩
  · rw [cell_of_row w x _ _ _ _ h]; simpa using e1
  · rw [cell_of_row w x _ _ _ _ h]; simpa using e2

theorem stkCells_set : ∀ (l : List (Int × Int)) (k : Nat) (a c : Int) (p : Int × Int), l[k]? = some p → p.1 = a → (stkCells l).set (k * 2 + 1) (.int .u64 c) = stkCells (l.set k (a, c)) := by
  intro l
  induction l with
  | nil => intro k a c p h; simp at h
  | cons x l ih =>
    intro k a c p h hp
    have e : ∀ (x : Int × Int) l, stkCells (x :: l) = .int .u32 x.1 :: .int .u64 x.2 :: stkCells l := by intro x l; simp [stkCells]
    cases k with
    | zero => simp at h; subst h; rw [e, List.set_cons_zero, e]; simp [hp]
    | succ k =>
      rw [e, show (k + 1) * 2 + 1 = k * 2 + 1 + 1 + 1 by omega, List.set_cons_succ, List.set_cons_succ, ih k a c p (by simpa using h) hp, List.set_cons_succ, e]

theorem StkAt.set {w : World} {x : Nat} {l : List (Int × Int)} (h : StkAt w x l) {k : Nat} {p : Int × Int} (hk : l[k]? = some p) (c : Int) : StkAt (w.setCell ⟨x, k * 2 + 1, none⟩ (.int .u64 c)) x (l.set k (p.1, c)) := by
  unfold StkAt at *
  simp only [World.setCell, Array.getElem?_modify, if_pos, h, Option.map_some, ← stkCells_set l k p.1 c p hk rfl]
  simp

theorem StkAt.keep {w w' : World} {x : Nat} {l : List (Int × Int)} (h : StkAt w x l) (b : Below w.heap.size w w') : StkAt w' x l := by
  unfold StkAt at *
  rw [b.block x (by have := (Array.getElem?_eq_some_iff.1 h).1; omega)]; exact h

theorem StkAt.other {w : World} {x : Nat} {l : List (Int × Int)} (h : StkAt w x l) {a : Addr} (hx : x ≠ a.block) (u : Value) : StkAt (w.setCell a u) x l := by
  unfold StkAt at *
  rw [Below.heap_setCell _ _ _ _ hx]; exact h

theorem StkAt.stks {w : World} {x base : Nat} {l : List (Int × Int)} (h : StkAt w x l) (hb : base ≤ x) (hl : l.length ≤ 1000) : Stks w base (.slice (some ⟨x, 0, none⟩) l.length l.length) l := by
  refine ⟨by rw [stkCells_len]; omega, .inr ⟨x, l.length, _, rfl, hb, h, Nat.le_refl _, by unfold maxLen; omega, by simp [stkCells_len]; omega, ?_⟩⟩
  rw [List.take_of_length_le (by simp [stkCells_len]; omega)]

/-- What the loops of Needs hold. -/
structure NS (w wr : World) (b6 x y : Nat) (li lo : List (Int × Int)) : Prop where
  below : Below w.heap.size w wr
  hx : StkAt wr x li
  hy : StkAt wr y lo
  h4 : wr.heap[w.heap.size]? = some (.cells #[.slice none 0 0, .slice none 0 0] 82 (0, 0))
  h6 : wr.heap[b6]? = some (.cells #[.slice (some ⟨x, 0, none⟩) li.length li.length, .slice (some ⟨y, 0, none⟩) lo.length lo.length] 82 (0, 0))
  l1 : w.heap.size < x
  l2 : x < y
  l3 : y < b6

theorem heap_lt {w : World} {x : Nat} {o : Obj} (h : w.heap[x]? = some o) : x < w.heap.size := (Array.getElem?_eq_some_iff.1 h).1

theorem NS.keep {w wr wr' : World} {b6 x y : Nat} {li lo : List (Int × Int)} (h : NS w wr b6 x y li lo) (b : Below wr.heap.size wr wr') : NS w wr' b6 x y li lo :=
  ⟨below_trans h.below b, h.hx.keep b, h.hy.keep b, by rw [b.block _ (heap_lt h.h4)]; exact h.h4, by rw [b.block _ (heap_lt h.h6)]; exact h.h6, h.l1, h.l2, h.l3⟩

theorem NS.setX {w wr : World} {b6 x y : Nat} {li lo : List (Int × Int)} (h : NS w wr b6 x y li lo) {k : Nat} {p : Int × Int} (hk : li[k]? = some p) (c : Int) : NS w (wr.setCell ⟨x, k * 2 + 1, none⟩ (.int .u64 c)) b6 x y (li.set k (p.1, c)) lo := by
  have l1 := h.l1
  have l2 := h.l2
  have l3 := h.l3
  refine ⟨h.below.setCell (by show _ ≤ x; omega) _, h.hx.set hk c, h.hy.other (by show y ≠ x; omega) _, ?_, ?_, l1, l2, l3⟩
  · rw [Below.heap_setCell _ _ _ _ (by show w.heap.size ≠ x; omega)]; exact h.h4
  · rw [Below.heap_setCell _ _ _ _ (by show b6 ≠ x; omega), List.length_set]; exact h.h6

theorem NS.setY {w wr : World} {b6 x y : Nat} {li lo : List (Int × Int)} (h : NS w wr b6 x y li lo) {k : Nat} {p : Int × Int} (hk : lo[k]? = some p) (c : Int) : NS w (wr.setCell ⟨y, k * 2 + 1, none⟩ (.int .u64 c)) b6 x y li (lo.set k (p.1, c)) := by
  have l1 := h.l1
  have l2 := h.l2
  have l3 := h.l3
  refine ⟨h.below.setCell (by show _ ≤ y; omega) _, h.hx.other (by show x ≠ y; omega) _, h.hy.set hk c, ?_, ?_, l1, l2, l3⟩
  · rw [Below.heap_setCell _ _ _ _ (by show w.heap.size ≠ y; omega)]; exact h.h4
  · rw [Below.heap_setCell _ _ _ _ (by show b6 ≠ y; omega), List.length_set]; exact h.h6

/-- The first k lines so many times. -/
def part (n : Int) (k : Nat) (l : List (Int × Int)) : List (Int × Int) := mulL n (l.take k) ++ l.drop k

theorem part_zero (n : Int) (l : List (Int × Int)) : part n 0 l = l := by simp [part, mulL]

theorem part_all (n : Int) (l : List (Int × Int)) : part n l.length l = mulL n l := by simp [part]

theorem part_len (n : Int) (k : Nat) (l : List (Int × Int)) : (part n k l).length = l.length := by simp [part, mulL]; omega

theorem part_at {n : Int} {k : Nat} {l : List (Int × Int)} {p : Int × Int} (h : l[k]? = some p) : (part n k l)[k]? = some p := by
  obtain ⟨hl, e⟩ := List.getElem?_eq_some_iff.1 h
  unfold part
  rw [List.getElem?_append_right (by simp [mulL]; omega)]
  simp [mulL, Nat.min_eq_left (Nat.le_of_lt hl), h]

theorem part_succ {n : Int} {k : Nat} {l : List (Int × Int)} {p : Int × Int} (h : l[k]? = some p) : (part n k l).set k (p.1, p.2 * n) = part n (k + 1) l := by
  obtain ⟨hl, e⟩ := List.getElem?_eq_some_iff.1 h
  unfold part
  rw [List.drop_eq_getElem_cons hl, List.take_succ_eq_append_getElem hl, e]
  have hk : (mulL n (l.take k)).length = k := by simp [mulL]; omega
  rw [List.set_append_right _ _ (by omega), hk, Nat.sub_self, List.set_cons_zero]
  simp [mulL]

theorem inL_small (id : Int) : (∀ p ∈ inL id, 0 ≤ p.2 ∧ p.2 ≤ 1000) ∧ (∀ p ∈ outL id, 0 ≤ p.2 ∧ p.2 ≤ 1000) := by
  unfold inL outL
  repeat' split
  all_goals decide

theorem ix0 (a b : Value) (w : World) : (Instr.index 153 (.agg #[a, b]) (.int .i64 0)).run Tryz.prog w = .ok a w := by kernel_rfl

theorem ix1 (a b : Value) (w : World) : (Instr.index 153 (.agg #[a, b]) (.int .i64 1)).run Tryz.prog w = .ok b w := by kernel_rfl

set_option maxRecDepth 100000 in
set_option maxHeartbeats 1000000 in
theorem needs_ok_walk (id n : Int) (w : World) (h : inL id ≠ []) (n1 : 1 ≤ n) (n2 : n ≤ 1000) : Calls Tryz.prog 71 #[.int .u32 id, .int .u64 n] w (SomeTwo (.int .u16 0) (mulL n (inL id)) (mulL n (outL id)) w) := by
  obtain ⟨s1, s2, s3, s4⟩ := rows_small id
  obtain ⟨t1, t2⟩ := inL_small id
  have hd : decide (inL id ≠ []) = true := by simpa using h
  go_enter Tryz.func71, Tryz.ntmps71
  go_wp2_with fail
  refine (of_any _ _).mono ?_
  rintro e w1 ⟨r, rfl, b1, ⟨h1, h2, h3⟩ | ⟨hne, x, y, rfl, l1, l2, k1, k2⟩⟩
  · exact absurd h1 h
  · rw [hd]
    have H := Lib.hid h
    have T1 := Lib.hid t1
    have T2 := Lib.hid t2
    obtain ⟨c0, c1, f0, f1, hs⟩ := kept_two _ _ _ _ _ b1
    have i0 := ix0
    have i1 := ix1
    have R0 : NS w (w1.alloc (.cells #[.slice (some ⟨x, 0, none⟩) (inL id).length (inL id).length, .slice (some ⟨y, 0, none⟩) (outL id).length (outL id).length] 82)) w1.heap.size x y (inL id) (outL id) := by
      have hb := b1.size
      rw [World.size_alloc] at hb l1
      have ly := heap_lt k2
      refine ⟨((((Below.refl _ _).alloc (Nat.le_refl _) _).trans (b1.mono (by simp))).alloc (by omega) _), k1.keep ((Below.refl _ _).alloc (Nat.le_refl _) _), k2.keep ((Below.refl _ _).alloc (Nat.le_refl _) _), ?_, ?_, by omega, l2, ly⟩
      · rw [Below.heap_alloc _ _ _ (by omega), b1.block _ (by simp)]
        show (w.heap.push _)[_]? = _
        rw [Array.getElem?_push, if_pos rfl]
      · show (w1.heap.push _)[_]? = _
        rw [Array.getElem?_push, if_pos rfl]
    clear hd t1 t2 c0 c1 f0 f1 k1 k2 l1 h hne
    go_wp2_with fail
    go_loopw [33] (fun s33 wr => (s33 = .int .i64 0 ∧ NS w wr w1.heap.size x y (inL id) (outL id)) ∨ (s33 = .int .i64 1 ∧ NS w wr w1.heap.size x y (mulL n (inL id)) (outL id)) ∨ (s33 = .int .i64 2 ∧ NS w wr w1.heap.size x y (mulL n (inL id)) (mulL n (outL id)))) (fun s33 _ => 2 - (intOf s33).toNat)
    case atStart => exact .inl ⟨rfl, R0⟩
    case round =>
      clear R0 b1 hs l2
      rcases hrel with ⟨rfl, R⟩ | ⟨rfl, R⟩ | ⟨rfl, R⟩
      · skip
        go_wp2_with fail
        obtain ⟨wo, rfl⟩ : ∃ wo : World, wo = wr := ⟨_, rfl⟩
        go_loopw [38] (fun s38 wr => ∃ k : Nat, k ≤ (inL id).length ∧ s38 = .int .i64 k ∧ NS w wr w1.heap.size x y (part n k (inL id)) (outL id)) (fun s38 _ => (inL id).length - (intOf s38).toNat)
        case atStart => exact ⟨0, Nat.zero_le _, rfl, by rw [part_zero]; exact R⟩
        case round =>
          obtain ⟨k, hk, rfl, R⟩ := hrel
          by_cases hlt : k < (inL id).length
          · obtain ⟨p, hp⟩ : ∃ p, (inL id)[k]? = some p := ⟨_, List.getElem?_eq_getElem hlt⟩
            obtain ⟨q0, q1⟩ := T1.out p (List.mem_of_getElem? hp)
            have hpt := part_at (n := n) hp
            obtain ⟨d1, d2, d3, d4⟩ := R.hx.cells hpt
            have pn : p.2 * n ≤ 1000 * 1000 := Int.mul_le_mul q1 n2 (by omega) (by omega)
            obtain ⟨v1, v2⟩ := times_ok (a := p.2) (n := n) (by omega) (by omega)
            have HPT := Lib.hid hpt
            have HP := Lib.hid hp
            have l2' : ((inL id).length : Int) ≤ 3 := by omega
            clear hpt hp v2
            go_wp2_with fail
            refine (times_any _ _ _ q0 (by omega) (by omega)).mono ?_
            rintro e w2 ⟨rfl, bt⟩
            rw [v1]
            have R2 := R.keep bt
            obtain ⟨d5, d6, d7, d8⟩ := R2.hx.cells HPT.out
            have R3 := R2.setX HPT.out (p.2 * n)
            rw [part_succ HP.out] at R3
            clear R R2 v1
            go_wp2_with fail
            go_roundw
            case rel => exact ⟨k + 1, by omega, by go_num, R3⟩
            case measure => simp [intOf]; omega
          · obtain rfl : k = (inL id).length := by omega
            rw [part_all] at R
            go_wp2_with fail
            go_roundw
            case rel => exact .inr (.inl ⟨rfl, R⟩)
            case measure => simp [intOf]
      · skip
        go_wp2_with fail
        obtain ⟨wo, rfl⟩ : ∃ wo : World, wo = wr := ⟨_, rfl⟩
        go_loopw [38] (fun s38 wr => ∃ k : Nat, k ≤ (outL id).length ∧ s38 = .int .i64 k ∧ NS w wr w1.heap.size x y (mulL n (inL id)) (part n k (outL id))) (fun s38 _ => (outL id).length - (intOf s38).toNat)
        case atStart => exact ⟨0, Nat.zero_le _, rfl, by rw [part_zero]; exact R⟩
        case round =>
          obtain ⟨k, hk, rfl, R⟩ := hrel
          by_cases hlt : k < (outL id).length
          · obtain ⟨p, hp⟩ : ∃ p, (outL id)[k]? = some p := ⟨_, List.getElem?_eq_getElem hlt⟩
            obtain ⟨q0, q1⟩ := T2.out p (List.mem_of_getElem? hp)
            have hpt := part_at (n := n) hp
            obtain ⟨d1, d2, d3, d4⟩ := R.hy.cells hpt
            have pn : p.2 * n ≤ 1000 * 1000 := Int.mul_le_mul q1 n2 (by omega) (by omega)
            obtain ⟨v1, v2⟩ := times_ok (a := p.2) (n := n) (by omega) (by omega)
            have HPT := Lib.hid hpt
            have HP := Lib.hid hp
            have l2' : ((outL id).length : Int) ≤ 3 := by omega
            clear hpt hp v2
            go_wp2_with fail
            refine (times_any _ _ _ q0 (by omega) (by omega)).mono ?_
            rintro e w2 ⟨rfl, bt⟩
            rw [v1]
            have R2 := R.keep bt
            obtain ⟨d5, d6, d7, d8⟩ := R2.hy.cells HPT.out
            have R3 := R2.setY HPT.out (p.2 * n)
            rw [part_succ HP.out] at R3
            clear R R2 v1
            go_wp2_with fail
            go_roundw
            case rel => exact ⟨k + 1, by omega, by go_num, R3⟩
            case measure => simp [intOf]; omega
          · obtain rfl : k = (outL id).length := by omega
            rw [part_all] at R
            go_wp2_with fail
            go_roundw
            case rel => exact .inr (.inr ⟨rfl, R⟩)
            case measure => simp [intOf]
      · have e6 := R.h6
        simp only [mulL_len] at e6
        have c60 : wr.cell? ⟨w1.heap.size, 0, none⟩ = some (.slice (some ⟨x, 0, none⟩) (inL id).length (inL id).length) := by rw [cell_of_row wr _ _ _ _ _ e6]; rfl
        have c61 : wr.cell? ⟨w1.heap.size, 1, none⟩ = some (.slice (some ⟨y, 0, none⟩) (outL id).length (outL id).length) := by rw [cell_of_row wr _ _ _ _ _ e6]; rfl
        have c40 : wr.cell? ⟨w.heap.size, 0, none⟩ = some (.slice none 0 0) := by rw [cell_of_row wr _ _ _ _ _ R.h4]; rfl
        have c41 : wr.cell? ⟨w.heap.size, 1, none⟩ = some (.slice none 0 0) := by rw [cell_of_row wr _ _ _ _ _ R.h4]; rfl
        have f40 : wr.frozen? ⟨w.heap.size, 0, none⟩ = false := frozen_of R.h4
        have f41 : wr.frozen? ⟨w.heap.size, 1, none⟩ = false := frozen_of R.h4
        have l1 := R.l1
        have l2 := R.l2
        go_wp2_with fail
        refine bodyPost_ret (v := .tuple #[.agg #[.slice (some ⟨x, 0, none⟩) (inL id).length (inL id).length, .slice (some ⟨y, 0, none⟩) (outL id).length (outL id).length], .int .u16 0]) (by simp [results, Tryz.results71, go_sem, c40, c41]) rfl ⟨_, rfl, ?_, _, _, rfl, ?_, ?_⟩
        · exact (R.below.setCell (Nat.le_refl _) _).setCell (Nat.le_refl _) _
        · have := ((R.hx.other (a := ⟨w.heap.size, 0, none⟩) (by show x ≠ w.heap.size; omega) (.slice (some ⟨x, 0, none⟩) (inL id).length (inL id).length)).other (a := ⟨w.heap.size, 1, none⟩) (by show x ≠ w.heap.size; omega) (.slice (some ⟨y, 0, none⟩) (outL id).length (outL id).length)).stks (base := w.heap.size) (by omega) (by rw [mulL_len]; omega)
          simpa only [mulL_len] using this
        · have := ((R.hy.other (a := ⟨w.heap.size, 0, none⟩) (by show y ≠ w.heap.size; omega) (.slice (some ⟨x, 0, none⟩) (inL id).length (inL id).length)).other (a := ⟨w.heap.size, 1, none⟩) (by show y ≠ w.heap.size; omega) (.slice (some ⟨y, 0, none⟩) (outL id).length (outL id).length)).stks (base := w.heap.size) (by omega) (by rw [mulL_len]; omega)
          simpa only [mulL_len] using this

set_option maxRecDepth 100000 in
set_option maxHeartbeats 400000 in
theorem needs_none_walk (id n : Int) (w : World) (h : inL id = []) : Calls Tryz.prog 71 #[.int .u32 id, .int .u64 n] w (SomeTwo (.int .u16 40) [] [] w) := by
  have hd : decide (inL id ≠ []) = false := by simpa using h
  go_enter Tryz.func71, Tryz.ntmps71
  go_wp2_with fail
  refine (of_any _ _).mono ?_
  rintro e w1 ⟨r, rfl, b1, ⟨h1, h2, rfl⟩ | ⟨hne, x, y, rfl, l1, l2, k1, k2⟩⟩
  · rw [hd]
    obtain ⟨c0, c1, f0, f1, hs⟩ := kept_two _ _ _ _ _ b1
    have B : Below w.heap.size w w1 := ((Below.refl _ _).alloc (Nat.le_refl _) _).trans (b1.mono (by simp))
    clear h hd h1 h2 b1
    go_wp2_with fail
    refine bodyPost_ret (v := .tuple #[.agg #[.slice none 0 0, .slice none 0 0], .int .u16 40]) (by simp [results, Tryz.results71, go_sem, c0, c1, World.cell?_alloc_old, Nat.ne_of_lt hs]) rfl ⟨_, rfl, ?_, _, _, rfl, Stks.nil _ _, Stks.nil _ _⟩
    exact ((B.setCell (Nat.le_refl _) _).setCell (Nat.le_refl _) _).alloc (by simpa [World.setCell] using Nat.le_of_lt hs) _
  · exact absurd h hne

set_option maxRecDepth 100000 in
set_option maxHeartbeats 400000 in
theorem needs_arg_walk (id n : Int) (w : World) (h : inL id ≠ []) (hn : n < 1 ∨ 1000 < n) : Calls Tryz.prog 71 #[.int .u32 id, .int .u64 n] w (SomeTwo (.int .u16 1) [] [] w) := by
  have hd : decide (inL id ≠ []) = true := by simpa using h
  rcases hn with hn | hn
  all_goals
    go_enter Tryz.func71, Tryz.ntmps71
    go_wp2_with fail
    refine (of_any _ _).mono ?_
    rintro e w1 ⟨r, rfl, b1, ⟨h1, h2, rfl⟩ | ⟨hne, x, y, rfl, l1, l2, k1, k2⟩⟩
    · exact absurd h1 h
    · rw [hd]
      obtain ⟨c0, c1, f0, f1, hs⟩ := kept_two _ _ _ _ _ b1
      have B : Below w.heap.size w w1 := ((Below.refl _ _).alloc (Nat.le_refl _) _).trans (b1.mono (by simp))
      clear h hd b1 k1 k2 l1 l2 hne
      go_wp2_with fail
      refine bodyPost_ret (v := .tuple #[.agg #[.slice none 0 0, .slice none 0 0], .int .u16 1]) (by simp [results, Tryz.results71, go_sem, c0, c1, World.cell?_alloc_old, Nat.ne_of_lt hs]) rfl ⟨_, rfl, ?_, _, _, rfl, Stks.nil _ _, Stks.nil _ _⟩
      exact ((B.setCell (Nat.le_refl _) _).setCell (Nat.le_refl _) _).alloc (by simpa [World.setCell] using Nat.le_of_lt hs) _

theorem needs_any (id n : Int) (w : World) : Calls Tryz.prog 71 #[.int .u32 id, .int .u64 n] w (SomeTwo (.int .u16 (needsE id n)) (needsI id n) (needsO id n) w) := by
  by_cases h : inL id = []
  · obtain ⟨e1, e2, e3⟩ := needs_none (n := n) h
    rw [e1, e2, e3]; exact needs_none_walk id n w h
  · by_cases hn : n < 1 ∨ 1000 < n
    · obtain ⟨e1, e2, e3⟩ := needs_arg h hn
      rw [e1, e2, e3]; exact needs_arg_walk id n w h hn
    · obtain ⟨e1, e2, e3⟩ := needs_ok h (show 1 ≤ n by omega) (by omega)
      rw [e1, e2, e3]; exact needs_ok_walk id n w h (by omega) (by omega)

set_option maxRecDepth 100000 in
set_option maxHeartbeats 1000000 in
theorem change_any (id n item : Int) (w : World) :
    Calls Tryz.prog 87 #[.int .u32 id, .int .u64 n, .int .u32 item] w fun e w' => e = .returned (.tuple #[.int .u64 (cnt (needsI id n) item), .int .u64 (cnt (needsO id n) item)]) ∧ Below w.heap.size w w' := by
  obtain ⟨l1, l2⟩ := needs_len id n
  go_enter Tryz.func87, Tryz.ntmps87
  go_wp2_with fail
  refine (needs_any _ _ _).mono ?_
  rintro e w1 ⟨r, rfl, b1, vi, vo, rfl, k1, k2⟩
  obtain ⟨ai, ci, rfl⟩ := k1.shape
  obtain ⟨ao, co, rfl⟩ := k2.shape
  go_wp2_with fail
  have q1 : Stks (w1.alloc (.cells #[.slice ai (needsI id n).length ci, .slice ao (needsO id n).length co] 82)) w.heap.size (.slice ai (needsI id n).length ci) (needsI id n) := k1.below ((Below.refl _ _).alloc (Nat.le_refl _) _)
  have q2 : Stks (w1.alloc (.cells #[.slice ai (needsI id n).length ci, .slice ao (needsO id n).length co] 82)) w.heap.size (.slice ao (needsO id n).length co) (needsO id n) := k2.below ((Below.refl _ _).alloc (Nat.le_refl _) _)
  have d0 : (w1.alloc (.cells #[.slice ai (needsI id n).length ci, .slice ao (needsO id n).length co] 82)).cell? ⟨w1.heap.size, 0, none⟩ = some (.slice ai (needsI id n).length ci) := by simp [go_sem]
  have d1 : (w1.alloc (.cells #[.slice ai (needsI id n).length ci, .slice ao (needsO id n).length co] 82)).cell? ⟨w1.heap.size, 1, none⟩ = some (.slice ao (needsO id n).length co) := by simp [go_sem]
  have B : Below w.heap.size w (w1.alloc (.cells #[.slice ai (needsI id n).length ci, .slice ao (needsO id n).length co] 82)) := b1.alloc b1.size _
  obtain ⟨X, hX⟩ : ∃ X, X = w1.heap.size := ⟨_, rfl⟩
  rw [← hX] at d0 d1 ⊢
  generalize w1.alloc (.cells #[.slice ai (needsI id n).length ci, .slice ao (needsO id n).length co] 82) = w2 at q1 q2 d0 d1 B ⊢
  clear k1 k2 b1 hX
  go_region_held3 (fun w' => w'.cell? ⟨X, 0, none⟩ = some (.slice ai (needsI id n).length ci) ∧ w'.cell? ⟨X, 1, none⟩ = some (.slice ao (needsO id n).length co) ∧ Hid (Below w2.heap.size w2 w'))
    (first
      | exact ⟨d0, d1, Lib.hid (Below.refl _ _).drew⟩
      | (go_split_ands; exact ⟨cell_keep bq (by assumption), cell_keep bq (by assumption), Lib.hid (below_trans (Hid.out (by assumption)) bq)⟩))
    (first
      | (go_at_call_of 101 (Value.slice ai (needsI id n).length ci); go_split_ands; refine (count_any _ _ _ _ _ (q1.below (Hid.out (by assumption))) (by omega)).mono ?_; rintro e wq ⟨rfl, bq⟩)
      | (go_at_call_of 101 (Value.slice ao (needsO id n).length co); go_split_ands; refine (count_any _ _ _ _ _ (q2.below (Hid.out (by assumption))) (by omega)).mono ?_; rintro e wq ⟨rfl, bq⟩))
  go_wp2_with fail
  go_ret2
  exact ⟨rfl, below_trans B (below_trans (Hid.out (by assumption)) bq)⟩
end Go.Proofs.YtdbpjbmalinlbaaGreat
