/- Contracts of the reference's Change, and of Needs and Change. -/
import Derived.Test.YtghpjmihlgfeaaaRecE
import Derived.StillTactics
import Derived.Laws.Pointers
import Derived.Deep.RegionHeld3
namespace Go.Proofs.Ytghpjmihlgfeaaa
open Go.RowKit

theorem needs_len (id n : Int) : (needsI id n).length ≤ 3 ∧ (needsO id n).length ≤ 2 := by
  obtain ⟨_, _, s3, s4⟩ := rows_small id
  unfold needsI needsO
  constructor <;> split <;> simp [mulL_len] <;> omega

set_option maxRecDepth 100000 in
set_option maxHeartbeats 400000 in
theorem refChange_any (id n item : Int) (w : World) :
    Calls Try.prog 19 #[.int .u32 id, .int .u64 n, .int .u32 item] w fun e w' => e = .returned (.tuple #[.int .u64 (cnt (needsI id n) item), .int .u64 (cnt (needsO id n) item)]) ∧ Below w.heap.size w w' := by
  obtain ⟨l1, l2⟩ := needs_len id n
  have hz : Hid (needsE id n ≠ 0 → needsI id n = [] ∧ needsO id n = []) := Lib.hid (by
    intro h
    by_cases h1 : inL id = []
    · exact (needs_none h1).2
    · by_cases h2 : n < 1 ∨ 1000 < n
      · exact (needs_arg h1 h2).2
      · exact absurd (needs_ok h1 (show 1 ≤ n by omega) (by omega)).1 h)
  go_enter Try.func19, Try.ntmps19
  go_wp2_with fail
  refine (refNeeds_any _ _ _).mono ?_
  rintro e w1 ⟨r, rfl, b1, vi, vo, rfl, k1, k2⟩
  obtain ⟨ai, ci, rfl⟩ := k1.shape
  obtain ⟨ao, co, rfl⟩ := k2.shape
  by_cases he : needsE id n = 0
  · have hb : (needsE id n != 0) = false := by rw [bne_eq_false_iff_eq]; exact he
    have K1 := Lib.hid k1
    have K2 := Lib.hid k2
    clear he k1 k2
    go_wp2_with fail
    have q1 : ∀ m : Nat, Stks ((w1.alloc (.cells #[.slice ai (needsI id n).length ci, .slice ao (needsO id n).length co] 26)).drewN m) w.heap.size (.slice ai (needsI id n).length ci) (needsI id n) :=
      fun m => K1.out.below (below_drewN ((Below.refl _ _).alloc (Nat.le_refl _) _) m)
    have q2 : ∀ m : Nat, Stks ((w1.alloc (.cells #[.slice ai (needsI id n).length ci, .slice ao (needsO id n).length co] 26)).drewN m) w.heap.size (.slice ao (needsO id n).length co) (needsO id n) :=
      fun m => K2.out.below (below_drewN ((Below.refl _ _).alloc (Nat.le_refl _) _) m)
    have Q1 := Lib.hid q1
    have Q2 := Lib.hid q2
    clear q1 q2
    go_quiet ((go_at_call 37; first | exact quiet_left (refCount_any _ _ _ _ _ (Q1.out _) (by omega)) | exact quiet_left (refCount_any _ _ _ _ _ (Q2.out _) (by omega)) | exact quiet_add_left (refCount_any _ _ _ _ _ (Q1.out _) (by omega)) | exact quiet_add_left (refCount_any _ _ _ _ _ (Q2.out _) (by omega))))
    go_wp2_with fail
    go_ret2
    exact ⟨rfl, below_drewN (((b1)).alloc b1.size _) _⟩
  · have hb : (needsE id n != 0) = true := by rw [bne_iff_ne]; exact he
    have Z := Lib.hid (hz.out he)
    clear he k1 k2
    go_wp2_with fail
    go_ret2
    exact ⟨by rw [Z.out.1, Z.out.2]; rfl, b1.alloc b1.size _⟩

theorem frozen_of {w : World} {x j : Nat} {cs : Array Value} {t : TypeId} (hb : w.heap[x]? = some (.cells cs t (0, 0))) : w.frozen? ⟨x, j, none⟩ = false := by
  simp [World.frozen?, hb]

theorem StkAt.cells {w : World} {x : Nat} {l : List (Int × Int)} (h : StkAt w x l) {k : Nat} {p : Int × Int} (hk : l[k]? = some p) :
    w.cell? ⟨x, k * 2, none⟩ = some (.int .u32 p.1) ∧ w.cell? ⟨x, k * 2 + 1, none⟩ = some (.int .u64 p.2) ∧ w.frozen? ⟨x, k * 2 + 1, none⟩ = false ∧ w.frozen? ⟨x, k * 2, none⟩ = false := by
  obtain ⟨e1, e2⟩ := stkCells_at l k p hk
  refine ⟨?_, ?_, frozen_of h, frozen_of h⟩
  · rw [cell_of_row w x _ _ _ _ h]; simpa using e1
  · rw [cell_of_row w x _ _ _ _ h]; simpa using e2
theorem stkCells_set : ∀ (l : List (Int × Int)) (k : Nat) (a c : Int) (p : Int × Int), l[k]? = some p → p.1 = a → (stkCells l).set (k * 2 + 1) (.int .u64 c) = stkCells (l.set k (a, c)) := by
  intro l
  induction l with
  | nil => intro k a c p h; simp at h
  | cons x l ih =>
    intro k a c p h hp
    have e : ∀ (x : Int × Int) l, stkCells (x :: l) = .int .u32 x.1 :: .int .u64 x.2 :: stkCells l := by intro x l; simp [stkCells]
    cases k with
    | zero => simp at h; subst h; rw [e, List.set_cons_zero, e]; simp [hp]
    | succ k =>
      rw [e, show (k + 1) * 2 + 1 = k * 2 + 1 + 1 + 1 by omega, List.set_cons_succ, List.set_cons_succ, ih k a c p (by simpa using h) hp, List.set_cons_succ, e]
theorem StkAt.set {w : World} {x : Nat} {l : List (Int × Int)} (h : StkAt w x l) {k : Nat} {p : Int × Int} (hk : l[k]? = some p) (c : Int) : StkAt (w.setCell ⟨x, k * 2 + 1, none⟩ (.int .u64 c)) x (l.set k (p.1, c)) := by
  unfold StkAt at *
  simp only [World.setCell, Array.getElem?_modify, if_pos, h, Option.map_some, ← stkCells_set l k p.1 c p hk rfl]
  simp
theorem StkAt.keep {w w' : World} {x : Nat} {l : List (Int × Int)} (h : StkAt w x l) (b : Below w.heap.size w w') : StkAt w' x l := by
  unfold StkAt at *
  rw [b.block x (by have := (Array.getElem?_eq_some_iff.1 h).1; omega)]; exact h
theorem StkAt.other {w : World} {x : Nat} {l : List (Int × Int)} (h : StkAt w x l) {a : Addr} (hx : x ≠ a.block) (u : Value) : StkAt (w.setCell a u) x l := by
  unfold StkAt at *
  rw [Below.heap_setCell _ _ _ _ hx]; exact h
theorem StkAt.stks {w : World} {x base : Nat} {l : List (Int × Int)} (h : StkAt w x l) (hb : base ≤ x) (hl : l.length ≤ 1000) : Stks w base (.slice (some ⟨x, 0, none⟩) l.length l.length) l := by
  refine ⟨by rw [stkCells_len]; omega, .inr ⟨x, l.length, _, rfl, hb, h, Nat.le_refl _, by unfold maxLen; omega, by simp [stkCells_len]; omega, ?_⟩⟩
  rw [List.take_of_length_le (by simp [stkCells_len]; omega)]

/-- What the loops of Needs hold. -/
structure NS (w wr : World) (b6 x y : Nat) (li lo : List (Int × Int)) : Prop where
  below : Below w.heap.size w wr
  hx : StkAt wr x li
  hy : StkAt wr y lo
  h4 : wr.heap[w.heap.size]? = some (.cells #[.slice none 0 0, .slice none 0 0] 26 (0, 0))
  h6 : wr.heap[b6]? = some (.cells #[.slice (some ⟨x, 0, none⟩) li.length li.length, .slice (some ⟨y, 0, none⟩) lo.length lo.length] 26 (0, 0))
  l1 : w.heap.size < x
  l2 : x < y
  l3 : y < b6

theorem heap_lt {w : World} {x : Nat} {o : Obj} (h : w.heap[x]? = some o) : x < w.heap.size := (Array.getElem?_eq_some_iff.1 h).1

theorem NS.keep {w wr wr' : World} {b6 x y : Nat} {li lo : List (Int × Int)} (h : NS w wr b6 x y li lo) (b : Below wr.heap.size wr wr') : NS w wr' b6 x y li lo :=
  ⟨below_trans h.below b, h.hx.keep b, h.hy.keep b, by rw [b.block _ (heap_lt h.h4)]; exact h.h4, by rw [b.block _ (heap_lt h.h6)]; exact h.h6, h.l1, h.l2, h.l3⟩
theorem NS.setX {w wr : World} {b6 x y : Nat} {li lo : List (Int × Int)} (h : NS w wr b6 x y li lo) {k : Nat} {p : Int × Int} (hk : li[k]? = some p) (c : Int) : NS w (wr.setCell ⟨x, k * 2 + 1, none⟩ (.int .u64 c)) b6 x y (li.set k (p.1, c)) lo := by
  have l1 := h.l1
  have l2 := h.l2
  have l3 := h.l3
  refine ⟨h.below.setCell (by show _ ≤ x; omega) _, h.hx.set hk c, h.hy.other (by show y ≠ x; omega) _, ?_, ?_, l1, l2, l3⟩
  · rw [Below.heap_setCell _ _ _ _ (by show w.heap.size ≠ x; omega)]; exact h.h4
  · rw [Below.heap_setCell _ _ _ _ (by show b6 ≠ x; omega), List.length_set]; exact h.h6
theorem NS.setY {w wr : World} {b6 x y : Nat} {li lo : List (Int × Int)} (h : NS w wr b6 x y li lo) {k : Nat} {p : Int × Int} (hk : lo[k]? = some p) (c : Int) : NS w (wr.setCell ⟨y, k * 2 + 1, none⟩ (.int .u64 c)) b6 x y li (lo.set k (p.1, c)) := by
  have l1 := h.l1
  have l2 := h.l2
  have l3 := h.l3
  refine ⟨h.below.setCell (by show _ ≤ y; omega) _, h.hx.other (by show x ≠ y; omega) _, h.hy.set hk c, ?_, ?_, l1, l2, l3⟩
  · rw [Below.heap_setCell _ _ _ _ (by show w.heap.size ≠ y; omega)]; exact h.h4
  · rw [Below.heap_setCell _ _ _ _ (by show b6 ≠ y; omega), List.length_set]; exact h.h6

/-- The first k lines so many times. -/
def part (n : Int) (k : Nat) (l : List (Int × Int)) : List (Int × Int) := mulL n (l.take k) ++ l.drop k
theorem part_zero (n : Int) (l : List (Int × Int)) : part n 0 l = l := by simp [part, mulL]
theorem part_all (n : Int) (l : List (Int × Int)) : part n l.length l = mulL n l := by simp [part]
theorem part_len (n : Int) (k : Nat) (l : List (Int × Int)) : (part n k l).length = l.length := by simp [part, mulL]; omega
theorem part_at {n : Int} {k : Nat} {l : List (Int × Int)} {p : Int × Int} (h : l[k]? = some p) : (part n k l)[k]? = some p := by
  obtain ⟨hl, e⟩ := List.getElem?_eq_some_iff.1 h
  unfold part
  rw [List.getElem?_append_right (by simp [mulL]; omega)]
  simp [mulL, Nat.min_eq_left (Nat.le_of_lt hl), h]
theorem part_succ {n : Int} {k : Nat} {l : List (Int × Int)} {p : Int × Int} (h : l[k]? = some p) : (part n k l).set k (p.1, p.2 * n) = part n (k + 1) l := by
  obtain ⟨hl, e⟩ := List.getElem?_eq_some_iff.1 h
  unfold part
  rw [List.drop_eq_getElem_cons hl, List.take_succ_eq_append_getElem hl, e]
  have hk : (mulL n (l.take k)).length = k := by simp [mulL]; omega
  rw [List.set_append_right _ _ (by omega), hk, Nat.sub_self, List.set_cons_zero]
  simp [mulL]
end Go.Proofs.Ytghpjmihlgfeaaa
