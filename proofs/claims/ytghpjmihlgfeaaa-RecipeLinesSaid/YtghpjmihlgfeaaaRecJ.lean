/- The walks of the laws RecipeMany and RecipeAll. -/
import Derived.Test.YtghpjmihlgfeaaaRecI
namespace Go.Proofs.Ytghpjmihlgfeaaa
open Go.RowKit

theorem of_two (id : Int) (w : World) : Calls Try.prog 14 #[.int .u32 id] w (SomeTwo (.bool (decide (inL id ≠ []))) (inL id) (outL id) w) := by
  obtain ⟨_, _, s3, s4⟩ := rows_small id
  refine (of_any id w).mono ?_
  rintro e w1 ⟨r, rfl, b1, ⟨h1, h2, rfl⟩ | ⟨hne, x, y, rfl, l1, l2, k1, k2⟩⟩
  · refine ⟨_, rfl, b1, _, _, rfl, ?_, ?_⟩
    · rw [h1]; exact Stks.nil _ _
    · rw [h2]; exact Stks.nil _ _
  · exact ⟨_, rfl, b1, _, _, rfl, k1.stks l1 (by omega), k2.stks (by omega) (by omega)⟩

theorem cnt_mul (n : Int) (item : Int) : ∀ l : List (Int × Int), cnt (mulL n l) item = cnt l item * n := by
  intro l
  induction l with
  | nil => simp [mulL, cnt]
  | cons x l ih =>
    have e : mulL n (x :: l) = (x.1, x.2 * n) :: mulL n l := rfl
    rw [e, cnt, cnt]
    show (if x.1 = item then x.2 * n else cnt (mulL n l) item) = _
    by_cases h : x.1 = item
    · rw [if_pos h, if_pos h]
    · rw [if_neg h, if_neg h, ih]
theorem cnt_bd (item : Int) : ∀ l : List (Int × Int), (∀ p ∈ l, 0 ≤ p.2 ∧ p.2 ≤ 1000) → 0 ≤ cnt l item ∧ cnt l item ≤ 1000 := by
  intro l
  induction l with
  | nil => intro _; simp [cnt]
  | cons x l ih =>
    intro h
    rw [cnt]
    split
    · exact h x List.mem_cons_self
    · exact ih fun p hp => h p (List.mem_cons_of_mem _ hp)

theorem many_in (id n item : Int) (h1 : 1 ≤ n) (h2 : n ≤ 1000) : cnt (needsI id n) item = cnt (needsI id 1) item * n ∧ 0 ≤ cnt (needsI id 1) item ∧ cnt (needsI id 1) item ≤ 1000 := by
  by_cases h : inL id = []
  · rw [(needs_none (n := n) h).2.1, (needs_none (n := 1) h).2.1]; simp [cnt]
  · rw [(needs_ok h h1 h2).2.1, (needs_ok h (show (1 : Int) ≤ 1 by omega) (by omega)).2.1, cnt_mul, cnt_mul, Int.mul_one]
    exact ⟨rfl, cnt_bd item _ (inL_small id).1⟩
theorem many_out (id n item : Int) (h1 : 1 ≤ n) (h2 : n ≤ 1000) : cnt (needsO id n) item = cnt (needsO id 1) item * n ∧ 0 ≤ cnt (needsO id 1) item ∧ cnt (needsO id 1) item ≤ 1000 := by
  by_cases h : inL id = []
  · rw [(needs_none (n := n) h).2.2, (needs_none (n := 1) h).2.2]; simp [cnt]
  · rw [(needs_ok h h1 h2).2.2, (needs_ok h (show (1 : Int) ≤ 1 by omega) (by omega)).2.2, cnt_mul, cnt_mul, Int.mul_one]
    exact ⟨rfl, cnt_bd item _ (inL_small id).2⟩
theorem many_none (id n item : Int) (hn : n < 1 ∨ 1000 < n) : cnt (needsI id n) item = 0 ∧ cnt (needsO id n) item = 0 := by
  by_cases h : inL id = []
  · rw [(needs_none (n := n) h).2.1, (needs_none (n := n) h).2.2]; simp [cnt]
  · rw [(needs_arg h hn).2.1, (needs_arg h hn).2.2]; simp [cnt]

set_option maxRecDepth 100000 in
set_option maxHeartbeats 400000 in
theorem recipeMany_walk (id n item : Int) (w : World) :
    Calls Try.prog 4 #[.int .u32 id, .int .u64 n, .int .u32 item] w fun e w' => e = .returned (.bool true) ∧ Below w.heap.size w w' := by
  by_cases hn : n < 1 ∨ 1000 < n
  · obtain ⟨e1, e2⟩ := many_none id n item hn
    rcases hn with hn | hn
    all_goals
      go_enter Try.func4, Try.ntmps4
      go_wp2_with fail
      refine (change_any _ _ _ _).mono ?_
      rintro e w1 ⟨rfl, b1⟩
      go_wp2_with fail
      refine (change_any _ _ _ _).mono ?_
      rintro e w2 ⟨rfl, b2⟩
      go_wp2_with fail
      refine (recKnown_any _).mono ?_
      rintro e w3 ⟨rfl, b3⟩
      go_wp2_with fail
      go_ret
      exact ⟨rfl, below_trans b1 (below_trans b2 b3)⟩
  · have n1 : 1 ≤ n := by omega
    have n2 : n ≤ 1000 := by omega
    obtain ⟨e1, p1, p2⟩ := many_in id n item n1 n2
    obtain ⟨e2, p3, p4⟩ := many_out id n item n1 n2
    clear hn
    have hm1 : 0 ≤ cnt (needsI id 1) item * n := Int.mul_nonneg p1 (by omega)
    have hm2 : cnt (needsI id 1) item * n ≤ 1000 * 1000 := Int.mul_le_mul p2 n2 (by omega) (by omega)
    have hm3 : 0 ≤ cnt (needsO id 1) item * n := Int.mul_nonneg p3 (by omega)
    have hm4 : cnt (needsO id 1) item * n ≤ 1000 * 1000 := Int.mul_le_mul p4 n2 (by omega) (by omega)
    have E1 := Lib.hid e1
    have E2 := Lib.hid e2
    clear e1 e2
    go_enter Try.func4, Try.ntmps4
    go_wp2_with fail
    refine (change_any _ _ _ _).mono ?_
    rintro e w1 ⟨rfl, b1⟩
    go_wp2_with fail
    refine (change_any _ _ _ _).mono ?_
    rintro e w2 ⟨rfl, b2⟩
    rw [E1.out, E2.out]
    go_wp2_with fail
    refine (recKnown_any _).mono ?_
    rintro e w3 ⟨rfl, b3⟩
    go_wp2_with fail
    go_ret
    exact ⟨rfl, below_trans b1 (below_trans b2 b3)⟩

theorem below_alloc (w : World) (o : Obj) : Below w.heap.size w (w.alloc o) := (Below.refl _ _).alloc (Nat.le_refl _) o
theorem needsE_bd (id n : Int) : 0 ≤ needsE id n ∧ needsE id n ≤ 40 := by unfold needsE; split <;> (try split) <;> omega

set_option maxRecDepth 100000 in
set_option maxHeartbeats 1000000 in
theorem recipeAll_walk (id n item : Int) (w : World) :
    Calls Try.prog 3 #[.int .u32 id, .int .u64 n, .int .u32 item] w fun e w' => e = .returned (.bool true) ∧ Below w.heap.size w w' := by
  obtain ⟨_, _, s3, s4⟩ := rows_small id
  obtain ⟨m1, m2⟩ := needs_len id n
  obtain ⟨e0, e1⟩ := needsE_bd id n
  obtain ⟨d, hd⟩ : ∃ d, decide (inL id ≠ []) = d := ⟨_, rfl⟩
  have HD := Lib.hid hd
  clear hd
  go_enter Try.func3, Try.ntmps3
  go_wp2_with fail
  refine (of_two _ _).mono ?_
  rintro e w1 ⟨r, rfl, b1, v1, v2, rfl, k1, k2⟩
  obtain ⟨a1, c1, rfl⟩ := k1.shape
  obtain ⟨a2, c2, rfl⟩ := k2.shape
  rw [HD.out]
  go_wp2_with fail
  refine (refOf_any _ _).mono ?_
  rintro e w2 ⟨r, rfl, b2, v3, v4, rfl, k3, k4⟩
  obtain ⟨a3, c3, rfl⟩ := k3.shape
  obtain ⟨a4, c4, rfl⟩ := k4.shape
  rw [HD.out]
  go_wp2_with fail
  refine (needs_any _ _ _).mono ?_
  rintro e w3 ⟨r, rfl, b3, v5, v6, rfl, k5, k6⟩
  obtain ⟨a5, c5, rfl⟩ := k5.shape
  obtain ⟨a6, c6, rfl⟩ := k6.shape
  go_wp2_with fail
  refine (refNeeds_any _ _ _).mono ?_
  rintro e w4 ⟨r, rfl, b4, v7, v8, rfl, k7, k8⟩
  obtain ⟨a7, c7, rfl⟩ := k7.shape
  obtain ⟨a8, c8, rfl⟩ := k8.shape
  go_wp2_with fail
  refine (change_any _ _ _ _).mono ?_
  rintro e w5 ⟨rfl, b5⟩
  go_wp2_with fail
  refine (refChange_any _ _ _ _).mono ?_
  rintro e w6 ⟨rfl, b6⟩
  go_wp2_with fail
  refine (recKnown_any _).mono ?_
  rintro e w7 ⟨rfl, b7⟩
  have t4 := below_trans b5 (below_trans b6 b7)
  have t3 := below_trans b4 (below_trans (below_alloc _ _) t4)
  have t2 := below_trans b3 (below_trans (below_alloc _ _) t3)
  have t1 := below_trans b2 (below_trans (below_alloc _ _) t2)
  have t0 := below_trans b1 (below_trans (below_alloc _ _) t1)
  obtain ⟨x1, x2, _, _, y1⟩ := kept_two _ _ _ _ _ t1
  obtain ⟨x3, x4, _, _, y2⟩ := kept_two _ _ _ _ _ t2
  obtain ⟨x5, x6, _, _, y3⟩ := kept_two _ _ _ _ _ t3
  obtain ⟨x7, x8, _, _, y4⟩ := kept_two _ _ _ _ _ t4
  have q1 := Lib.hid (k1.below (below_trans (below_alloc _ _) t1))
  have q2 := Lib.hid (k2.below (below_trans (below_alloc _ _) t1))
  have q3 := Lib.hid (k3.below (below_trans (below_alloc _ _) t2))
  have q4 := Lib.hid (k4.below (below_trans (below_alloc _ _) t2))
  have q5 := Lib.hid (k5.below (below_trans (below_alloc _ _) t3))
  have q6 := Lib.hid (k6.below (below_trans (below_alloc _ _) t3))
  have q7 := Lib.hid (k7.below (below_trans (below_alloc _ _) t4))
  have q8 := Lib.hid (k8.below (below_trans (below_alloc _ _) t4))
  have T0 := Lib.hid t0
  clear k1 k2 k3 k4 k5 k6 k7 k8 t1 t2 t3 t4 t0 b1 b2 b3 b4 b5 b6 b7
  go_wp2_with fail
  refine (same_any _ _ _ _ _ _ _ _ _ _ _ _ _ q1.out q2.out q3.out q4.out (by omega) (by omega) (by omega) (by omega)).mono ?_
  rintro e w8 ⟨rfl, b8⟩
  have x5' := cell_keep b8 x5
  have x6' := cell_keep b8 x6
  have x7' := cell_keep b8 x7
  have x8' := cell_keep b8 x8
  clear x1 x2 x3 x4 x5 x6 x7 x8
  have e1 : (decide (inL id = inL id) && decide (outL id = outL id)) = true := by simp
  rw [e1]
  clear e1
  go_wp2_with fail
  refine (same_any _ _ _ _ _ _ _ _ _ _ _ _ _ (q5.out.below b8) (q6.out.below b8) (q7.out.below b8) (q8.out.below b8) (by omega) (by omega) (by omega) (by omega)).mono ?_
  rintro e w9 ⟨rfl, b9⟩
  have e1 : (decide (needsI id n = needsI id n) && decide (needsO id n = needsO id n)) = true := by simp
  rw [e1]
  clear e1
  go_wp2_with fail
  go_ret
  exact ⟨rfl, below_trans T0.out (below_trans b8 b9)⟩
end Go.Proofs.Ytghpjmihlgfeaaa
