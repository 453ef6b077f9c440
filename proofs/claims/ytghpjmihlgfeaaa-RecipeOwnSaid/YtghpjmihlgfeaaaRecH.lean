/- The contract of Change. -/
import Derived.Test.YtghpjmihlgfeaaaRecG
namespace Go.Proofs.Ytghpjmihlgfeaaa
open Go.RowKit

set_option maxRecDepth 100000 in
set_option maxHeartbeats 1000000 in
theorem change_any (id n item : Int) (w : World) :
    Calls Try.prog 18 #[.int .u32 id, .int .u64 n, .int .u32 item] w fun e w' => e = .returned (.tuple #[.int .u64 (cnt (needsI id n) item), .int .u64 (cnt (needsO id n) item)]) ∧ Below w.heap.size w w' := by
  obtain ⟨l1, l2⟩ := needs_len id n
  go_enter Try.func18, Try.ntmps18
  go_wp2_with fail
  refine (needs_any _ _ _).mono ?_
  rintro e w1 ⟨r, rfl, b1, vi, vo, rfl, k1, k2⟩
  obtain ⟨ai, ci, rfl⟩ := k1.shape
  obtain ⟨ao, co, rfl⟩ := k2.shape
  go_wp2_with fail
  have q1 : Stks (w1.alloc (.cells #[.slice ai (needsI id n).length ci, .slice ao (needsO id n).length co] 26)) w.heap.size (.slice ai (needsI id n).length ci) (needsI id n) := k1.below ((Below.refl _ _).alloc (Nat.le_refl _) _)
  have q2 : Stks (w1.alloc (.cells #[.slice ai (needsI id n).length ci, .slice ao (needsO id n).length co] 26)) w.heap.size (.slice ao (needsO id n).length co) (needsO id n) := k2.below ((Below.refl _ _).alloc (Nat.le_refl _) _)
  have d0 : (w1.alloc (.cells #[.slice ai (needsI id n).length ci, .slice ao (needsO id n).length co] 26)).cell? ⟨w1.heap.size, 0, none⟩ = some (.slice ai (needsI id n).length ci) := by simp [go_sem]
  have d1 : (w1.alloc (.cells #[.slice ai (needsI id n).length ci, .slice ao (needsO id n).length co] 26)).cell? ⟨w1.heap.size, 1, none⟩ = some (.slice ao (needsO id n).length co) := by simp [go_sem]
  have B : Below w.heap.size w (w1.alloc (.cells #[.slice ai (needsI id n).length ci, .slice ao (needsO id n).length co] 26)) := b1.alloc b1.size _
  obtain ⟨X, hX⟩ : ∃ X, X = w1.heap.size := ⟨_, rfl⟩
  rw [← hX] at d0 d1 ⊢
  generalize w1.alloc (.cells #[.slice ai (needsI id n).length ci, .slice ao (needsO id n).length co] 26) = w2 at q1 q2 d0 d1 B ⊢
  clear k1 k2 b1 hX
  go_region_held3 (fun w' => w'.cell? ⟨X, 0, none⟩ = some (.slice ai (needsI id n).length ci) ∧ w'.cell? ⟨X, 1, none⟩ = some (.slice ao (needsO id n).length co) ∧ Hid (Below w2.heap.size w2 w'))
    (first
      | exact ⟨d0, d1, Lib.hid (Below.refl _ _).drew⟩
      | (go_split_ands; exact ⟨cell_keep bq (by assumption), cell_keep bq (by assumption), Lib.hid (below_trans (Hid.out (by assumption)) bq)⟩))
    (first
      | (go_at_call_of 36 (Value.slice ai (needsI id n).length ci); go_split_ands; refine (count_any _ _ _ _ _ (q1.below (Hid.out (by assumption))) (by omega)).mono ?_; rintro e wq ⟨rfl, bq⟩)
      | (go_at_call_of 36 (Value.slice ao (needsO id n).length co); go_split_ands; refine (count_any _ _ _ _ _ (q2.below (Hid.out (by assumption))) (by omega)).mono ?_; rintro e wq ⟨rfl, bq⟩))
  go_wp2_with fail
  go_ret2
  exact ⟨rfl, below_trans B (below_trans (Hid.out (by assumption)) bq)⟩

set_option maxRecDepth 100000 in
set_option maxHeartbeats 400000 in
theorem recKnown_any (w : World) : Calls Try.prog 20 #[] w fun e w' => e = .returned (.bool true) ∧ Below w.heap.size w w' := by
  have v1 : cnt (needsI 4 2) 5 = 20 := by decide
  have v2 : cnt (needsO 4 2) 5 = 2 := by decide
  have v3 : decide (inL 7 ≠ []) = false := by decide
  have v4 : needsE 1 0 = 1 := by decide
  go_enter Try.func20, Try.ntmps20
  go_wp2_with fail
  refine (change_any _ _ _ _).mono ?_
  rintro e w1 ⟨rfl, b1⟩
  go_wp2_with fail
  refine (of_any _ _).mono ?_
  rintro e w2 ⟨r, rfl, b2, ⟨h1, h2, rfl⟩ | ⟨hne, x, y, rfl, l1, l2, k1, k2⟩⟩
  · rw [v3]
    clear h1 h2
    go_wp2_with fail
    refine (needs_any _ _ _).mono ?_
    rintro e w3 ⟨r, rfl, b3, vi, vo, rfl, k1, k2⟩
    obtain ⟨ai, ci, rfl⟩ := k1.shape
    obtain ⟨ao, co, rfl⟩ := k2.shape
    clear k1 k2
    go_wp2_with fail
    go_ret
    exact ⟨rfl, ((below_trans b1 b2).alloc (below_trans b1 b2).size _).trans ((b3.mono (by simp; have := (below_trans b1 b2).size; omega)).alloc (by have := (below_trans b1 b2).size; have := b3.size; simp at this; omega) _)⟩
  · exact absurd rfl hne
end Go.Proofs.Ytghpjmihlgfeaaa
