/- Contracts of the reference's Add, Sub, Times and of the law's known. -/
import Derived.Test.YtghpjmihlgfeaaaMoneyB
namespace Go.Proofs.Ytghpjmihlgfeaaa
open Go.RowKit

set_option maxHeartbeats 400000 in
theorem refAdd_any (a b : Int) (w : World) (a0 : 0 ≤ a) (b0 : 0 ≤ b) :
    Calls Try.prog 28 #[.int .u64 a, .int .u64 b] w fun e w' => e = .returned (.tuple #[.int .u64 (addV a b), .int .i64 (addE a b)]) ∧ w = w' := by
  have v := Lib.hid (rfl : addV a b = _)
  have e := Lib.hid (rfl : addE a b = _)
  by_cases h1 : 4611686018427387904 < a
  · go_enter Try.func28, Try.ntmps28
    go_wp2
    go_ret2
    exact ⟨ret_two (by unfold addV; rw [if_pos (by omega)]) (by unfold addE; rw [if_pos (by omega)]), rfl⟩
  · by_cases h2 : 4611686018427387904 < b
    · go_enter Try.func28, Try.ntmps28
      go_wp2
      go_ret2
      exact ⟨ret_two (by unfold addV; rw [if_pos (by omega)]) (by unfold addE; rw [if_pos (by omega)]), rfl⟩
    · by_cases h3 : 4611686018427387904 - b < a
      · have l2 : b ≤ 4611686018427387904 := by omega
        go_enter Try.func28, Try.ntmps28
        go_wp2
        go_ret2
        exact ⟨ret_two (by unfold addV; rw [if_pos (by omega)]) (by unfold addE; rw [if_pos (by omega)]), rfl⟩
      · have l1 : a ≤ 4611686018427387904 := by omega
        have l2 : b ≤ 4611686018427387904 := by omega
        have e1 : Hid (addV a b = a + b) := Lib.hid (by unfold addV; rw [if_neg (by omega)])
        have e2 : Hid (addE a b = 0) := Lib.hid (by unfold addE; rw [if_neg (by omega)])
        go_enter Try.func28, Try.ntmps28
        go_wp2
        go_ret2
        exact ⟨ret_two e1.out.symm e2.out.symm, rfl⟩

set_option maxHeartbeats 400000 in
theorem refSub_any (a b : Int) (w : World) (a0 : 0 ≤ a) (b0 : 0 ≤ b) (a1 : a ≤ 18446744073709551615) :
    Calls Try.prog 30 #[.int .u64 a, .int .u64 b] w fun e w' => e = .returned (.tuple #[.int .u64 (subV a b), .int .i64 (subE a b)]) ∧ w = w' := by
  by_cases h1 : 4611686018427387904 < a
  · go_enter Try.func30, Try.ntmps30
    go_wp2
    go_ret2
    exact ⟨ret_two (by unfold subV; rw [if_pos (by omega)]) (by unfold subE; rw [if_pos (by omega)]), rfl⟩
  · by_cases h2 : 4611686018427387904 < b
    · go_enter Try.func30, Try.ntmps30
      go_wp2
      go_ret2
      exact ⟨ret_two (by unfold subV; rw [if_pos (by omega)]) (by unfold subE; rw [if_pos (by omega)]), rfl⟩
    · by_cases h3 : a < b
      · go_enter Try.func30, Try.ntmps30
        go_wp2
        go_ret2
        exact ⟨ret_two (by unfold subV; rw [if_pos (by omega)]) (by unfold subE; rw [if_neg (by omega), if_pos (by omega)]), rfl⟩
      · have l1 : a ≤ 4611686018427387904 := by omega
        have l2 : b ≤ a := by omega
        have e1 : Hid (subV a b = a - b) := Lib.hid (by unfold subV; rw [if_neg (by omega)])
        have e2 : Hid (subE a b = 0) := Lib.hid (by unfold subE; rw [if_neg (by omega), if_neg (by omega)])
        go_enter Try.func30, Try.ntmps30
        go_wp2
        go_ret2
        exact ⟨ret_two e1.out.symm e2.out.symm, rfl⟩

theorem times_test (a n : Int) (a0 : 0 < a) : (4611686018427387904 < a * n) ↔ (4611686018427387904 / a < n) := by
  rw [Int.ediv_lt_iff_lt_mul a0, Int.mul_comm n a]

set_option maxHeartbeats 400000 in
theorem refTimes_any (a n : Int) (w : World) (a0 : 0 ≤ a) (n0 : 0 ≤ n) :
    Calls Try.prog 23 #[.int .u64 a, .int .u64 n] w fun e w' => e = .returned (.tuple #[.int .u64 (timesV a n), .int .i64 (timesE a n)]) ∧ w = w' := by
  by_cases h1 : 4611686018427387904 < a
  · go_enter Try.func23, Try.ntmps23
    go_wp2
    go_ret2
    exact ⟨ret_two (by unfold timesV; rw [if_pos (.inl h1)]) (by unfold timesE; rw [if_pos (.inl h1)]), rfl⟩
  · by_cases h2 : 0 < a
    · have l1 : 1 ≤ a := by omega
      have t := times_test a n h2
      by_cases h3 : 4611686018427387904 / a < n
      · have e1 : Hid (timesV a n = 0) := Lib.hid (by unfold timesV; rw [if_pos (.inr (t.2 h3))])
        have e2 : Hid (timesE a n = 30) := Lib.hid (by unfold timesE; rw [if_pos (.inr (t.2 h3))])
        clear t
        go_enter Try.func23, Try.ntmps23
        go_wp2
        go_ret2
        exact ⟨ret_two e1.out.symm e2.out.symm, rfl⟩
      · have h4 : ¬ 4611686018427387904 < a * n := fun h => h3 (t.1 h)
        have e1 : Hid (timesV a n = a * n) := Lib.hid (by unfold timesV; rw [if_neg (by omega)])
        have e2 : Hid (timesE a n = 0) := Lib.hid (by unfold timesE; rw [if_neg (by omega)])
        have m1 : a * n ≤ 4611686018427387904 := by omega
        have m0 : 0 ≤ a * n := Int.mul_nonneg a0 n0
        clear t h4
        go_enter Try.func23, Try.ntmps23
        go_wp2
        go_ret2
        exact ⟨ret_two e1.out.symm e2.out.symm, rfl⟩
    · obtain rfl : a = 0 := by omega
      have e1 : Hid (timesV 0 n = 0) := Lib.hid (by unfold timesV; rw [if_neg (by simp), Int.zero_mul])
      have e2 : Hid (timesE 0 n = 0) := Lib.hid (by unfold timesE; rw [if_neg (by simp)])
      go_enter Try.func23, Try.ntmps23
      go_wp2
      go_ret2
      exact ⟨ret_two e1.out.symm e2.out.symm, rfl⟩

theorem bcell {W w1 : World} (hb : Below W.heap.size W w1) : (∀ b o, b < W.heap.size → w1.cell? ⟨b, o, none⟩ = W.cell? ⟨b, o, none⟩) ∧ (∀ b o, b < W.heap.size → w1.frozen? ⟨b, o, none⟩ = W.frozen? ⟨b, o, none⟩) :=
  ⟨fun b o h => hb.cell (p := ⟨b, o, none⟩) h, fun b o h => hb.frozen (p := ⟨b, o, none⟩) h⟩
theorem below_trans {w a b : World} (h : Below w.heap.size w a) (g : Below a.heap.size a b) : Below w.heap.size w b := h.trans (g.mono h.size)

set_option maxHeartbeats 400000 in
theorem moneyKnown_any (w : World) : Calls Try.prog 26 #[] w fun e w' => e = .returned (.bool true) ∧ Below w.heap.size w w' := by
  have v1 : addV 4611686018427387904 0 = 4611686018427387904 := by decide
  have v2 : addE 4611686018427387904 0 = 0 := by decide
  have v3 : addE 4611686018427387904 1 = 30 := by decide
  have v4 : partV 7 3 2 = 10 := by decide
  have v5 : partE 7 3 2 = 0 := by decide
  have v6 : partE 1 1 0 = 1 := by decide
  go_enter Try.func26, Try.ntmps26
  go_wp2_with fail
  refine (add_any _ _ _ (by omega) (by omega)).mono ?_
  rintro e w1 ⟨rfl, b1⟩
  go_wp2_with fail
  refine (add_any _ _ _ (by omega) (by omega)).mono ?_
  rintro e w2 ⟨rfl, b2⟩
  go_wp2_with fail
  refine (part_any _ _ _ _ (by omega) (by omega) (by omega) (by omega) (by omega) (by omega)).mono ?_
  rintro e w3 ⟨rfl, b3⟩
  go_wp2_with fail
  refine (part_any _ _ _ _ (by omega) (by omega) (by omega) (by omega) (by omega) (by omega)).mono ?_
  rintro e w4 ⟨rfl, b4⟩
  go_wp2_with fail
  go_ret
  exact ⟨rfl, below_trans b1 (below_trans b2 (below_trans b3 b4))⟩
end Go.Proofs.Ytghpjmihlgfeaaa
