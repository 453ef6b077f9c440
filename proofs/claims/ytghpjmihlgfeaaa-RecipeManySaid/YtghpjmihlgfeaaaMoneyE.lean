/- The walk of the law MoneyShares. -/
import Derived.Test.YtghpjmihlgfeaaaMoneyD
namespace Go.Proofs.Ytghpjmihlgfeaaa
open Go.RowKit

theorem part_ok {n a b : Int} (hb : b ≠ 0) (h : n * a / b ≤ 4611686018427387904) : partV n a b = n * a / b ∧ partE n a b = 0 := by
  unfold partV partE; rw [if_neg (by omega), if_neg hb, if_neg (by omega)]; exact ⟨rfl, rfl⟩

theorem share_le (n a b : Int) (n0 : 0 ≤ n) (b0 : 0 < b) (h : a ≤ b) : n * a / b ≤ n := by
  have h1 : n * a ≤ n * b := Int.mul_le_mul_of_nonneg_left h n0
  have h2 := Int.ediv_le_ediv b0 h1
  rwa [Int.mul_ediv_cancel _ (by omega)] at h2

set_option maxRecDepth 100000 in
set_option maxHeartbeats 400000 in
theorem moneyShares_walk (n a b : Int) (w : World) (n0 : 0 ≤ n) (a0 : 0 ≤ a) (b0 : 0 ≤ b) (n1 : n ≤ 18446744073709551615) (a1 : a ≤ 18446744073709551615) (b1 : b ≤ 18446744073709551615) :
    Calls Try.prog 8 #[.int .u64 n, .int .u64 a, .int .u64 b] w fun e w' => e = .returned (.bool true) ∧ Below w.heap.size w w' := by
  by_cases h : b = 0
  · subst h
    go_enter Try.func8, Try.ntmps8
    go_wp2_with fail
    refine (moneyKnown_any _).mono ?_
    rintro e w2 ⟨rfl, k2⟩
    go_wp2_with fail
    go_ret
    exact ⟨rfl, k2⟩
  · have hb : (b == 0) = false := by simpa using h
    by_cases h1 : 4611686018427387904 < n
    · go_enter Try.func8, Try.ntmps8
      go_wp2_with fail
      refine (moneyKnown_any _).mono ?_
      rintro e w2 ⟨rfl, k2⟩
      go_wp2_with fail
      go_ret
      exact ⟨rfl, k2⟩
    · have b2 : 0 < b := by omega
      have n2 : n ≤ 4611686018427387904 := by omega
      obtain ⟨c, hc⟩ : ∃ c, min a b = c := ⟨_, rfl⟩
      have c0 : 0 ≤ c := by omega
      have c1 : c ≤ b := by omega
      have c2 : c ≤ 18446744073709551615 := by omega
      have s1 := share_le n b b n0 b2 (Int.le_refl _)
      have s2 := share_le n c b n0 b2 c1
      obtain ⟨e1, e2⟩ := part_ok (n := n) (a := b) (b := b) h (by omega)
      obtain ⟨e3, e4⟩ := part_ok (n := n) (a := c) (b := b) h (by omega)
      obtain ⟨e5, e6⟩ := part_ok (n := n) (a := 0) (b := b) h (by simp)
      obtain ⟨e7, e8⟩ := times_ok (a := n) (n := 1) n2 (by omega)
      rw [Int.mul_ediv_cancel _ h] at e1
      rw [Int.mul_zero, Int.zero_ediv] at e5
      rw [Int.mul_one] at e7
      have e3' : partV n c b ≤ n := by omega
      have C := Lib.hid hc
      clear e3 s1 s2 h1 h hc
      go_enter Try.func8, Try.ntmps8
      go_wp2_with fail
      refine (part_any _ _ _ _ (by omega) (by omega) (by omega) (by omega) (by omega) (by omega)).mono ?_
      rintro e w1 ⟨rfl, k1⟩
      go_wp2_with fail
      rw [C.out]
      refine (part_any _ _ _ _ c0 n0 b0 n1 c2 b1).mono ?_
      rintro e w2 ⟨rfl, k2⟩
      go_wp2_with fail
      refine (part_any _ _ _ _ (by omega) (by omega) (by omega) (by omega) (by omega) (by omega)).mono ?_
      rintro e w3 ⟨rfl, k3⟩
      go_wp2_with fail
      refine (times_any _ _ _ (by omega) (by omega) (by omega)).mono ?_
      rintro e w4 ⟨rfl, k4⟩
      go_wp2_with fail
      refine (moneyKnown_any _).mono ?_
      rintro e w5 ⟨rfl, k5⟩
      go_wp2_with fail
      go_ret
      exact ⟨rfl, below_trans k1 (below_trans k2 (below_trans k3 (below_trans k4 k5)))⟩
end Go.Proofs.Ytghpjmihlgfeaaa
