/- Contracts of package money (Times, Part, All) and of its reference, and of the law's known. -/
import Derived.Test.YtghpjmihlgfeaaaDivWalk
namespace Go.Proofs.Ytghpjmihlgfeaaa
open Go.RowKit

theorem below_drewN {B : Nat} {a w : World} (h : Below B a w) (n : Nat) : Below B a (w.drewN n) := ⟨h.os, h.tape, h.output, h.size, h.block⟩

/-- The two words of a product. -/
def mulHi (a b : Int) : Int := a * b / 18446744073709551616
def mulLo (a b : Int) : Int := a * b % 18446744073709551616
/-- A number of two words, divided. -/
def divQ (h l y : Int) : Int := (h * 18446744073709551616 + l) / y
def divR (h l y : Int) : Int := (h * 18446744073709551616 + l) % y

theorem mul64 (a b : Int) (w : World) (a0 : 0 ≤ a) (b0 : 0 ≤ b) (a1 : a ≤ 18446744073709551615) (b1 : b ≤ 18446744073709551615) :
    Calls Try.prog 41 #[.int .u64 a, .int .u64 b] w fun e w' => e = .returned (.tuple #[.int .u64 (mulHi a b), .int .u64 (mulLo a b)]) ∧ w = w' := by
  obtain ⟨x, rfl⟩ := Int.eq_ofNat_of_zero_le a0
  obtain ⟨y, rfl⟩ := Int.eq_ofNat_of_zero_le b0
  refine (Try.bits_Mul64 x y (by omega) (by omega) w).mono ?_
  rintro e w' ⟨rfl, rfl⟩
  exact ⟨ret_two (by simp [mulHi]) (by simp [mulLo]), rfl⟩

theorem div64 (h l y : Int) (w : World) (h0 : 0 ≤ h) (h1 : h < y) (l0 : 0 ≤ l) (l1 : l ≤ 18446744073709551615) (y1 : y ≤ 18446744073709551615) :
    Calls Try.prog 42 #[.int .u64 h, .int .u64 l, .int .u64 y] w fun e w' => e = .returned (.tuple #[.int .u64 (divQ h l y), .int .u64 (divR h l y)]) ∧ ∃ n, w' = w.drewN n := by
  obtain ⟨a, rfl⟩ := Int.eq_ofNat_of_zero_le h0
  obtain ⟨b, rfl⟩ := Int.eq_ofNat_of_zero_le l0
  obtain ⟨c, rfl⟩ := Int.eq_ofNat_of_zero_le (show 0 ≤ y by omega)
  refine (div64_any a b c w (by omega) (by omega) (by omega)).mono ?_
  rintro e w' ⟨rfl, hw⟩
  exact ⟨ret_two (by simp [divQ]) (by simp [divR]), hw⟩

def timesV (a n : Int) : Int := if 4611686018427387904 < a ∨ 4611686018427387904 < a * n then 0 else a * n
def timesE (a n : Int) : Int := if 4611686018427387904 < a ∨ 4611686018427387904 < a * n then 30 else 0
def partV (n a b : Int) : Int := if b = 0 ∨ 4611686018427387904 < n * a / b then 0 else n * a / b
def partE (n a b : Int) : Int := if b = 0 then 1 else if 4611686018427387904 < n * a / b then 30 else 0

theorem amount_mul (a n : Int) (a0 : 0 ≤ a) (n0 : 0 ≤ n) (h : a ≤ 4611686018427387904) :
    amountV (mulHi a n) (mulLo a n) = timesV a n ∧ amountE (mulHi a n) (mulLo a n) = timesE a n := by
  have p : 0 ≤ a * n := Int.mul_nonneg a0 n0
  unfold amountV amountE timesV timesE mulHi mulLo
  generalize a * n = x at *
  by_cases hx : 4611686018427387904 < x
  · rw [if_pos (by omega), if_pos (by omega), if_pos (by omega), if_pos (by omega)]; exact ⟨rfl, rfl⟩
  · rw [if_neg (by omega), if_neg (by omega), if_neg (by omega), if_neg (by omega)]; exact ⟨by omega, rfl⟩

theorem cells_one (w : World) (a : Int) (t : TypeId) : ∀ i, i < 1 → (w.alloc (.cells #[.int .u64 a] t)).cell? ⟨w.heap.size, 0 + i, none⟩ = some (.int .u64 ([a].getD i 0)) := by
  intro i hi
  match i, hi with
  | 0, _ => simp [go_sem]
theorem anyGreat_one (a : Int) : anyGreat (List.take 1 [a]) = tooGreat a := by simp [anyGreat]

set_option maxHeartbeats 400000 in
theorem times_any (a n : Int) (w : World) (a0 : 0 ≤ a) (n0 : 0 ≤ n) (n1 : n ≤ 18446744073709551615) :
    Calls Try.prog 22 #[.int .u64 a, .int .u64 n] w fun e w' => e = .returned (.tuple #[.int .u64 (timesV a n), .int .u16 (timesE a n)]) ∧ Below w.heap.size w w' := by
  by_cases h : 4611686018427387904 < a
  · have hg : Hid (tooGreat a = true) := Lib.hid (tooGreat_yes h)
    have e1 : Hid (timesV a n = 0) := Lib.hid (by unfold timesV; rw [if_pos (.inl h)])
    have e2 : Hid (timesE a n = 30) := Lib.hid (by unfold timesE; rw [if_pos (.inl h)])
    clear h
    go_enter Try.func22, Try.ntmps22
    go_wp2_with fail
    refine (great_any _ 0 1 1 [a] _ (by simp) (by omega) (cells_one _ _ _)).mono ?_
    rintro e w' ⟨rfl, rfl⟩
    rw [anyGreat_one, hg.out]
    go_wp2_with fail
    go_ret2
    exact ⟨ret_two e1.out.symm e2.out.symm, (Below.refl _ _).alloc (Nat.le_refl _) _⟩
  · have hg : Hid (tooGreat a = false) := Lib.hid (tooGreat_no (by omega))
    have e1 := Lib.hid (amount_mul a n a0 n0 (by omega))
    have h1 : a ≤ 4611686018427387904 := by omega
    clear h
    go_enter Try.func22, Try.ntmps22
    go_wp2_with fail
    refine (great_any _ 0 1 1 [a] _ (by simp) (by omega) (cells_one _ _ _)).mono ?_
    rintro e w' ⟨rfl, rfl⟩
    rw [anyGreat_one, hg.out]
    go_wp2_with fail
    refine (mul64 _ _ _ (by omega) (by omega) (by omega) (by omega)).mono ?_
    rintro e w' ⟨rfl, rfl⟩
    go_wp2_with fail
    refine (amount_any _ _ _).mono ?_
    rintro e w' ⟨rfl, rfl⟩
    go_wp2_with fail
    go_ret2
    exact ⟨ret_two e1.out.1 e1.out.2, (Below.refl _ _).alloc (Nat.le_refl _) _⟩

theorem mul_bounds (a b : Int) (a0 : 0 ≤ a) (b0 : 0 ≤ b) (a1 : a ≤ 18446744073709551615) (b1 : b ≤ 18446744073709551615) :
    0 ≤ mulHi a b ∧ mulHi a b ≤ 18446744073709551615 ∧ 0 ≤ mulLo a b ∧ mulLo a b ≤ 18446744073709551615 := by
  have p : 0 ≤ a * b := Int.mul_nonneg a0 b0
  have q : a * b ≤ 18446744073709551615 * 18446744073709551615 := Int.mul_le_mul a1 b1 b0 (by omega)
  unfold mulHi mulLo
  generalize a * b = x at *
  omega

theorem divR_bounds (l y : Int) (y0 : 0 < y) : 0 ≤ divR 0 l y ∧ divR 0 l y < y := by
  unfold divR
  exact ⟨Int.emod_nonneg _ (by omega), Int.emod_lt_of_pos _ y0⟩

theorem amount_part (n a b : Int) (a0 : 0 ≤ a) (n0 : 0 ≤ n) (b0 : 0 < b) :
    amountV (divQ 0 (mulHi n a) b) (divQ (divR 0 (mulHi n a) b) (mulLo n a) b) = partV n a b ∧ amountE (divQ 0 (mulHi n a) b) (divQ (divR 0 (mulHi n a) b) (mulLo n a) b) = partE n a b := by
  have p : 0 ≤ n * a := Int.mul_nonneg n0 a0
  unfold amountV amountE partV partE divQ divR mulHi mulLo
  rw [Int.zero_mul, Int.zero_add]
  generalize n * a = x at *
  have hx : x = x / 18446744073709551616 * 18446744073709551616 + x % 18446744073709551616 := by omega
  have l0 : 0 ≤ x % 18446744073709551616 := by omega
  have l1 : x % 18446744073709551616 < 18446744073709551616 := by omega
  have h0 : 0 ≤ x / 18446744073709551616 := by omega
  generalize x / 18446744073709551616 = h at *
  generalize x % 18446744073709551616 = l at *
  subst hx
  have e := Int.mul_ediv_add_emod h b
  have r0 : 0 ≤ h % b := Int.emod_nonneg _ (by omega)
  have r1 : h % b < b := Int.emod_lt_of_pos _ b0
  have q0 : 0 ≤ h / b := Int.ediv_nonneg h0 (by omega)
  generalize h / b = q at *
  generalize h % b = r at *
  have e2 : h * 18446744073709551616 + l = (r * 18446744073709551616 + l) + b * (q * 18446744073709551616) := by
    rw [← e, Int.add_mul, ← Int.mul_assoc]; omega
  rw [e2, Int.add_mul_ediv_left _ _ (by omega)]
  have s0 : 0 ≤ (r * 18446744073709551616 + l) / b := Int.ediv_nonneg (by omega) (by omega)
  have s1 : (r * 18446744073709551616 + l) / b < 18446744073709551616 := by
    refine Int.ediv_lt_of_lt_mul b0 ?_
    omega
  generalize (r * 18446744073709551616 + l) / b = s at *
  have hb : ¬ b = 0 := by omega
  by_cases hq : q = 0
  · subst hq
    simp only [Int.zero_mul, Int.add_zero]
    by_cases hs : 4611686018427387904 < s
    · rw [if_pos (by omega), if_pos (by omega), if_pos (by omega), if_neg hb, if_pos (by omega)]; exact ⟨rfl, rfl⟩
    · rw [if_neg (by omega), if_neg (by omega), if_neg (by omega), if_neg hb, if_neg (by omega)]; exact ⟨rfl, rfl⟩
  · rw [if_pos (by omega), if_pos (by omega), if_pos (by omega), if_neg hb, if_pos (by omega)]; exact ⟨rfl, rfl⟩

set_option maxHeartbeats 400000 in
theorem part_any (n a b : Int) (w : World) (a0 : 0 ≤ a) (n0 : 0 ≤ n) (b0 : 0 ≤ b) (n1 : n ≤ 18446744073709551615) (a1 : a ≤ 18446744073709551615) (b1 : b ≤ 18446744073709551615) :
    Calls Try.prog 24 #[.int .u64 n, .int .u64 a, .int .u64 b] w fun e w' => e = .returned (.tuple #[.int .u64 (partV n a b), .int .u16 (partE n a b)]) ∧ Below w.heap.size w w' := by
  by_cases h : b = 0
  · have e1 : Hid (partV n a b = 0) := Lib.hid (by unfold partV; rw [if_pos (.inl h)])
    have e2 : Hid (partE n a b = 1) := Lib.hid (by unfold partE; rw [if_pos h])
    subst h
    go_enter Try.func24, Try.ntmps24
    go_wp2_with fail
    go_ret2
    exact ⟨ret_two e1.out.symm e2.out.symm, Below.refl _ _⟩
  · have e1 := Lib.hid (amount_part n a b a0 n0 (by omega))
    obtain ⟨m0, m1, m2, m3⟩ := mul_bounds n a n0 a0 n1 a1
    obtain ⟨d0, d1⟩ := divR_bounds (mulHi n a) b (by omega)
    have hb : (b == 0) = false := by simpa using h
    have hb2 : 0 < b := by omega
    clear h
    go_enter Try.func24, Try.ntmps24
    go_wp2_with fail
    refine (mul64 _ _ _ (by omega) (by omega) (by omega) (by omega)).mono ?_
    rintro e w' ⟨rfl, rfl⟩
    go_wp2_with fail
    refine (div64 _ _ _ _ (by omega) (by omega) (by omega) (by omega) (by omega)).mono ?_
    rintro e w' ⟨rfl, k1, rfl⟩
    go_wp2_with fail
    refine (div64 _ _ _ _ (by omega) (by omega) (by omega) (by omega) (by omega)).mono ?_
    rintro e w' ⟨rfl, k2, rfl⟩
    go_wp2_with fail
    refine (amount_any _ _ _).mono ?_
    rintro e w' ⟨rfl, rfl⟩
    go_wp2_with fail
    go_ret2
    exact ⟨ret_two e1.out.1 e1.out.2, by first | exact below_drewN (Below.refl _ _) _ | exact below_drewN (below_drewN (Below.refl _ _) _) _⟩
end Go.Proofs.Ytghpjmihlgfeaaa
