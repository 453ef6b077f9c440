/- Contracts of package money as far as it is reached here: great, amount, Add, Sub, Times (All). -/
import Derived.Test.YtdbpjbmalinlbaaGreatMoneyA
import Derived.Test.YtdbpjbmalinlbaaGreatShelf
namespace Go.Proofs.YtdbpjbmalinlbaaGreat
open Go.RowKit

theorem below_drewN {B : Nat} {a w : World} (h : Below B a w) (n : Nat) : Below B a (w.drewN n) := ⟨h.os, h.tape, h.output, h.size, h.block⟩

/-- The two words of a product. -/
def mulHi (a b : Int) : Int := a * b / 18446744073709551616

def mulLo (a b : Int) : Int := a * b % 18446744073709551616

theorem mul64 (a b : Int) (w : World) (a0 : 0 ≤ a) (b0 : 0 ≤ b) (a1 : a ≤ 18446744073709551615) (b1 : b ≤ 18446744073709551615) :
    Calls Tryz.prog 103 #[.int .u64 a, .int .u64 b] w fun e w' => e = .returned (.tuple #[.int .u64 (mulHi a b), .int .u64 (mulLo a b)]) ∧ w = w' := by
  obtain ⟨x, rfl⟩ := Int.eq_ofNat_of_zero_le a0
  obtain ⟨y, rfl⟩ := Int.eq_ofNat_of_zero_le b0
  refine (Tryz.bits_Mul64 x y (by omega) (by omega) w).mono ?_
  rintro e w' ⟨rfl, rfl⟩
  exact ⟨ret_two (by simp [mulHi]) (by simp [mulLo]), rfl⟩

def timesV (a n : Int) : Int := if 4611686018427387904 < a ∨ 4611686018427387904 < a * n then 0 else a * n

def timesE (a n : Int) : Int := if 4611686018427387904 < a ∨ 4611686018427387904 < a * n then 30 else 0

theorem amount_mul (a n : Int) (a0 : 0 ≤ a) (n0 : 0 ≤ n) (h : a ≤ 4611686018427387904) :
    amountV (mulHi a n) (mulLo a n) = timesV a n ∧ amountE (mulHi a n) (mulLo a n) = timesE a n := by
  have p : 0 ≤ a * n := Int.mul_nonneg a0 n0
  unfold amountV amountE timesV timesE mulHi mulLo
  generalize a * n = x at *
  by_cases hx : 4611686018427387904 < x
  · rw [if_pos (by omega), if_pos (by omega), if_pos (by omega), if_pos (by omega)]; exact ⟨rfl, rfl⟩
  · rw [if_neg (by omega), if_neg (by omega), if_neg (by omega), if_neg (by omega)]; exact ⟨by omega, rfl⟩

theorem cells_one (w : World) (a : Int) (t : TypeId) : ∀ i, i < 1 → (w.alloc (.cells #[.int .u64 a] t)).cell? ⟨w.heap.size, 0 + i, none⟩ = some (.int .u64 ([a].getD i 0)) := by
  intro i hi
  match i, hi with
  | 0, _ => simp [go_sem]

theorem anyGreat_one (a : Int) : anyGreat (List.take 1 [a]) = tooGreat a := by simp [anyGreat]

set_option maxHeartbeats 400000 in
theorem times_any (a n : Int) (w : World) (a0 : 0 ≤ a) (n0 : 0 ≤ n) (n1 : n ≤ 18446744073709551615) :
    Calls Tryz.prog 98 #[.int .u64 a, .int .u64 n] w fun e w' => e = .returned (.tuple #[.int .u64 (timesV a n), .int .u16 (timesE a n)]) ∧ Below w.heap.size w w' := by
  by_cases h : 4611686018427387904 < a
  · have hg : Hid (tooGreat a = true) := Lib.hid (tooGreat_yes h)
    have e1 : Hid (timesV a n = 0) := Lib.hid (by unfold timesV; rw [if_pos (.inl h)])
    have e2 : Hid (timesE a n = 30) := Lib.hid (by unfold timesE; rw [if_pos (.inl h)])
    clear h
    go_enter Tryz.func98, Tryz.ntmps98
    go_wp2_with fail
    refine (great_any _ 0 1 1 [a] _ (by simp) (by omega) (cells_one _ _ _)).mono ?_
    rintro e w' ⟨rfl, rfl⟩
    rw [anyGreat_one, hg.out]
    go_wp2_with fail
    go_ret2
    exact ⟨ret_two e1.out.symm e2.out.symm, (Below.refl _ _).alloc (Nat.le_refl _) _⟩
  · have hg : Hid (tooGreat a = false) := Lib.hid (tooGreat_no (by omega))
    have e1 := Lib.hid (amount_mul a n a0 n0 (by omega))
    have h1 : a ≤ 4611686018427387904 := by omega
    clear h
    go_enter Tryz.func98, Tryz.ntmps98
    go_wp2_with fail
    refine (great_any _ 0 1 1 [a] _ (by simp) (by omega) (cells_one _ _ _)).mono ?_
    rintro e w' ⟨rfl, rfl⟩
    rw [anyGreat_one, hg.out]
    go_wp2_with fail
    refine (mul64 _ _ _ (by omega) (by omega) (by omega) (by omega)).mono ?_
    rintro e w' ⟨rfl, rfl⟩
    go_wp2_with fail
    refine (amount_any _ _ _).mono ?_
    rintro e w' ⟨rfl, rfl⟩
    go_wp2_with fail
    go_ret2
    exact ⟨ret_two e1.out.1 e1.out.2, (Below.refl _ _).alloc (Nat.le_refl _) _⟩

theorem mul_bounds (a b : Int) (a0 : 0 ≤ a) (b0 : 0 ≤ b) (a1 : a ≤ 18446744073709551615) (b1 : b ≤ 18446744073709551615) :
    0 ≤ mulHi a b ∧ mulHi a b ≤ 18446744073709551615 ∧ 0 ≤ mulLo a b ∧ mulLo a b ≤ 18446744073709551615 := by
  have p : 0 ≤ a * b := Int.mul_nonneg a0 b0
  have q : a * b ≤ 18446744073709551615 * 18446744073709551615 := Int.mul_le_mul a1 b1 b0 (by omega)
  unfold mulHi mulLo
  generalize a * b = x at *
  omega

theorem times_test (a n : Int) (a0 : 0 < a) : (4611686018427387904 < a * n) ↔ (4611686018427387904 / a < n) := by
  rw [Int.ediv_lt_iff_lt_mul a0, Int.mul_comm n a]

theorem bcell {W w1 : World} (hb : Below W.heap.size W w1) : (∀ b o, b < W.heap.size → w1.cell? ⟨b, o, none⟩ = W.cell? ⟨b, o, none⟩) ∧ (∀ b o, b < W.heap.size → w1.frozen? ⟨b, o, none⟩ = W.frozen? ⟨b, o, none⟩) :=
  ⟨fun b o h => hb.cell (p := ⟨b, o, none⟩) h, fun b o h => hb.frozen (p := ⟨b, o, none⟩) h⟩

theorem below_trans {w a b : World} (h : Below w.heap.size w a) (g : Below a.heap.size a b) : Below w.heap.size w b := h.trans (g.mono h.size)

theorem errU16 (e : Int) (h : e = 0 ∨ e = 1 ∨ e = 30 ∨ e = 31) : 0 ≤ e ∧ e ≤ 31 := by omega

theorem addE_b (a b : Int) : 0 ≤ addE a b ∧ addE a b ≤ 31 := by unfold addE; split <;> omega

theorem subE_b (a b : Int) : 0 ≤ subE a b ∧ subE a b ≤ 31 := by unfold subE; split <;> (try split) <;> omega

theorem timesE_b (a b : Int) : 0 ≤ timesE a b ∧ timesE a b ≤ 31 := by unfold timesE; split <;> omega

theorem add_ok {a b : Int} (h1 : a ≤ 4611686018427387904) (h2 : b ≤ 4611686018427387904) (h : a + b ≤ 4611686018427387904) : addV a b = a + b ∧ addE a b = 0 := by
  unfold addV addE; rw [if_neg (by omega), if_neg (by omega)]; exact ⟨rfl, rfl⟩

theorem add_no {a b : Int} (h : 4611686018427387904 < a ∨ 4611686018427387904 < b ∨ 4611686018427387904 < a + b) : addV a b = 0 ∧ addE a b = 30 := by
  unfold addV addE; rw [if_pos h, if_pos h]; exact ⟨rfl, rfl⟩

theorem sub_ok {a b : Int} (h1 : a ≤ 4611686018427387904) (h2 : b ≤ a) : subV a b = a - b ∧ subE a b = 0 := by
  unfold subV subE; rw [if_neg (by omega), if_neg (by omega), if_neg (by omega)]; exact ⟨rfl, rfl⟩

theorem sub_great {a b : Int} (h : 4611686018427387904 < a ∨ 4611686018427387904 < b) : subV a b = 0 ∧ subE a b = 30 := by
  unfold subV subE; rw [if_pos (by omega), if_pos (by omega)]; exact ⟨rfl, rfl⟩

theorem sub_less {a b : Int} (h1 : a ≤ 4611686018427387904) (h2 : b ≤ 4611686018427387904) (h : a < b) : subV a b = 0 ∧ subE a b = 31 := by
  unfold subV subE; rw [if_pos (by omega), if_neg (by omega), if_pos (by omega)]; exact ⟨rfl, rfl⟩

theorem sub_not {a b : Int} (h : a < b) : (subE a b != 0) = true := by
  unfold subE; split <;> simp

theorem times_ok {a n : Int} (h1 : a ≤ 4611686018427387904) (h : a * n ≤ 4611686018427387904) : timesV a n = a * n ∧ timesE a n = 0 := by
  unfold timesV timesE; rw [if_neg (by omega), if_neg (by omega)]; exact ⟨rfl, rfl⟩

theorem times_no {a n : Int} (h : 4611686018427387904 < a ∨ 4611686018427387904 < a * n) : timesV a n = 0 ∧ timesE a n = 30 := by
  unfold timesV timesE; rw [if_pos h, if_pos h]; exact ⟨rfl, rfl⟩

/-- MoneyErrs with what the three calls answer as it comes out. -/
theorem errs_times (a n : Int) (a0 : 0 ≤ a) (h1 : a ≤ 4611686018427387904) :
    (a = 0 ∧ timesV a n = 0 ∧ timesE a n = 0) ∨ (0 < a ∧ n ≤ 4611686018427387904 / a ∧ timesE a n = 0) ∨ (0 < a ∧ 4611686018427387904 / a < n ∧ timesV a n = 0 ∧ timesE a n = 30) := by
  by_cases h : a = 0
  · subst h
    have := times_ok (a := 0) (n := n) (by omega) (by rw [Int.zero_mul]; omega)
    rw [Int.zero_mul] at this
    exact .inl ⟨rfl, this.1, this.2⟩
  · have hp : 0 < a := by omega
    have t := times_test a n hp
    by_cases h3 : 4611686018427387904 / a < n
    · exact .inr (.inr ⟨hp, h3, times_no (.inr (t.2 h3))⟩)
    · exact .inr (.inl ⟨hp, by omega, (times_ok h1 (by have : ¬ 4611686018427387904 < a * n := fun h => h3 (t.1 h); omega)).2⟩)
end Go.Proofs.YtdbpjbmalinlbaaGreat
