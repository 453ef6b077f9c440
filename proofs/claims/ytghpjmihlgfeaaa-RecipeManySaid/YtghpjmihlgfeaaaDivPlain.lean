/- Plain arithmetic of the long division of math/bits.Div64: no program in sight. -/
import Derived.Lib.ItoaNum
import Derived.Lib.BitFns
import Derived.Laws.BitsAllLaws
import Derived.Laws.MathBits
namespace Go.Proofs.Ytghpjmihlgfeaaa

/-- One digit of the division: what the loop keeps. -/
def LRel (Y yn1 r d q h : Nat) : Prop := q * yn1 + h = r ∧ h < 4294967296 ∧ (r * 4294967296 + d) / Y ≤ q ∧ q ≤ 4294967297

/-- The divisor, normalized, and its two halves. -/
structure Norm (Y yn1 yn0 : Nat) : Prop where
  eq : Y = yn1 * 4294967296 + yn0
  lo : yn0 < 4294967296
  half : 2147483648 ≤ yn1
  hi : yn1 < 4294967296

theorem Norm.pos {Y yn1 yn0 : Nat} (n : Norm Y yn1 yn0) : 0 < Y := by have := n.eq; have := n.half; omega

theorem lrel_start {Y yn1 yn0 r d : Nat} (n : Norm Y yn1 yn0) (hd : d < 4294967296) (hr : r < Y) : LRel Y yn1 r d (r / yn1) (r % yn1) := by
  have p1 : 0 < yn1 := by have := n.half; omega
  refine ⟨by rw [Nat.mul_comm]; exact Nat.div_add_mod r yn1, Nat.lt_trans (Nat.mod_lt _ p1) n.hi, ?_, ?_⟩
  · refine Nat.le_of_lt_succ ((Nat.div_lt_iff_lt_mul n.pos).2 ?_)
    have h1 : r + 1 ≤ (r / yn1 + 1) * yn1 := by
      have := Nat.div_add_mod r yn1
      have h2 := Nat.mod_lt r p1
      rw [Nat.mul_comm] at this
      rw [Nat.add_mul, Nat.one_mul]; omega
    have h2 : (r + 1) * 4294967296 ≤ (r / yn1 + 1) * yn1 * 4294967296 := Nat.mul_le_mul_right _ h1
    have h5 : yn1 * 4294967296 ≤ Y := by rw [n.eq]; exact Nat.le_add_right _ _
    have h3 : (r / yn1 + 1) * (yn1 * 4294967296) ≤ (r / yn1 + 1) * Y := Nat.mul_le_mul_left _ h5
    rw [← Nat.mul_assoc] at h3
    show _ < (r / yn1 + 1) * Y
    omega
  · refine Nat.le_of_lt_succ ((Nat.div_lt_iff_lt_mul p1).2 ?_)
    have := n.eq; have := n.lo; have := n.half; omega

theorem quo_small {Y r d : Nat} (hd : d < 4294967296) (hr : r < Y) : (r * 4294967296 + d) / Y < 4294967296 := by
  rw [Nat.div_lt_iff_lt_mul (by omega)]
  omega

theorem lrel_less {Y yn1 yn0 r d q h : Nat} (n : Norm Y yn1 yn0) (hd : d < 4294967296) (hr : r < Y) (R : LRel Y yn1 r d q h) (hc : 4294967296 ≤ q ∨ 4294967296 * h + d < q * yn0) :
    1 ≤ q ∧ (r * 4294967296 + d) / Y ≤ q - 1 ∧ q - 1 ≤ 4294967296 ∧ (q - 1) * yn1 + (h + yn1) = r := by
  obtain ⟨e, hh, hQ, hq⟩ := R
  have hs := quo_small hd hr
  have h1 : 1 ≤ q := by
    rcases hc with hc | hc
    · omega
    · rcases Nat.eq_zero_or_pos q with rfl | hp
      · simp at hc
      · exact hp
  refine ⟨h1, ?_, by omega, ?_⟩
  · rcases hc with hc | hc
    · omega
    · have : (r * 4294967296 + d) / Y < q := by
        refine (Nat.div_lt_iff_lt_mul n.pos).2 ?_
        have e1 : q * Y = q * yn1 * 4294967296 + q * yn0 := by rw [n.eq, Nat.mul_add, ← Nat.mul_assoc]
        rw [e1]
        omega
      omega
  · obtain ⟨m, rfl⟩ : ∃ m, q = m + 1 := ⟨q - 1, by omega⟩
    rw [Nat.add_mul, Nat.one_mul] at e
    simp only [Nat.add_sub_cancel]
    omega

theorem mul_yn0 {Y yn1 yn0 q : Nat} (n : Norm Y yn1 yn0) (hq : q ≤ 4294967297) : q * yn0 ≤ 18446744073709551615 := by
  have h1 := n.lo
  have : q * yn0 ≤ 4294967297 * 4294967295 := Nat.mul_le_mul hq (by omega)
  omega

theorem lrel_le {Y yn1 yn0 r d q h : Nat} (n : Norm Y yn1 yn0) (e : q * yn1 + h = r) (hc : q * yn0 ≤ 4294967296 * h + d) : q ≤ (r * 4294967296 + d) / Y := by
  refine (Nat.le_div_iff_mul_le n.pos).2 ?_
  have e1 : q * Y = q * yn1 * 4294967296 + q * yn0 := by rw [n.eq, Nat.mul_add, ← Nat.mul_assoc]
  rw [e1]
  omega

theorem lrel_stop {Y yn1 yn0 r d q h : Nat} (n : Norm Y yn1 yn0) (R : LRel Y yn1 r d q h) (hc : q * yn0 ≤ 4294967296 * h + d) : q = (r * 4294967296 + d) / Y :=
  Nat.le_antisymm (lrel_le n R.1 hc) R.2.2.1

theorem lrel_break {Y yn1 yn0 r d q h : Nat} (n : Norm Y yn1 yn0) (hd : d < 4294967296) (hr : r < Y) (R : LRel Y yn1 r d q h) (hc : 4294967296 ≤ q ∨ 4294967296 * h + d < q * yn0)
    (hb : 4294967296 ≤ h + yn1) : q - 1 = (r * 4294967296 + d) / Y := by
  obtain ⟨h1, h2, h3, h4⟩ := lrel_less n hd hr R hc
  refine Nat.le_antisymm (lrel_le n h4 ?_) h2
  have := Nat.mul_le_mul h3 (Nat.le_of_lt n.lo)
  have h5 := n.lo
  have h6 : (q - 1) * yn0 ≤ 4294967296 * 4294967295 := Nat.mul_le_mul h3 (by omega)
  omega

theorem lrel_next {Y yn1 yn0 r d q h : Nat} (n : Norm Y yn1 yn0) (hd : d < 4294967296) (hr : r < Y) (R : LRel Y yn1 r d q h) (hc : 4294967296 ≤ q ∨ 4294967296 * h + d < q * yn0)
    (hb : h + yn1 < 4294967296) : LRel Y yn1 r d (q - 1) (h + yn1) := by
  obtain ⟨h1, h2, h3, h4⟩ := lrel_less n hd hr R hc
  exact ⟨h4, hb, h2, by omega⟩

/-- What is left of a digit's row, in wrapping arithmetic. -/
theorem rest_wrap {Y r d : Nat} (hY : Y < 18446744073709551616) (hr : r < Y) (q : Nat) (hq : q = (r * 4294967296 + d) / Y) (a b c : Int)
    (ha : a % 18446744073709551616 = ((r * 4294967296 + d : Nat) : Int) % 18446744073709551616) (hb : b % 18446744073709551616 = ((q * Y : Nat) : Int) % 18446744073709551616) (hc : c = (a - b) % 18446744073709551616) :
    c = (((r * 4294967296 + d) % Y : Nat) : Int) := by
  have h1 := Nat.div_add_mod (r * 4294967296 + d) Y
  have h2 := Nat.mod_lt (r * 4294967296 + d) (show 0 < Y by omega)
  rw [← hq, Nat.mul_comm] at h1
  generalize (r * 4294967296 + d) % Y = m at *
  generalize q * Y = p at *
  omega

theorem two_digits {Y r un1 un0 : Nat} (hY : 0 < Y) : let q1 := (r * 4294967296 + un1) / Y
    let r2 := (r * 4294967296 + un1) % Y
    ((r * 4294967296 + un1) * 4294967296 + un0) / Y = q1 * 4294967296 + (r2 * 4294967296 + un0) / Y ∧ ((r * 4294967296 + un1) * 4294967296 + un0) % Y = (r2 * 4294967296 + un0) % Y := by
  intro q1 r2
  have h1 : (r * 4294967296 + un1) * 4294967296 + un0 = (r2 * 4294967296 + un0) + Y * (q1 * 4294967296) := by
    have := Nat.div_add_mod (r * 4294967296 + un1) Y
    have h2 : Y * (q1 * 4294967296) = Y * q1 * 4294967296 := by rw [Nat.mul_assoc]
    rw [h2]
    show _ = ((r * 4294967296 + un1) % Y * 4294967296 + un0) + Y * ((r * 4294967296 + un1) / Y) * 4294967296
    omega
  rw [h1, Nat.add_mul_div_left _ _ hY, Nat.add_mul_mod_self_left]
  exact ⟨Nat.add_comm _ _, rfl⟩

theorem bitLen_bounds (y : Nat) (h0 : 0 < y) (h1 : y < 18446744073709551616) : 1 ≤ Lib.bitLen y ∧ Lib.bitLen y ≤ 64 ∧ 2 ^ (Lib.bitLen y - 1) ≤ y ∧ y < 2 ^ Lib.bitLen y := by
  have h := Lib.bitLenAux_bounds 64 y (by simpa using h1) (by omega)
  exact ⟨h.1, Lib.bitLenAux_le 64 y 64 (by simpa using h1), h.2.1, h.2.2⟩

/-- All that the walk of Div64 is told. -/
structure Laid (hi lo y L : Nat) (Y yn1 yn0 r u un1 un0 : Nat) : Prop where
  eY : y * 2 ^ (64 - L) = Y
  Y1 : Y < 18446744073709551616
  n : Norm Y yn1 yn0
  e1 : Y / 4294967296 = yn1
  e0 : Y % 4294967296 = yn0
  er : hi * 2 ^ (64 - L) + lo / 2 ^ (64 - (64 - L)) = r
  eor : (hi * 2 ^ (64 - L)) ||| (lo / 2 ^ (64 - (64 - L))) = r
  h1 : hi * 2 ^ (64 - L) < 18446744073709551616
  rY : r < Y
  eu : lo * 2 ^ (64 - L) % 18446744073709551616 = u
  u1 : u / 4294967296 = un1
  u0 : u % 4294967296 = un0
  hu : u < 18446744073709551616
  all : (hi * 18446744073709551616 + lo) * 2 ^ (64 - L) = (r * 4294967296 + un1) * 4294967296 + un0

theorem laid_out (hi lo y : Nat) (h1 : hi < y) (l1 : lo < 18446744073709551616) (y1 : y < 18446744073709551616) :
    ∃ Y yn1 yn0 r u un1 un0, Laid hi lo y (Lib.bitLen y) Y yn1 yn0 r u un1 un0 := by
  obtain ⟨b1, b2, b3, b4⟩ := bitLen_bounds y (by omega) y1
  generalize Lib.bitLen y = L at *
  have p1 : 2 ^ (L - 1) * 2 ^ (64 - L) = 9223372036854775808 := by
    rw [← Nat.pow_add, show L - 1 + (64 - L) = 63 by omega]
  have p2 : 2 ^ L * 2 ^ (64 - L) = 18446744073709551616 := by
    rw [← Nat.pow_add, show L + (64 - L) = 64 by omega]
  have ps : 64 - (64 - L) = L := by omega
  have S0 : 0 < 2 ^ (64 - L) := Nat.two_pow_pos _
  have hY1 : y * 2 ^ (64 - L) < 18446744073709551616 := by rw [← p2]; exact Nat.mul_lt_mul_of_pos_right b4 S0
  have hY0 : 9223372036854775808 ≤ y * 2 ^ (64 - L) := by rw [← p1]; exact Nat.mul_le_mul_right _ b3
  have hh : hi * 2 ^ (64 - L) + 2 ^ (64 - L) ≤ y * 2 ^ (64 - L) := by
    rw [← Nat.succ_mul]; exact Nat.mul_le_mul_right _ h1
  have hl : lo / 2 ^ L < 2 ^ (64 - L) := by
    refine (Nat.div_lt_iff_lt_mul (Nat.two_pow_pos _)).2 ?_
    rw [Nat.mul_comm, p2]; exact l1
  have hlo : lo * 2 ^ (64 - L) = lo / 2 ^ L * 18446744073709551616 + lo * 2 ^ (64 - L) % 18446744073709551616 := by
    have e := Nat.div_add_mod (lo * 2 ^ (64 - L)) 18446744073709551616
    have e2 : lo * 2 ^ (64 - L) / 18446744073709551616 = lo / 2 ^ L := by
      rw [← p2, Nat.mul_div_mul_right _ _ S0]
    rw [e2] at e
    omega
  have hall : (hi * 18446744073709551616 + lo) * 2 ^ (64 - L) = hi * 2 ^ (64 - L) * 18446744073709551616 + lo * 2 ^ (64 - L) := by
    rw [Nat.add_mul, Nat.mul_assoc, Nat.mul_comm 18446744073709551616, ← Nat.mul_assoc]
  have hor : (hi * 2 ^ (64 - L)) ||| (lo / 2 ^ L) = hi * 2 ^ (64 - L) + lo / 2 ^ L := by
    rw [Nat.mul_comm hi]
    exact (Nat.two_pow_add_eq_or_of_lt hl hi).symm
  generalize hS : 2 ^ (64 - L) = S at *
  refine ⟨y * S, y * S / 4294967296, y * S % 4294967296, hi * S + lo / 2 ^ L, lo * S % 18446744073709551616, lo * S % 18446744073709551616 / 4294967296, lo * S % 18446744073709551616 % 4294967296, ?_⟩
  exact { eY := by rw [hS], Y1 := hY1, n := ⟨by omega, by omega, by omega, by omega⟩, e1 := rfl, e0 := rfl, er := by rw [hS, ps], eor := by rw [hS, ps]; exact hor, h1 := by rw [hS]; omega, rY := by omega, eu := by rw [hS], u1 := rfl, u0 := rfl, hu := by omega,
          all := by rw [hS, hall, hlo]; omega }

/-- The end: the two digits are the quotient, the rest shifted back is the rest. -/
theorem laid_end {hi lo y L Y yn1 yn0 r u un1 un0 : Nat} (Z : Laid hi lo y L Y yn1 yn0 r u un1 un0) (_y0 : 0 < y) :
    (hi * 18446744073709551616 + lo) / y = (r * 4294967296 + un1) / Y * 4294967296 + ((r * 4294967296 + un1) % Y * 4294967296 + un0) / Y ∧
    (hi * 18446744073709551616 + lo) % y = ((r * 4294967296 + un1) % Y * 4294967296 + un0) % Y / 2 ^ (64 - L) := by
  have S0 : 0 < 2 ^ (64 - L) := Nat.two_pow_pos _
  have t := two_digits (Y := Y) (r := r) (un1 := un1) (un0 := un0) Z.n.pos
  simp only [] at t
  rw [← Z.all, ← Z.eY, Nat.mul_div_mul_right _ _ S0, Nat.mul_mod_mul_right] at t
  refine ⟨by rw [t.1, Z.eY], ?_⟩
  rw [← Z.eY] at *
  rw [← t.2, Nat.mul_div_cancel _ S0]
end Go.Proofs.Ytghpjmihlgfeaaa
