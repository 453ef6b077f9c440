/- Contracts of the reference's plus and Part, and the walk of the law MoneyTimes. -/
import Derived.Test.YtghpjmihlgfeaaaMoneyE
import Derived.Outline
import Derived.Deep.QuietTactic
import Derived.BigQuiet
import Derived.Deep.DeepCutAuto
namespace Go.Proofs.Ytghpjmihlgfeaaa
open Go.RowKit

/-- The carry of two rests. -/
def carry (r s b : Int) : Int := if b ≤ r + s then 1 else 0

theorem ret_three {j k : IntKind} {a b c d : Int} {x y : Bool} (h : a = c) (g : b = d) (f : x = y) : Ending.returned (.tuple #[.int j a, .int k b, .bool x]) = .returned (.tuple #[.int j c, .int k d, .bool y]) := by rw [h, g, f]

set_option maxHeartbeats 400000 in
theorem plus_core (q r p s b S R R2 S2 : Int) (w : World) (_q0 : 0 ≤ q) (_b1 : b ≤ 18446744073709551615)
    (eS : IntKind.u64.wrap (q + p) = S) (eR : IntKind.u64.wrap (r + s) = R) (eR2 : IntKind.u64.wrap (R - b) = R2) (eS2 : IntKind.u64.wrap (S + 1) = S2)
    (c V2 : Int) (O : Bool) (C : Hid ((R < r ∨ b ≤ R) ∧ c = S2 ∧ V2 = R2 ∧ O = (decide (S < q) || (S2 == 0)) ∨ (¬ R < r ∧ ¬ b ≤ R) ∧ c = S ∧ V2 = R ∧ O = decide (S < q))) :
    Calls Try.prog 43 #[.int .u64 q, .int .u64 r, .int .u64 p, .int .u64 s, .int .u64 b] w fun e w' => e = .returned (.tuple #[.int .u64 c, .int .u64 V2, .bool O]) ∧ w = w' := by
  rcases C.out with ⟨h, rfl, rfl, rfl⟩ | ⟨⟨h1, h2⟩, rfl, rfl, rfl⟩
  · by_cases h1 : R < r
    · clear h C
      by_cases h3 : S < q
      · have E := Lib.hid (show (decide (S < q) || c == 0) = true by simp [h3])
        go_enter Try.func43, Try.ntmps43
        go_wp2
        go_ret3
        exact ⟨ret_three rfl rfl (by first | exact E.out.symm | rfl), rfl⟩
      · have E := Lib.hid (show (decide (S < q) || c == 0) = (c == 0) by simp [h3])
        go_enter Try.func43, Try.ntmps43
        go_wp2
        go_ret3
        exact ⟨ret_three rfl rfl (by first | exact E.out.symm | rfl), rfl⟩
    · have h2 : b ≤ R := by omega
      clear h C
      by_cases h3 : S < q
      · have E := Lib.hid (show (decide (S < q) || c == 0) = true by simp [h3])
        go_enter Try.func43, Try.ntmps43
        go_wp2
        go_ret3
        exact ⟨ret_three rfl rfl (by first | exact E.out.symm | rfl), rfl⟩
      · have E := Lib.hid (show (decide (S < q) || c == 0) = (c == 0) by simp [h3])
        go_enter Try.func43, Try.ntmps43
        go_wp2
        go_ret3
        exact ⟨ret_three rfl rfl (by first | exact E.out.symm | rfl), rfl⟩
  · clear C
    go_enter Try.func43, Try.ntmps43
    go_wp2
    go_ret3
    exact ⟨rfl, rfl⟩

theorem plus_any (q r p s b : Int) (w : World) (q0 : 0 ≤ q) (q1 : q < 18446744073709551616) (p0 : 0 ≤ p) (p1 : p < 18446744073709551616) (r0 : 0 ≤ r) (r1 : r < b) (s0 : 0 ≤ s) (s1 : s < b) (b1 : b ≤ 18446744073709551615) :
    Calls Try.prog 43 #[.int .u64 q, .int .u64 r, .int .u64 p, .int .u64 s, .int .u64 b] w fun e w' =>
      e = .returned (.tuple #[.int .u64 ((q + p + carry r s b) % 18446744073709551616), .int .u64 (r + s - carry r s b * b), .bool (decide (18446744073709551616 ≤ q + p + carry r s b))]) ∧ w = w' := by
  refine plus_core q r p s b _ _ _ _ w q0 b1 rfl rfl rfl rfl _ _ _ (Lib.hid ?_)
  simp only [IntKind.wrap_u64]
  unfold carry
  by_cases h : b ≤ r + s
  · refine .inl ⟨by omega, by rw [if_pos h]; omega, by rw [if_pos h]; omega, ?_⟩
    rw [if_pos h, Bool.eq_iff_iff]
    simp only [decide_eq_true_eq, Bool.or_eq_true, beq_iff_eq]
    omega
  · refine .inr ⟨by omega, by rw [if_neg h]; omega, by rw [if_neg h]; omega, ?_⟩
    rw [if_neg h, Bool.eq_iff_iff]
    simp only [decide_eq_true_eq]
    omega

def plQ (q r p s b : Int) : Int := (q + p + carry r s b) % 18446744073709551616
def plR (r s b : Int) : Int := r + s - carry r s b * b
def plG (q r p s b : Int) : Bool := decide (18446744073709551616 ≤ q + p + carry r s b)
theorem plus_do (q r p s b : Int) (w : World) (q0 : 0 ≤ q) (q1 : q ≤ 18446744073709551615) (p0 : 0 ≤ p) (p1 : p ≤ 18446744073709551615) (r0 : 0 ≤ r) (r1 : r < b) (s0 : 0 ≤ s) (s1 : s < b) (b1 : b ≤ 18446744073709551615) :
    Calls Try.prog 43 #[.int .u64 q, .int .u64 r, .int .u64 p, .int .u64 s, .int .u64 b] w fun e w' =>
      e = .returned (.tuple #[.int .u64 (plQ q r p s b), .int .u64 (plR r s b), .bool (plG q r p s b)]) ∧ w = w' := plus_any q r p s b w q0 (by omega) p0 (by omega) r0 r1 s0 s1 b1

/-! ### The reference's long division: what the loop holds after the high bits m of n. -/
structure PRel (a b m q r : Int) (g : Bool) : Prop where
  q : q = (m * a / b) % 18446744073709551616
  r : r = m * a % b
  g : g = decide (18446744073709551616 ≤ m * a / b)

theorem prel_zero (a b : Int) : PRel a b 0 0 0 false := ⟨by simp, by simp, by simp⟩

/-- Two multiples of a together. -/
theorem prel_add {a b m k q r p s : Int} {g : Bool} (b0 : 0 < b) (R : PRel a b m q r g) (m0 : 0 ≤ m * a) (k0 : 0 ≤ k * a) (hp : p = (k * a / b) % 18446744073709551616) (hs : s = k * a % b) (hk : k * a / b ≤ m * a / b ∨ k * a / b < 18446744073709551616)  :
    PRel a b (m + k) (plQ q r p s b) (plR r s b) (g || plG q r p s b) := by
  unfold plQ plR plG
  obtain ⟨rfl, rfl, rfl⟩ := R
  subst hp hs
  have em := Int.mul_ediv_add_emod (m * a) b
  have ek := Int.mul_ediv_add_emod (k * a) b
  have rm0 : 0 ≤ m * a % b := Int.emod_nonneg _ (by omega)
  have rm1 : m * a % b < b := Int.emod_lt_of_pos _ b0
  have rk0 : 0 ≤ k * a % b := Int.emod_nonneg _ (by omega)
  have rk1 : k * a % b < b := Int.emod_lt_of_pos _ b0
  have qm0 : 0 ≤ m * a / b := Int.ediv_nonneg m0 (by omega)
  have qk0 : 0 ≤ k * a / b := Int.ediv_nonneg k0 (by omega)
  have hc : carry (m * a % b) (k * a % b) b = 0 ∧ m * a % b + k * a % b < b ∨ carry (m * a % b) (k * a % b) b = 1 ∧ b ≤ m * a % b + k * a % b := by
    unfold carry
    by_cases h : b ≤ m * a % b + k * a % b
    · exact .inr ⟨if_pos h, h⟩
    · exact .inl ⟨if_neg h, by omega⟩
  have key : (m + k) * a / b = m * a / b + k * a / b + carry (m * a % b) (k * a % b) b ∧ (m + k) * a % b = m * a % b + k * a % b - carry (m * a % b) (k * a % b) b * b := by
    have e : (m + k) * a = (m * a % b + k * a % b - carry (m * a % b) (k * a % b) b * b) + b * (m * a / b + k * a / b + carry (m * a % b) (k * a % b) b) := by
      rw [Int.add_mul, Int.mul_add, Int.mul_add, Int.mul_comm b (carry _ _ _)]
      omega
    have lo : 0 ≤ m * a % b + k * a % b - carry (m * a % b) (k * a % b) b * b := by
      rcases hc with ⟨h, h2⟩ | ⟨h, h2⟩ <;> rw [h] <;> omega
    have hi : m * a % b + k * a % b - carry (m * a % b) (k * a % b) b * b < b := by
      rcases hc with ⟨h, h2⟩ | ⟨h, h2⟩ <;> rw [h] <;> omega
    rw [e, Int.add_mul_ediv_left _ _ (by omega), Int.add_mul_emod_self_left, Int.ediv_eq_zero_of_lt lo hi, Int.emod_eq_of_lt lo hi]
    exact ⟨by omega, rfl⟩
  have c01 : carry (m * a % b) (k * a % b) b = 0 ∨ carry (m * a % b) (k * a % b) b = 1 := by rcases hc with h | h <;> simp [h.1]
  refine ⟨?_, key.2.symm, ?_⟩
  · rw [key.1]; omega
  · rw [key.1, Bool.eq_iff_iff]
    simp only [decide_eq_true_eq, Bool.or_eq_true]
    omega

theorem quiet_add_left {P : Program} {f : FuncId} {args : Array Value} {w : World} {a n : Nat} {v : Value}
    (h : Calls P f args (w.drewN (a + n)) fun e w' => e = .returned v ∧ w.drewN (a + n) = w') :
    Calls P f args (w.drewN (a + n)) fun e w'' => e = .returned v ∧ ∃ m, w'' = w.drewN (a + m) :=
  h.mono fun _ _ ⟨he, hm⟩ => ⟨he, n, hm.symm⟩
theorem quiet_left {P : Program} {f : FuncId} {args : Array Value} {w : World} {n : Nat} {v : Value}
    (h : Calls P f args (w.drewN n) fun e w' => e = .returned v ∧ w.drewN n = w') : Calls P f args (w.drewN n) fun e w'' => e = .returned v ∧ ∃ m, w'' = w.drewN m :=
  h.mono fun _ _ ⟨he, hm⟩ => ⟨he, n, hm.symm⟩

theorem PRel.bd {a b m q r : Int} {g : Bool} (R : PRel a b m q r g) (b0 : 0 < b) : 0 ≤ q ∧ q ≤ 18446744073709551615 ∧ 0 ≤ r ∧ r < b := by
  obtain ⟨rfl, rfl, _⟩ := R
  exact ⟨by omega, by omega, Int.emod_nonneg _ (by omega), Int.emod_lt_of_pos _ b0⟩

/-- The next bit. -/
theorem next_bit (n : Int) (k : Nat) (n0 : 0 ≤ n) (hk : k ≠ 0) : n / 2 ^ (k - 1) = n / 2 ^ k + n / 2 ^ k + n / 2 ^ (k - 1) % 2 := by
  obtain ⟨j, rfl⟩ : ∃ j, k = j + 1 := ⟨k - 1, by omega⟩
  have h : n / 2 ^ (j + 1) = n / 2 ^ j / 2 := by
    obtain ⟨x, rfl⟩ := Int.eq_ofNat_of_zero_le n0
    have e : x / 2 ^ (j + 1) = x / 2 ^ j / 2 := by rw [Nat.pow_succ, Nat.div_div_eq_div_mul]
    have e2 := congrArg (Nat.cast (R := Int)) e
    simpa using e2
  rw [h, Nat.add_sub_cancel]
  omega

theorem part_of {n a b q r : Int} {g : Bool} (b0 : 0 < b) (a0 : 0 ≤ a) (n0 : 0 ≤ n) (R : PRel a b (n / 2 ^ 0) q r g) :
    partV n a b = (if g || decide (4611686018427387904 < q) then 0 else q) ∧ partE n a b = (if g || decide (4611686018427387904 < q) then 30 else 0) := by
  obtain ⟨rfl, _, rfl⟩ := R
  rw [Int.pow_zero, Int.ediv_one]
  have h0 : 0 ≤ n * a / b := Int.ediv_nonneg (Int.mul_nonneg n0 a0) (by omega)
  unfold partV partE
  generalize n * a / b = x at *
  have hb : ¬ b = 0 := by omega
  by_cases h1 : 4611686018427387904 < x
  · have h2 : (decide (18446744073709551616 ≤ x) || decide (4611686018427387904 < x % 18446744073709551616)) = true := by
      simp only [Bool.or_eq_true, decide_eq_true_eq]; omega
    rw [h2, if_pos (.inr h1), if_neg hb, if_pos h1]; exact ⟨rfl, rfl⟩
  · have h2 : (decide (18446744073709551616 ≤ x) || decide (4611686018427387904 < x % 18446744073709551616)) = false := by
      simp only [Bool.or_eq_false_iff, decide_eq_false_iff_not]; omega
    rw [h2, if_neg (by omega), if_neg hb, if_neg h1]; exact ⟨by show x = x % _; omega, rfl⟩

set_option maxRecDepth 100000 in
set_option maxHeartbeats 1000000 in
theorem refPart_any (n a b : Int) (w : World) (a0 : 0 ≤ a) (n0 : 0 ≤ n) (b0 : 0 < b) (n1 : n ≤ 18446744073709551615) (a1 : a ≤ 18446744073709551615) (b1 : b ≤ 18446744073709551615) :
    Calls Try.prog 25 #[.int .u64 n, .int .u64 a, .int .u64 b] w fun e w' => e = .returned (.tuple #[.int .u64 (partV n a b), .int .i64 (partE n a b)]) ∧ ∃ j, w' = w.drewN j := by
  have hb : (b == 0) = false := by simp; omega
  go_enter Try.func25, Try.ntmps25
  go_wp2_with fail
  go_loopw [8, 9, 10, 11] (fun s8 s9 s10 s11 wr => ∃ (k : Nat) (q r : Int) (g : Bool), k ≤ 64 ∧ s8 = .int .u64 q ∧ s9 = .int .u64 r ∧ s10 = .bool g ∧ s11 = .int .i64 ((k : Int) - 1) ∧ PRel a b (n / 2 ^ k) q r g ∧ ∃ j, wr = w.drewN j) (fun _ _ _ s11 _ => (intOf s11 + 1).toNat)
  case atStart => exact ⟨64, 0, 0, false, by omega, rfl, rfl, rfl, rfl, by rw [show n / 2 ^ 64 = 0 from Int.ediv_eq_zero_of_lt n0 (by omega)]; exact prel_zero a b, 0, rfl⟩
  case round =>
    obtain ⟨k, q, r, g, hk, rfl, rfl, rfl, rfl, R, j, rfl⟩ := hrel
    by_cases hk0 : k = 0
    · subst hk0
      obtain ⟨q0, q1, r0, r1⟩ := R.bd b0
      have HR := Lib.hid R
      clear R
      have P : Hid (partV n a b = (if g || decide (4611686018427387904 < q) then 0 else q) ∧ partE n a b = (if g || decide (4611686018427387904 < q) then 30 else 0)) := Lib.hid (part_of b0 a0 n0 HR.out)
      clear HR
      cases g
      · by_cases hq : 4611686018427387904 < q
        · go_wp2_with fail
          go_ret2
          exact ⟨ret_two (by rw [P.out.1]; simp [hq]) (by rw [P.out.2]; simp [hq]), _, rfl⟩
        · have E1 : Hid (partV n a b = q) := Lib.hid (by rw [P.out.1]; simp [hq])
          have E2 : Hid (partE n a b = 0) := Lib.hid (by rw [P.out.2]; simp [hq])
          clear P
          go_wp2_with fail
          go_ret2
          exact ⟨ret_two E1.out.symm E2.out.symm, _, rfl⟩
      · go_wp2_with fail
        go_ret2
        exact ⟨ret_two (by rw [P.out.1]; rfl) (by rw [P.out.2]; rfl), _, rfl⟩
    · have k1 : (1 : Int) ≤ k := by omega
      have k2 : (k : Int) ≤ 64 := by omega
      obtain ⟨q0, q1, r0, r1⟩ := R.bd b0
      have m0 : 0 ≤ n / 2 ^ k * a := Int.mul_nonneg (Int.ediv_nonneg n0 (Int.le_of_lt (Int.pow_pos (by omega)))) a0
      have R1 := prel_add (k := n / 2 ^ k) b0 R m0 m0 R.q R.r (.inl (Int.le_refl _))
      obtain ⟨q2, q3, r2, r3⟩ := R1.bd b0
      have nb := next_bit n k n0 hk0
      have x0 : 0 ≤ n / 2 ^ (k - 1) := Int.ediv_nonneg n0 (Int.le_of_lt (Int.pow_pos (by omega)))
      obtain ⟨G1, hG1⟩ : ∃ x, (g || plG q r q r b) = x := ⟨_, rfl⟩
      rw [hG1] at R1
      have HR := Lib.hid R1
      have NB := Lib.hid nb
      have HG := Lib.hid hG1
      clear R R1 nb hG1
      go_wp2_with fail
      refine (plus_do _ _ _ _ _ _ q0 q1 q0 q1 r0 r1 r0 r1 b1).mono ?_
      rintro e w1 ⟨rfl, rfl⟩
      go_upto_region 12 with fail
      go_cut [10] (fun s wx => s = .bool G1 ∧ wx = w.drewN j)
      case first =>
        cases g
        · obtain rfl : plG q r q r b = G1 := HG.out
          go_wp2_with fail
          go_meet
          case rel => exact ⟨rfl, rfl⟩
        · obtain rfl : true = G1 := HG.out
          go_wp2_with fail
          go_meet
          case rel => exact ⟨rfl, rfl⟩
      case rest =>
        obtain ⟨rfl, rfl⟩ := hcut
        obtain ⟨Q1, hQ1⟩ : ∃ x, plQ q r q r b = x := ⟨_, rfl⟩
        obtain ⟨S1, hS1⟩ : ∃ x, plR r r b = x := ⟨_, rfl⟩
        rw [hQ1] at q2 q3 HR ⊢
        rw [hS1] at r2 r3 HR ⊢
        by_cases hbit : n / 2 ^ (k - 1) % 2 = 1
        · have ht : (n / 2 ^ (k - 1) % 2 == 1) = true := by simpa using hbit
          have d0 : 0 ≤ a / b := Int.ediv_nonneg a0 (by omega)
          have d1 : a / b ≤ 18446744073709551615 := Int.le_trans (Int.ediv_le_self b a0) a1
          have e0 : 0 ≤ a % b := Int.emod_nonneg _ (by omega)
          have e1 : a % b < b := Int.emod_lt_of_pos _ b0
          have b2 : 1 ≤ b := by omega
          have R2 := prel_add (k := 1) (p := a / b) (s := a % b) b0 HR.out (by rw [Int.add_mul]; omega) (by rw [Int.one_mul]; exact a0) (by rw [Int.one_mul]; omega) (by rw [Int.one_mul]) (.inr (by rw [Int.one_mul]; omega))
          obtain ⟨G2, hG2⟩ : ∃ x, (G1 || plG Q1 S1 (a / b) (a % b) b) = x := ⟨_, rfl⟩
          rw [hG2] at R2
          have hn : n / 2 ^ k + n / 2 ^ k + 1 = n / 2 ^ (k - 1) := by have := NB.out; omega
          rw [hn] at R2
          have HR2 := Lib.hid R2
          have HG2 := Lib.hid hG2
          clear R2 hG2 hn HR HG m0 hQ1 hS1
          go_upto_region 14 with fail
          go_quiet ((go_at_call 43; first | exact quiet_left (plus_do _ _ _ _ _ _ q2 q3 d0 d1 r2 r3 e0 e1 b1) | exact quiet_add_left (plus_do _ _ _ _ _ _ q2 q3 d0 d1 r2 r3 e0 e1 b1)))
          cases G1
          · obtain rfl : plG Q1 S1 (a / b) (a % b) b = G2 := HG2.out
            go_wp2_with fail
            go_roundw
            case rel => exact ⟨k - 1, _, _, _, by omega, rfl, rfl, rfl, congrArg (Value.int .i64) (by omega), HR2.out, _, rfl⟩
            case measure => simp [intOf]; omega
          · obtain rfl : true = G2 := HG2.out
            go_wp2_with fail
            go_roundw
            case rel => exact ⟨k - 1, _, _, _, by omega, rfl, rfl, rfl, congrArg (Value.int .i64) (by omega), HR2.out, _, rfl⟩
            case measure => simp [intOf]; omega
        · have ht : (n / 2 ^ (k - 1) % 2 == 1) = false := by simpa using hbit
          have hn : n / 2 ^ k + n / 2 ^ k = n / 2 ^ (k - 1) := by have := NB.out; omega
          rw [hn] at HR
          clear hn hQ1 hS1
          go_wp2_with fail
          go_roundw
          case rel => exact ⟨k - 1, _, _, _, by omega, rfl, rfl, rfl, congrArg (Value.int .i64) (by omega), HR.out, _, rfl⟩
          case measure => simp [intOf]; omega
end Go.Proofs.Ytghpjmihlgfeaaa
