/- The walk of math/bits.Div64. -/
import Derived.Test.YtghpjmihlgfeaaaMoneyA
import Derived.Test.YtghpjmihlgfeaaaShelf
import Derived.Test.YtghpjmihlgfeaaaDivPlain
import Derived.Deep.QuietTactic
import Derived.BigQuiet
import Derived.Deep.DeepCutAuto
import Derived.Deep.CutBlock
namespace Go.Proofs.Ytghpjmihlgfeaaa
open Go.RowKit

set_option maxHeartbeats 400000 in
theorem div64_lo (lo y : Int) (w : World) (l0 : 0 ≤ lo) (l1 : lo ≤ 18446744073709551615) (y0 : 0 < y) (y1 : y ≤ 18446744073709551615) :
    Calls Try.prog 42 #[.int .u64 0, .int .u64 lo, .int .u64 y] w fun e w' => e = .returned (.tuple #[.int .u64 (lo / y), .int .u64 (lo % y)]) ∧ ∃ n, w' = w.drewN n := by
  go_enter Try.func42, Try.ntmps42
  go_wp2
  go_quiet (fail)
  go_wp2
  go_ret2
  exact ⟨rfl, _, rfl⟩

set_option maxRecDepth 100000 in
set_option maxHeartbeats 1000000 in
theorem div64_hi (hi lo y Y yn1 yn0 r u un1 un0 q0 h0 Q1 r2 q2 h2 Q2 R3 Quo Rem : Nat) (w : World) (hp : 0 < hi) (h1 : hi < y) (l1 : lo ≤ 18446744073709551615) (y1 : y ≤ 18446744073709551615)
   (eY : IntKind.u64.wrap (↑y * 2 ^ (64 - Lib.bitLen y)) = (Y : Int)) (e1 : (Y : Int) / 4294967296 = yn1) (n1 : 1 ≤ (yn1 : Int)) (e0 : bits .and .u64 (Y : Int) 4294967295 = (yn0 : Int))
   (er : bits .or .u64 (IntKind.u64.wrap (↑hi * 2 ^ (64 - Lib.bitLen y))) (↑lo / 2 ^ (64 - (64 - Lib.bitLen y))) = (r : Int)) (r1 : (r : Int) ≤ 18446744073709551615)
   (eu : IntKind.u64.wrap (↑lo * 2 ^ (64 - Lib.bitLen y)) = (u : Int)) (eu1 : (u : Int) / 4294967296 = un1) (eu0 : bits .and .u64 (u : Int) 4294967295 = (un0 : Int))
   (eq0 : (r : Int) / yn1 = q0) (q0b : (q0 : Int) ≤ 4294967297) (eh0 : IntKind.u64.wrap (↑r - IntKind.u64.wrap (↑q0 * ↑yn1)) = (h0 : Int))
   (N : Norm Y yn1 yn0) (hr : r < Y) (hd1 : un1 < 4294967296) (hd0 : un0 < 4294967296) (L0 : LRel Y yn1 r un1 q0 h0) (hQ1 : Hid (Q1 = (r * 4294967296 + un1) / Y))
   (er2 : IntKind.u64.wrap (IntKind.u64.wrap (IntKind.u64.wrap (↑r * 4294967296) + ↑un1) - IntKind.u64.wrap (↑Q1 * ↑Y)) = (r2 : Int)) (_r2b : (r2 : Int) ≤ 18446744073709551615)
   (eq2 : (r2 : Int) / yn1 = q2) (q2b : (q2 : Int) ≤ 4294967297) (eh2 : IntKind.u64.wrap (↑r2 - IntKind.u64.wrap (↑q2 * ↑yn1)) = (h2 : Int)) (hr2 : r2 < Y)
   (L2 : LRel Y yn1 r2 un0 q2 h2) (hQ2 : Hid (Q2 = (r2 * 4294967296 + un0) / Y)) (eQ : IntKind.u64.wrap (IntKind.u64.wrap (↑Q1 * 4294967296) + ↑Q2) = (Quo : Int))
   (er3 : IntKind.u64.wrap (IntKind.u64.wrap (IntKind.u64.wrap (↑r2 * 4294967296) + ↑un0) - IntKind.u64.wrap (↑Q2 * ↑Y)) = (R3 : Int)) (eR : (R3 : Int) / 2 ^ (64 - Lib.bitLen y) = Rem) :
    Calls Try.prog 42 #[.int .u64 hi, .int .u64 lo, .int .u64 y] w fun e w' => e = .returned (.tuple #[.int .u64 Quo, .int .u64 Rem]) ∧ w = w' := by
  have hb := bitLen_bounds y (by omega) (by omega)
  have b1 : (1 : Int) ≤ (Lib.bitLen y : Int) := by omega
  have b2 : (Lib.bitLen y : Int) ≤ 64 := by omega
  have z1 : ((y : Int) == 0) = false := by simp; omega
  have z2 : ((hi : Int) == 0) = false := by simp; omega
  have z3 : (hi : Int) < (y : Int) := by omega
  have z4 : (y : Int) ≤ 18446744073709551615 := by omega
  have z5 : (lo : Int) ≤ 18446744073709551615 := by omega
  clear hb
  go_enter Try.func42, Try.ntmps42
  go_wp2_with fail
  refine (Try.bits_LeadingZeros64 _ _ (by omega) (by omega)).mono ?_
  rintro e w' ⟨rfl, rfl⟩
  go_upto_block 0 with fail
  go_cut [15, 16] (fun a b wx => a = .int .u64 Q1 ∧ wx = w')
  case first =>
    go_wp2_with fail
    go_loop [15, 16] (fun a b => ∃ q h : Nat, a = .int .u64 q ∧ b = .int .u64 h ∧ LRel Y yn1 r un1 q h) (fun a _ => (intOf a).toNat)
    case atStart => exact ⟨_, _, rfl, rfl, L0⟩
    case round =>
      obtain ⟨q, h, rfl, rfl, R⟩ := hrel
      have k1 := R.2.1
      have k2 := R.2.2.2
      have k3 := mul_yn0 N k2
      have m1 : (h : Int) ≤ 4294967295 := by omega
      have m2 : (q : Int) ≤ 4294967297 := by omega
      have m3 : (q : Int) * yn0 ≤ 18446744073709551615 := by
        have t : ((q * yn0 : Nat) : Int) ≤ 18446744073709551615 := by omega
        simpa using t
      have m4 : (un1 : Int) ≤ 4294967295 := by omega
      have m6 : 0 ≤ (q : Int) * yn0 := by
        have t : (0 : Int) ≤ ((q * yn0 : Nat) : Int) := by omega
        simpa using t
      have m5 : (yn1 : Int) ≤ 4294967295 := by have := N.hi; omega
      by_cases c : 4294967296 ≤ q ∨ 4294967296 * h + un1 < q * yn0
      · have g1 := (lrel_less N hd1 hr R c).1
        have g2 : (1 : Int) ≤ q := by omega
        by_cases hb : 4294967296 ≤ h + yn1
        · have f1 := lrel_break N hd1 hr R c hb
          rw [← hQ1.out] at f1
          have F1 := Lib.hid f1
          have hbi : (4294967296 : Int) ≤ (h : Int) + yn1 := by omega
          clear R f1 k3
          by_cases c1 : (4294967296 : Int) ≤ q
          · clear c
            go_wp2_with fail
            go_meet
            case rel => exact ⟨by have := F1.out; exact congrArg (Value.int .u64) (by omega), rfl⟩
          · have c2 : 4294967296 * (h : Int) + un1 < (q : Int) * yn0 := by
              rcases c with c | c
              · omega
              · have t : ((4294967296 * h + un1 : Nat) : Int) < ((q * yn0 : Nat) : Int) := by omega
                simpa using t
            clear c
            go_wp2_with fail
            go_meet
            case rel => exact ⟨by have := F1.out; exact congrArg (Value.int .u64) (by omega), rfl⟩
        · have f1 := lrel_next N hd1 hr R c (by omega)
          have F1 := Lib.hid f1
          have hbi : ¬ (4294967296 : Int) ≤ (h : Int) + yn1 := by omega
          clear R f1 k3
          by_cases c1 : (4294967296 : Int) ≤ q
          · clear c
            go_wp2_with fail
            go_round
            case rel => exact ⟨q - 1, h + yn1, congrArg (Value.int .u64) (by omega), congrArg (Value.int .u64) (by omega), F1.out⟩
            case measure => simp [intOf]; omega
          · have c2 : 4294967296 * (h : Int) + un1 < (q : Int) * yn0 := by
              rcases c with c | c
              · omega
              · have t : ((4294967296 * h + un1 : Nat) : Int) < ((q * yn0 : Nat) : Int) := by omega
                simpa using t
            clear c
            go_wp2_with fail
            go_round
            case rel => exact ⟨q - 1, h + yn1, congrArg (Value.int .u64) (by omega), congrArg (Value.int .u64) (by omega), F1.out⟩
            case measure => simp [intOf]; omega
      · have f1 := lrel_stop N R (by omega)
        rw [← hQ1.out] at f1
        have F1 := Lib.hid f1
        have c1 : ¬ (4294967296 : Int) ≤ (q : Int) := by omega
        have c2 : ¬ 4294967296 * (h : Int) + un1 < (q : Int) * yn0 := by
          have t : ¬ ((4294967296 * h + un1 : Nat) : Int) < ((q * yn0 : Nat) : Int) := by omega
          rwa [Int.natCast_add, Int.natCast_mul, Int.natCast_mul] at t
        clear R f1 c k3
        go_wp2_with fail
        go_meet
        case rel => exact ⟨by rw [F1.out], rfl⟩
  case rest =>
    obtain ⟨rfl, rfl⟩ := hcut
    go_upto_block 2 with fail
    clear L0 eY er eu e0 eu0 eq0 eh0 er2 hQ1
    go_cut [18, 16] (fun a b wx => a = .int .u64 Q2 ∧ wx = wc)
    case first =>
      go_wp2_with fail
      go_loop [18, 16] (fun a b => ∃ q h : Nat, a = .int .u64 q ∧ b = .int .u64 h ∧ LRel Y yn1 r2 un0 q h) (fun a _ => (intOf a).toNat)
      case atStart => exact ⟨_, _, rfl, rfl, L2⟩
      case round =>
        obtain ⟨q, h, rfl, rfl, R⟩ := hrel
        have k1 := R.2.1
        have k2 := R.2.2.2
        have k3 := mul_yn0 N k2
        have m1 : (h : Int) ≤ 4294967295 := by omega
        have m2 : (q : Int) ≤ 4294967297 := by omega
        have m3 : (q : Int) * yn0 ≤ 18446744073709551615 := by
          have t : ((q * yn0 : Nat) : Int) ≤ 18446744073709551615 := by omega
          simpa using t
        have m4 : (un0 : Int) ≤ 4294967295 := by omega
        have m6 : 0 ≤ (q : Int) * yn0 := by
          have t : (0 : Int) ≤ ((q * yn0 : Nat) : Int) := by omega
          simpa using t
        have m5 : (yn1 : Int) ≤ 4294967295 := by have := N.hi; omega
        by_cases c : 4294967296 ≤ q ∨ 4294967296 * h + un0 < q * yn0
        · have g1 := (lrel_less N hd0 hr2 R c).1
          have g2 : (1 : Int) ≤ q := by omega
          by_cases hb : 4294967296 ≤ h + yn1
          · have f1 := lrel_break N hd0 hr2 R c hb
            rw [← hQ2.out] at f1
            have F1 := Lib.hid f1
            have hbi : (4294967296 : Int) ≤ (h : Int) + yn1 := by omega
            clear R f1 k3
            by_cases c1 : (4294967296 : Int) ≤ q
            · clear c
              go_wp2_with fail
              go_meet
              case rel => exact ⟨by have := F1.out; exact congrArg (Value.int .u64) (by omega), rfl⟩
            · have c2 : 4294967296 * (h : Int) + un0 < (q : Int) * yn0 := by
                rcases c with c | c
                · omega
                · have t : ((4294967296 * h + un0 : Nat) : Int) < ((q * yn0 : Nat) : Int) := by omega
                  simpa using t
              clear c
              go_wp2_with fail
              go_meet
              case rel => exact ⟨by have := F1.out; exact congrArg (Value.int .u64) (by omega), rfl⟩
          · have f1 := lrel_next N hd0 hr2 R c (by omega)
            have F1 := Lib.hid f1
            have hbi : ¬ (4294967296 : Int) ≤ (h : Int) + yn1 := by omega
            clear R f1 k3
            by_cases c1 : (4294967296 : Int) ≤ q
            · clear c
              go_wp2_with fail
              go_round
              case rel => exact ⟨q - 1, h + yn1, congrArg (Value.int .u64) (by omega), congrArg (Value.int .u64) (by omega), F1.out⟩
              case measure => simp [intOf]; omega
            · have c2 : 4294967296 * (h : Int) + un0 < (q : Int) * yn0 := by
                rcases c with c | c
                · omega
                · have t : ((4294967296 * h + un0 : Nat) : Int) < ((q * yn0 : Nat) : Int) := by omega
                  simpa using t
              clear c
              go_wp2_with fail
              go_round
              case rel => exact ⟨q - 1, h + yn1, congrArg (Value.int .u64) (by omega), congrArg (Value.int .u64) (by omega), F1.out⟩
              case measure => simp [intOf]; omega
        · have f1 := lrel_stop N R (by omega)
          rw [← hQ2.out] at f1
          have F1 := Lib.hid f1
          have c1 : ¬ (4294967296 : Int) ≤ (q : Int) := by omega
          have c2 : ¬ 4294967296 * (h : Int) + un0 < (q : Int) * yn0 := by
            have t : ¬ ((4294967296 * h + un0 : Nat) : Int) < ((q * yn0 : Nat) : Int) := by omega
            rwa [Int.natCast_add, Int.natCast_mul, Int.natCast_mul] at t
          clear R f1 c k3
          go_wp2_with fail
          go_meet
          case rel => exact ⟨by rw [F1.out], rfl⟩
    case rest =>
      obtain ⟨rfl, rfl⟩ := hcut
      go_wp2_with fail
      go_ret2
      exact ⟨rfl, rfl⟩

theorem wrap_of {a : Int} {n : Nat} (h : a % 18446744073709551616 = n) : IntKind.u64.wrap a = (n : Int) := by rw [IntKind.wrap_u64]; exact h

theorem u64_mul_nat (a b : Nat) : (a : Int) * (b : Int) = ((a * b : Nat) : Int) := (Int.natCast_mul a b).symm

theorem quo_wrap (a b : Nat) (ha : a < 4294967296) (hb : b < 4294967296) : IntKind.u64.wrap (IntKind.u64.wrap ((a : Int) * 4294967296) + (b : Int)) = ((a * 4294967296 + b : Nat) : Int) := by
  refine wrap_of ?_
  rw [IntKind.wrap_u64]; omega
theorem rem_wrap (r q m : Nat) (hr : r ≤ 18446744073709551615) (h : q * m + r % m = r) : IntKind.u64.wrap ((r : Int) - IntKind.u64.wrap ((q : Int) * (m : Int))) = ((r % m : Nat) : Int) := by
  refine wrap_of ?_
  rw [u64_mul_nat, IntKind.wrap_u64]
  generalize q * m = p at *
  generalize r % m = k at *
  omega

/-- math/bits.Div64, where the quotient fits: the quotient and the rest. -/
theorem div64_any (hi lo y : Nat) (w : World) (h1 : hi < y) (l1 : lo < 18446744073709551616) (y1 : y < 18446744073709551616) :
    Calls Try.prog 42 #[.int .u64 hi, .int .u64 lo, .int .u64 y] w fun e w' =>
      e = .returned (.tuple #[.int .u64 (((hi * 18446744073709551616 + lo) / y : Nat) : Int), .int .u64 (((hi * 18446744073709551616 + lo) % y : Nat) : Int)]) ∧ ∃ n, w' = w.drewN n := by
  by_cases hp : hi = 0
  · subst hp
    refine (div64_lo lo y w (by omega) (by omega) (by omega) (by omega)).mono ?_
    rintro e w' ⟨rfl, hw⟩
    exact ⟨by rw [Nat.zero_mul, Nat.zero_add]; rfl, hw⟩
  · obtain ⟨Y, yn1, yn0, r, u, un1, un0, Z⟩ := laid_out hi lo y h1 l1 y1
    have N := Z.n
    have p1 : 0 < yn1 := by have := N.half; omega
    have hd1 : un1 < 4294967296 := by have := Z.u1; have := Z.hu; omega
    have hd0 : un0 < 4294967296 := by have := Z.u0; omega
    have L0 := lrel_start (d := un1) N hd1 Z.rY
    have hr2 : (r * 4294967296 + un1) % Y < Y := Nat.mod_lt _ N.pos
    have L2 := lrel_start (d := un0) N hd0 hr2
    have hend := laid_end Z (by omega)
    have Y1 := Z.Y1
    have rY := Z.rY
    refine (div64_hi hi lo y Y yn1 yn0 r u un1 un0 (r / yn1) (r % yn1) ((r * 4294967296 + un1) / Y) ((r * 4294967296 + un1) % Y) ((r * 4294967296 + un1) % Y / yn1) ((r * 4294967296 + un1) % Y % yn1)
      (((r * 4294967296 + un1) % Y * 4294967296 + un0) / Y) (((r * 4294967296 + un1) % Y * 4294967296 + un0) % Y) ((hi * 18446744073709551616 + lo) / y) ((hi * 18446744073709551616 + lo) % y) w (by omega) h1 (by omega) (by omega)
      ?_ ?_ ?_ ?_ ?_ ?_ ?_ ?_ ?_ ?_ ?_ ?_ N Z.rY hd1 hd0 L0 rfl ?_ ?_ ?_ ?_ ?_ hr2 L2 rfl ?_ ?_ ?_).mono ?_
    · refine wrap_of ?_
      have t := Z.eY
      rw [show (y : Int) * 2 ^ (64 - Lib.bitLen y) = ((y * 2 ^ (64 - Lib.bitLen y) : Nat) : Int) by simp, t]; omega
    · have := Z.e1; omega
    · omega
    · rw [and_low32 _ (by omega) (by omega)]; have := Z.e0; omega
    · have t := Z.eor
      have t1 := Z.h1
      have t2 : IntKind.u64.wrap (↑hi * 2 ^ (64 - Lib.bitLen y)) = ((hi * 2 ^ (64 - Lib.bitLen y) : Nat) : Int) := by
        refine wrap_of ?_
        rw [show (hi : Int) * 2 ^ (64 - Lib.bitLen y) = ((hi * 2 ^ (64 - Lib.bitLen y) : Nat) : Int) by simp]; omega
      have t3 : (lo : Int) / 2 ^ (64 - (64 - Lib.bitLen y)) = ((lo / 2 ^ (64 - (64 - Lib.bitLen y)) : Nat) : Int) := by simp
      rw [t2, t3, u64_or_nat _ _ t1 (Nat.lt_of_le_of_lt (Nat.div_le_self _ _) l1), t]
    · omega
    · refine wrap_of ?_
      have t := Z.eu
      rw [show (lo : Int) * 2 ^ (64 - Lib.bitLen y) = ((lo * 2 ^ (64 - Lib.bitLen y) : Nat) : Int) by simp]; omega
    · have := Z.u1; omega
    · rw [and_low32 _ (by omega) (by have := Z.hu; omega)]; have := Z.u0; omega
    · simp
    · have := L0.2.2.2; omega
    · exact rem_wrap r (r / yn1) yn1 (by omega) L0.1
    · refine wrap_of ?_
      exact (rest_wrap Y1 rY _ rfl _ _ _ (by rw [IntKind.wrap_u64, IntKind.wrap_u64]; omega) (by rw [u64_mul_nat, IntKind.wrap_u64]; omega) rfl)
    · omega
    · simp
    · have := L2.2.2.2; omega
    · exact rem_wrap _ _ yn1 (by omega) L2.1
    · rw [hend.1]
      exact quo_wrap _ _ (quo_small hd1 rY) (quo_small hd0 hr2)
    · refine wrap_of ?_
      exact (rest_wrap Y1 hr2 _ rfl _ _ _ (by rw [IntKind.wrap_u64, IntKind.wrap_u64]; omega) (by rw [u64_mul_nat, IntKind.wrap_u64]; omega) rfl)
    · rw [hend.2]; simp
    · rintro e w' ⟨rfl, rfl⟩
      exact ⟨rfl, 0, rfl⟩
end Go.Proofs.Ytghpjmihlgfeaaa
