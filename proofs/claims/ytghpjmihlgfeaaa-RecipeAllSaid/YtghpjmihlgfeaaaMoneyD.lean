/- The walks of the laws MoneyAdds, MoneyErrs, MoneyBack. -/
import Derived.Test.YtghpjmihlgfeaaaMoneyC
import Derived.Outline
import Derived.Deep.DeepCutAuto
namespace Go.Proofs.Ytghpjmihlgfeaaa
open Go.RowKit

theorem errU16 (e : Int) (h : e = 0 ∨ e = 1 ∨ e = 30 ∨ e = 31) : 0 ≤ e ∧ e ≤ 31 := by omega
theorem addE_b (a b : Int) : 0 ≤ addE a b ∧ addE a b ≤ 31 := by unfold addE; split <;> omega
theorem subE_b (a b : Int) : 0 ≤ subE a b ∧ subE a b ≤ 31 := by unfold subE; split <;> (try split) <;> omega
theorem timesE_b (a b : Int) : 0 ≤ timesE a b ∧ timesE a b ≤ 31 := by unfold timesE; split <;> omega
theorem partE_b (n a b : Int) : 0 ≤ partE n a b ∧ partE n a b ≤ 31 := by unfold partE; split <;> (try split) <;> omega

set_option maxHeartbeats 400000 in
theorem moneyAdds_walk (a b : Int) (w : World) (a0 : 0 ≤ a) (b0 : 0 ≤ b) (a1 : a ≤ 18446744073709551615) :
    Calls Try.prog 9 #[.int .u64 a, .int .u64 b] w fun e w' => e = .returned (.bool true) ∧ Below w.heap.size w w' := by
  obtain ⟨p1, p2⟩ := addE_b a b
  obtain ⟨p3, p4⟩ := subE_b a b
  go_enter Try.func9, Try.ntmps9
  go_wp2_with fail
  refine (add_any _ _ _ a0 b0).mono ?_
  rintro e w1 ⟨rfl, k1⟩
  go_wp2_with fail
  refine (refAdd_any _ _ _ a0 b0).mono ?_
  rintro e w2 ⟨rfl, rfl⟩
  go_wp2_with fail
  refine (sub_any _ _ _ a0 b0 a1).mono ?_
  rintro e w2 ⟨rfl, k2⟩
  go_wp2_with fail
  refine (refSub_any _ _ _ a0 b0 a1).mono ?_
  rintro e w3 ⟨rfl, rfl⟩
  go_wp2_with fail
  refine (moneyKnown_any _).mono ?_
  rintro e w3 ⟨rfl, k3⟩
  go_wp2_with fail
  go_ret
  exact ⟨rfl, below_trans k1 (below_trans k2 k3)⟩

theorem add_ok {a b : Int} (h1 : a ≤ 4611686018427387904) (h2 : b ≤ 4611686018427387904) (h : a + b ≤ 4611686018427387904) : addV a b = a + b ∧ addE a b = 0 := by
  unfold addV addE; rw [if_neg (by omega), if_neg (by omega)]; exact ⟨rfl, rfl⟩
theorem add_no {a b : Int} (h : 4611686018427387904 < a ∨ 4611686018427387904 < b ∨ 4611686018427387904 < a + b) : addV a b = 0 ∧ addE a b = 30 := by
  unfold addV addE; rw [if_pos h, if_pos h]; exact ⟨rfl, rfl⟩
theorem sub_ok {a b : Int} (h1 : a ≤ 4611686018427387904) (h2 : b ≤ a) : subV a b = a - b ∧ subE a b = 0 := by
  unfold subV subE; rw [if_neg (by omega), if_neg (by omega), if_neg (by omega)]; exact ⟨rfl, rfl⟩
theorem sub_great {a b : Int} (h : 4611686018427387904 < a ∨ 4611686018427387904 < b) : subV a b = 0 ∧ subE a b = 30 := by
  unfold subV subE; rw [if_pos (by omega), if_pos (by omega)]; exact ⟨rfl, rfl⟩
theorem sub_less {a b : Int} (h1 : a ≤ 4611686018427387904) (h2 : b ≤ 4611686018427387904) (h : a < b) : subV a b = 0 ∧ subE a b = 31 := by
  unfold subV subE; rw [if_pos (by omega), if_neg (by omega), if_pos (by omega)]; exact ⟨rfl, rfl⟩
theorem sub_not {a b : Int} (h : a < b) : (subE a b != 0) = true := by
  unfold subE; split <;> simp
theorem times_ok {a n : Int} (h1 : a ≤ 4611686018427387904) (h : a * n ≤ 4611686018427387904) : timesV a n = a * n ∧ timesE a n = 0 := by
  unfold timesV timesE; rw [if_neg (by omega), if_neg (by omega)]; exact ⟨rfl, rfl⟩
theorem times_no {a n : Int} (h : 4611686018427387904 < a ∨ 4611686018427387904 < a * n) : timesV a n = 0 ∧ timesE a n = 30 := by
  unfold timesV timesE; rw [if_pos h, if_pos h]; exact ⟨rfl, rfl⟩

set_option maxHeartbeats 400000 in
theorem moneyBack_walk (a b : Int) (w : World) (a0 : 0 ≤ a) (b0 : 0 ≤ b) :
    Calls Try.prog 10 #[.int .u64 a, .int .u64 b] w fun e w' => e = .returned (.bool true) ∧ Below w.heap.size w w' := by
  by_cases h : 4611686018427387904 < a ∨ 4611686018427387904 < b ∨ 4611686018427387904 < a + b
  · obtain ⟨e1, e2⟩ := add_no h
    clear h
    go_enter Try.func10, Try.ntmps10
    go_wp2_with fail
    refine (add_any _ _ _ a0 b0).mono ?_
    rintro e w1 ⟨rfl, k1⟩
    go_wp2_with fail
    refine (moneyKnown_any _).mono ?_
    rintro e w2 ⟨rfl, k2⟩
    go_wp2_with fail
    go_ret
    exact ⟨rfl, below_trans k1 k2⟩
  · have h1 : a + b ≤ 4611686018427387904 := by omega
    clear h
    obtain ⟨e1, e2⟩ := add_ok (a := a) (b := b) (by omega) (by omega) (by omega)
    obtain ⟨e3, e4⟩ := sub_ok (a := a + b) (b := b) (by omega) (by omega)
    obtain ⟨e5, e6⟩ := sub_ok (a := a + b) (b := a) (by omega) (by omega)
    have e7 := sub_not (a := a) (b := a + b + 1) (by omega)
    obtain ⟨e8, e9⟩ := add_ok (a := b) (b := a) (by omega) (by omega) (by omega)
    rw [show a + b - b = a by omega] at e3
    rw [show a + b - a = b by omega] at e5
    rw [show b + a = a + b by omega] at e8
    go_enter Try.func10, Try.ntmps10
    go_wp2_with fail
    refine (add_any _ _ _ a0 b0).mono ?_
    rintro e w1 ⟨rfl, k1⟩
    go_wp2_with fail
    refine (sub_any _ _ _ (by omega) (by omega) (by omega)).mono ?_
    rintro e w2 ⟨rfl, k2⟩
    go_wp2_with fail
    refine (sub_any _ _ _ (by omega) (by omega) (by omega)).mono ?_
    rintro e w3 ⟨rfl, k3⟩
    go_wp2_with fail
    refine (sub_any _ _ _ (by omega) (by omega) (by omega)).mono ?_
    rintro e w4 ⟨rfl, k4⟩
    go_wp2_with fail
    refine (add_any _ _ _ (by omega) (by omega)).mono ?_
    rintro e w5 ⟨rfl, k5⟩
    go_wp2_with fail
    refine (moneyKnown_any _).mono ?_
    rintro e w6 ⟨rfl, k6⟩
    go_wp2_with fail
    go_ret
    exact ⟨rfl, below_trans k1 (below_trans k2 (below_trans k3 (below_trans k4 (below_trans k5 k6))))⟩

/-- MoneyErrs with what the three calls answer as it comes out. -/
theorem errs_times (a n : Int) (a0 : 0 ≤ a) (h1 : a ≤ 4611686018427387904) :
    (a = 0 ∧ timesV a n = 0 ∧ timesE a n = 0) ∨ (0 < a ∧ n ≤ 4611686018427387904 / a ∧ timesE a n = 0) ∨ (0 < a ∧ 4611686018427387904 / a < n ∧ timesV a n = 0 ∧ timesE a n = 30) := by
  by_cases h : a = 0
  · subst h
    have := times_ok (a := 0) (n := n) (by omega) (by rw [Int.zero_mul]; omega)
    rw [Int.zero_mul] at this
    exact .inl ⟨rfl, this.1, this.2⟩
  · have hp : 0 < a := by omega
    have t := times_test a n hp
    by_cases h3 : 4611686018427387904 / a < n
    · exact .inr (.inr ⟨hp, h3, times_no (.inr (t.2 h3))⟩)
    · exact .inr (.inl ⟨hp, by omega, (times_ok h1 (by have : ¬ 4611686018427387904 < a * n := fun h => h3 (t.1 h); omega)).2⟩)

set_option maxRecDepth 100000 in
set_option maxHeartbeats 1000000 in
theorem moneyErrs_walk (a b n : Int) (w : World) (a0 : 0 ≤ a) (b0 : 0 ≤ b) (n0 : 0 ≤ n) (a1 : a ≤ 18446744073709551615) (n1 : n ≤ 18446744073709551615) :
    Calls Try.prog 13 #[.int .u64 a, .int .u64 b, .int .u64 n] w fun e w' => e = .returned (.bool true) ∧ Below w.heap.size w w' := by
  obtain ⟨g, hg⟩ : ∃ g : Bool, g = decide (4611686018427387904 < a ∨ 4611686018427387904 < b) := ⟨_, rfl⟩
  have G := Lib.hid hg
  clear hg
  obtain ⟨av, ae, hA⟩ : ∃ x y, addV a b = x ∧ addE a b = y := ⟨_, _, rfl, rfl⟩
  obtain ⟨sv, se, hS⟩ : ∃ x y, subV a b = x ∧ subE a b = y := ⟨_, _, rfl, rfl⟩
  obtain ⟨tv, te, hT⟩ : ∃ x y, timesV a n = x ∧ timesE a n = y := ⟨_, _, rfl, rfl⟩
  have HA := Lib.hid hA
  have HS := Lib.hid hS
  have HT := Lib.hid hT
  clear hA hS hT
  go_enter Try.func13, Try.ntmps13
  go_wp2_with fail
  refine (add_any _ _ _ a0 b0).mono ?_
  rintro e w1 ⟨rfl, k1⟩
  rw [HA.out.1, HA.out.2]
  go_wp2_with fail
  refine (sub_any _ _ _ a0 b0 a1).mono ?_
  rintro e w2 ⟨rfl, k2⟩
  rw [HS.out.1, HS.out.2]
  go_wp2_with fail
  refine (times_any _ _ _ a0 n0 n1).mono ?_
  rintro e w3 ⟨rfl, k3⟩
  rw [HT.out.1, HT.out.2]
  go_upto_region 4 with fail
  go_cut [13] (fun s wx => s = .bool g ∧ wx = w3)
  case first =>
    have G1 := G.out
    clear G
    by_cases h1 : 4611686018427387904 < a
    · have G2 : Hid (g = true) := Lib.hid (by rw [G1]; simp [h1])
      clear G1
      go_wp2_with fail
      go_meet
      case rel => exact ⟨by rw [G2.out], rfl⟩
    · by_cases h2 : 4611686018427387904 < b
      · have G2 : Hid (g = true) := Lib.hid (by rw [G1]; simp [h2])
        clear G1
        go_wp2_with fail
        go_meet
        case rel => exact ⟨by rw [G2.out], rfl⟩
      · have G2 : Hid (g = false) := Lib.hid (by rw [G1]; simp; omega)
        clear G1
        go_wp2_with fail
        go_meet
        case rel => exact ⟨by rw [G2.out], rfl⟩
  case rest =>
    obtain ⟨rfl, rfl⟩ := hcut
    go_upto_region 5 with fail
    go_cut [14] (fun s wx => s = .bool true ∧ wx = wc)
    case first =>
      have G1 := G.out
      clear G
      cases g
      · have G2 := of_decide_eq_false G1.symm
        clear G1
        have h1 : a ≤ 4611686018427387904 := by omega
        have h2 : b ≤ 4611686018427387904 := by omega
        clear G2
        by_cases h3 : a ≤ 4611686018427387904 - b
        · obtain ⟨e1, e2⟩ := add_ok h1 h2 (by omega)
          obtain rfl : ae = 0 := HA.out.2.symm.trans e2
          clear e1 e2
          go_wp2_with fail
          go_meet
          case rel => exact ⟨rfl, rfl⟩
        · obtain ⟨e1, e2⟩ := add_no (a := a) (b := b) (by omega)
          obtain rfl : av = 0 := HA.out.1.symm.trans e1
          obtain rfl : ae = 30 := HA.out.2.symm.trans e2
          clear e1 e2
          go_wp2_with fail
          go_meet
          case rel => exact ⟨rfl, rfl⟩
      · have G2 := of_decide_eq_true G1.symm
        obtain ⟨e1, e2⟩ := add_no (a := a) (b := b) (by omega)
        obtain rfl : av = 0 := HA.out.1.symm.trans e1
        obtain rfl : ae = 30 := HA.out.2.symm.trans e2
        clear e1 e2 G1 G2
        go_wp2_with fail
        go_meet
        case rel => exact ⟨rfl, rfl⟩
    case rest =>
      obtain ⟨rfl, rfl⟩ := hcut
      go_upto_region 6 with fail
      go_cut [15] (fun s wx => s = .bool true ∧ wx = wc)
      case first =>
        have G1 := G.out
        clear G
        cases g
        · have G2 := of_decide_eq_false G1.symm
          clear G1
          have h1 : a ≤ 4611686018427387904 := by omega
          have h2 : b ≤ 4611686018427387904 := by omega
          clear G2
          by_cases h3 : b ≤ a
          · obtain ⟨e1, e2⟩ := sub_ok h1 h3
            obtain rfl : se = 0 := HS.out.2.symm.trans e2
            clear e1 e2
            go_wp2_with fail
            go_meet
            case rel => exact ⟨rfl, rfl⟩
          · obtain ⟨e1, e2⟩ := sub_less (a := a) (b := b) h1 h2 (by omega)
            obtain rfl : sv = 0 := HS.out.1.symm.trans e1
            obtain rfl : se = 31 := HS.out.2.symm.trans e2
            clear e1 e2
            go_wp2_with fail
            go_meet
            case rel => exact ⟨rfl, rfl⟩
        · have G2 := of_decide_eq_true G1.symm
          obtain ⟨e1, e2⟩ := sub_great (a := a) (b := b) (by omega)
          obtain rfl : sv = 0 := HS.out.1.symm.trans e1
          obtain rfl : se = 30 := HS.out.2.symm.trans e2
          clear e1 e2 G1 G2
          go_wp2_with fail
          go_meet
          case rel => exact ⟨rfl, rfl⟩
      case rest =>
        obtain ⟨rfl, rfl⟩ := hcut
        clear G
        go_upto_region 7 with fail
        go_cut [16] (fun s wx => s = .bool true ∧ wx = wc)
        case first =>
          by_cases h1 : a ≤ 4611686018427387904
          · rcases errs_times a n a0 h1 with ⟨rfl, e1, e2⟩ | ⟨h2, h3, e2⟩ | ⟨h2, h3, e1, e2⟩
            · obtain rfl : te = 0 := HT.out.2.symm.trans e2
              clear e1 e2
              go_wp2_with fail
              go_meet
              case rel => exact ⟨rfl, rfl⟩
            · have h4 : (a == 0) = false := by simp; omega
              obtain rfl : te = 0 := HT.out.2.symm.trans e2
              clear e2
              go_wp2_with fail
              go_meet
              case rel => exact ⟨rfl, rfl⟩
            · have h4 : (a == 0) = false := by simp; omega
              have h5 : ¬ n ≤ 4611686018427387904 / a := by omega
              obtain rfl : tv = 0 := HT.out.1.symm.trans e1
              obtain rfl : te = 30 := HT.out.2.symm.trans e2
              clear e1 e2
              go_wp2_with fail
              go_meet
              case rel => exact ⟨rfl, rfl⟩
          · obtain ⟨e1, e2⟩ := times_no (a := a) (n := n) (by omega)
            obtain rfl : tv = 0 := HT.out.1.symm.trans e1
            obtain rfl : te = 30 := HT.out.2.symm.trans e2
            clear e1 e2
            go_wp2_with fail
            go_meet
            case rel => exact ⟨rfl, rfl⟩
        case rest =>
          obtain ⟨rfl, rfl⟩ := hcut
          go_wp2_with fail
          refine (moneyKnown_any _).mono ?_
          rintro e w6 ⟨rfl, k6⟩
          go_wp2_with fail
          go_ret
          exact ⟨rfl, below_trans k1 (below_trans k2 (below_trans k3 k6))⟩
end Go.Proofs.Ytghpjmihlgfeaaa
