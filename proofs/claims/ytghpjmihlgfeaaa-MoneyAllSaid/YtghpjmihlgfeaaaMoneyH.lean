/- The walk of the law MoneySums. -/
import Derived.Test.YtghpjmihlgfeaaaMoneyG
namespace Go.Proofs.Ytghpjmihlgfeaaa
open Go.RowKit

theorem all_at (a : Option Addr) (l : List Int) (len cap : Nat) (w : World) (hl : len = l.length) (hr : RowU w a l) (hm : l.length ≤ 9223372036854775807) :
    Calls Try.prog 31 #[.slice a len cap] w fun e w' => e = .returned (.tuple #[.int .u64 (allV l), .int .u16 (allE l)]) ∧ Below w.heap.size w w' := by
  subst hl; exact all_any a l cap w hr hm

set_option maxRecDepth 100000 in
set_option maxHeartbeats 400000 in
theorem moneySums_long (a : Option Addr) (len cap : Nat) (k : Int) (w : World) (h : 500 < len) :
    Calls Try.prog 12 #[.slice a len cap, .int .i64 k] w fun e w' => e = .returned (.bool true) ∧ Below w.heap.size w w' := by
  have h1 : (500 : Int) < len := by omega
  go_enter Try.func12, Try.ntmps12
  go_wp2_with fail
  refine (moneyKnown_any _).mono ?_
  rintro e w1 ⟨rfl, k1⟩
  go_wp2_with fail
  go_ret
  exact ⟨rfl, k1⟩

set_option maxRecDepth 100000 in
set_option maxHeartbeats 400000 in
theorem moneySums_some (b off : Nat) (l : List Int) (cap : Nat) (k : Int) (w : World) (hr : RowU w (some ⟨b, off, none⟩) l) (hm : l.length ≤ 500) (hcap : l.length ≤ cap) (hcm : cap ≤ 9223372036854775807) (k0 : -9223372036854775808 ≤ k) (k1 : k ≤ 9223372036854775807) :
    Calls Try.prog 12 #[.slice (some ⟨b, off, none⟩) l.length cap, .int .i64 k] w fun e w' => e = .returned (.bool true) ∧ Below w.heap.size w w' := by
  have h1 : (l.length : Int) ≤ 500 := by omega
  obtain ⟨m, hmx⟩ : ∃ m, max k 0 = m := ⟨_, rfl⟩
  have m0 : 0 ≤ m := by omega
  obtain ⟨n, hn⟩ : ∃ n : Nat, m % ((l.length : Int) + 1) = n := ⟨(m % ((l.length : Int) + 1)).toNat, by have := Int.emod_nonneg m (show (l.length : Int) + 1 ≠ 0 by omega); omega⟩
  have hnl : n ≤ l.length := by have := Int.emod_lt_of_pos m (show 0 < (l.length : Int) + 1 by omega); omega
  have m1 : m ≤ 9223372036854775807 := by omega
  have HR := Lib.hid hr
  have HN := Lib.hid (sums_parts l n fun x hx => (hr.1 x hx).1)
  clear hr
  go_enter Try.func12, Try.ntmps12
  go_wp2_with fail
  refine (moneyKnown_any _).mono ?_
  rintro e w1 ⟨rfl, b1⟩
  go_wp2_with fail
  refine (all_any _ _ _ _ (HR.out.below b1) (by omega)).mono ?_
  rintro e w2 ⟨rfl, b2⟩
  have B2 := below_trans b1 b2
  go_wp2_with fail
  refine (all_at _ (l.take n) _ _ _ (by rw [List.length_take]; omega) ((HR.out.below B2).take n) (by rw [List.length_take]; omega)).mono ?_
  rintro e w3 ⟨rfl, b3⟩
  have B3 := below_trans B2 b3
  by_cases hnc : n = cap
  · have H0 : Hid (l.drop n = []) := Lib.hid (List.drop_eq_nil_of_le (by omega))
    have hnn : l.length = n := by omega
    have H1 := Lib.hid hnn
    subst hnc
    clear hnn
    go_wp2_with fail
    refine (all_at _ [] _ _ _ (by have := H1.out; simp) ⟨by simp, .inl rfl⟩ (by simp)).mono ?_
    rintro e w4 ⟨rfl, b4⟩
    have B4 := below_trans B3 b4
    rw [← H0.out]
    rcases HN.out with ⟨e1, e2, e3⟩ | ⟨e1, e2, e3, e4⟩ | ⟨e1, e2, e3, e4, p1, p2⟩
    · go_wp2_with fail
      go_ret
      exact ⟨rfl, B4⟩
    · go_wp2_with fail
      go_ret
      exact ⟨rfl, B4⟩
    · go_wp2_with fail
      refine (add_any _ _ _ p1 p2).mono ?_
      rintro e w5 ⟨rfl, b5⟩
      go_wp2_with fail
      go_ret
      exact ⟨rfl, below_trans B4 b5⟩
  · have hnc2 : n < cap := by omega
    clear hnc
    go_wp2_with fail
    refine (all_at _ (l.drop n) _ _ _ (by rw [List.length_drop]) ((HR.out.below B3).drop n) (by rw [List.length_drop]; omega)).mono ?_
    rintro e w4 ⟨rfl, b4⟩
    have B4 := below_trans B3 b4
    rcases HN.out with ⟨e1, e2, e3⟩ | ⟨e1, e2, e3, e4⟩ | ⟨e1, e2, e3, e4, p1, p2⟩
    · go_wp2_with fail
      go_ret
      exact ⟨rfl, B4⟩
    · go_wp2_with fail
      go_ret
      exact ⟨rfl, B4⟩
    · go_wp2_with fail
      refine (add_any _ _ _ p1 p2).mono ?_
      rintro e w5 ⟨rfl, b5⟩
      go_wp2_with fail
      go_ret
      exact ⟨rfl, below_trans B4 b5⟩

set_option maxRecDepth 100000 in
set_option maxHeartbeats 400000 in
theorem moneySums_nil (k : Int) (w : World) (k0 : -9223372036854775808 ≤ k) (k1 : k ≤ 9223372036854775807) :
    Calls Try.prog 12 #[.slice none 0 0, .int .i64 k] w fun e w' => e = .returned (.bool true) ∧ Below w.heap.size w w' := by
  obtain ⟨m, hmx⟩ : ∃ m, max k 0 = m := ⟨_, rfl⟩
  have m0 : 0 ≤ m := by omega
  have m1 : m ≤ 9223372036854775807 := by omega
  have hn : m % 1 = 0 := by omega
  have v1 : allV [] = 0 := by decide
  have v2 : allE [] = 0 := by decide
  have v3 : addV 0 0 = 0 := by decide
  have v4 : addE 0 0 = 0 := by decide
  go_enter Try.func12, Try.ntmps12
  go_wp2_with fail
  refine (moneyKnown_any _).mono ?_
  rintro e w1 ⟨rfl, b1⟩
  go_wp2_with fail
  refine (all_at _ [] _ _ _ rfl ⟨by simp, .inl rfl⟩ (by simp)).mono ?_
  rintro e w2 ⟨rfl, b2⟩
  go_wp2_with fail
  refine (all_at _ [] _ _ _ rfl ⟨by simp, .inl rfl⟩ (by simp)).mono ?_
  rintro e w3 ⟨rfl, b3⟩
  go_wp2_with fail
  refine (all_at _ [] _ _ _ rfl ⟨by simp, .inl rfl⟩ (by simp)).mono ?_
  rintro e w4 ⟨rfl, b4⟩
  go_wp2_with fail
  refine (add_any _ _ _ (by omega) (by omega)).mono ?_
  rintro e w5 ⟨rfl, b5⟩
  go_wp2_with fail
  go_ret
  exact ⟨rfl, below_trans b1 (below_trans b2 (below_trans b3 (below_trans b4 b5)))⟩

set_option maxRecDepth 100000 in
set_option maxHeartbeats 400000 in
theorem moneySums_empty (x : Addr) (k : Int) (w : World) (k0 : -9223372036854775808 ≤ k) (k1 : k ≤ 9223372036854775807) :
    Calls Try.prog 12 #[.slice (some x) 0 0, .int .i64 k] w fun e w' => e = .returned (.bool true) ∧ Below w.heap.size w w' := by
  obtain ⟨m, hmx⟩ : ∃ m, max k 0 = m := ⟨_, rfl⟩
  have m0 : 0 ≤ m := by omega
  have m1 : m ≤ 9223372036854775807 := by omega
  have hn : m % 1 = 0 := by omega
  have v1 : allV [] = 0 := by decide
  have v2 : allE [] = 0 := by decide
  have v3 : addV 0 0 = 0 := by decide
  have v4 : addE 0 0 = 0 := by decide
  go_enter Try.func12, Try.ntmps12
  go_wp2_with fail
  refine (moneyKnown_any _).mono ?_
  rintro e w1 ⟨rfl, b1⟩
  go_wp2_with fail
  refine (all_at _ [] _ _ _ rfl ⟨by simp, .inl rfl⟩ (by simp)).mono ?_
  rintro e w2 ⟨rfl, b2⟩
  go_wp2_with fail
  refine (all_at _ [] _ _ _ rfl ⟨by simp, .inl rfl⟩ (by simp)).mono ?_
  rintro e w3 ⟨rfl, b3⟩
  go_wp2_with fail
  refine (all_at _ [] _ _ _ rfl ⟨by simp, .inl rfl⟩ (by simp)).mono ?_
  rintro e w4 ⟨rfl, b4⟩
  go_wp2_with fail
  refine (add_any _ _ _ (by omega) (by omega)).mono ?_
  rintro e w5 ⟨rfl, b5⟩
  go_wp2_with fail
  go_ret
  exact ⟨rfl, below_trans b1 (below_trans b2 (below_trans b3 (below_trans b4 b5)))⟩

theorem addr_add (b off i : Nat) : Addr.add ⟨b, off, none⟩ i = ⟨b, off + i, none⟩ := by
  by_cases h : i = 0
  · subst h; simp [Addr.add]
  · simp [Addr.add, h]

/-- A row of u64 that came in, as amounts. -/
theorem rowU_of (x : Addr) (len cap : Nat) (zs : List Int) (w : World) (hl : len ≤ cap) (hz : zs.length = cap) (hcell : ∀ i, i < zs.length → w.cell? (x.add i) = some (.int .u64 (zs.getD i 0)))
    (hwz : ∀ n ∈ zs, 0 ≤ n ∧ n ≤ 18446744073709551615) : RowU w (some x) (zs.take len) ∧ (zs.take len).length = len ∧ (0 < cap → ∃ b off, x = ⟨b, off, none⟩) := by
  have hlen : (zs.take len).length = len := by rw [List.length_take]; omega
  obtain ⟨b, off, spot⟩ := x
  refine ⟨⟨fun x hx => hwz x (List.mem_of_mem_take hx), ?_⟩, hlen, ?_⟩
  · by_cases h0 : len = 0
    · exact .inl (by rw [h0]; rfl)
    · have hc := hcell 0 (by omega)
      obtain rfl : spot = none := by simpa [Addr.add] using World.cell?_spot hc
      refine .inr ⟨b, off, rfl, fun i hi => ?_⟩
      rw [hlen] at hi
      have := hcell i (by omega)
      rw [addr_add] at this
      rw [List.getD_eq_getElem?_getD, List.getElem?_take_of_lt hi, ← List.getD_eq_getElem?_getD]
      exact this
  · intro h0
    have hc := hcell 0 (by omega)
    obtain rfl : spot = none := by simpa [Addr.add] using World.cell?_spot hc
    exact ⟨b, off, rfl⟩
end Go.Proofs.Ytghpjmihlgfeaaa
