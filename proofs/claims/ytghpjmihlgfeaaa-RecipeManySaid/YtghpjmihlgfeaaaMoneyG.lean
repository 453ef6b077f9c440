/- Contracts of All and of the reference's All; the walks of the laws MoneyTimes, MoneyAll, MoneySums. -/
import Derived.Test.YtghpjmihlgfeaaaMoneyF
namespace Go.Proofs.Ytghpjmihlgfeaaa
open Go.RowKit

theorem refPart_zero (n a : Int) (w : World) :
    Calls Try.prog 25 #[.int .u64 n, .int .u64 a, .int .u64 0] w fun e w' => e = .returned (.tuple #[.int .u64 (partV n a 0), .int .i64 (partE n a 0)]) ∧ ∃ j, w' = w.drewN j := by
  have e1 : Hid (partV n a 0 = 0) := Lib.hid (by unfold partV; rw [if_pos (.inl rfl)])
  have e2 : Hid (partE n a 0 = 1) := Lib.hid (by unfold partE; rw [if_pos rfl])
  go_enter Try.func25, Try.ntmps25
  go_wp2_with fail
  go_ret2
  exact ⟨ret_two e1.out.symm e2.out.symm, 0, rfl⟩

theorem refPart_all (n a b : Int) (w : World) (a0 : 0 ≤ a) (n0 : 0 ≤ n) (b0 : 0 ≤ b) (n1 : n ≤ 18446744073709551615) (a1 : a ≤ 18446744073709551615) (b1 : b ≤ 18446744073709551615) :
    Calls Try.prog 25 #[.int .u64 n, .int .u64 a, .int .u64 b] w fun e w' => e = .returned (.tuple #[.int .u64 (partV n a b), .int .i64 (partE n a b)]) ∧ ∃ j, w' = w.drewN j := by
  by_cases h : b = 0
  · subst h; exact refPart_zero n a w
  · exact refPart_any n a b w a0 n0 (by omega) n1 a1 b1

set_option maxHeartbeats 400000 in
theorem moneyTimes_walk (n a b : Int) (w : World) (n0 : 0 ≤ n) (a0 : 0 ≤ a) (b0 : 0 ≤ b) (n1 : n ≤ 18446744073709551615) (a1 : a ≤ 18446744073709551615) (b1 : b ≤ 18446744073709551615) :
    Calls Try.prog 7 #[.int .u64 n, .int .u64 a, .int .u64 b] w fun e w' => e = .returned (.bool true) ∧ Below w.heap.size w w' := by
  obtain ⟨p1, p2⟩ := timesE_b a n
  obtain ⟨p3, p4⟩ := partE_b n a b
  go_enter Try.func7, Try.ntmps7
  go_wp2_with fail
  refine (times_any _ _ _ a0 n0 n1).mono ?_
  rintro e w1 ⟨rfl, k1⟩
  go_wp2_with fail
  refine (refTimes_any _ _ _ a0 n0).mono ?_
  rintro e w2 ⟨rfl, rfl⟩
  go_wp2_with fail
  refine (part_any _ _ _ _ a0 n0 b0 n1 a1 b1).mono ?_
  rintro e w2 ⟨rfl, k2⟩
  go_wp2_with fail
  refine (refPart_all _ _ _ _ a0 n0 b0 n1 a1 b1).mono ?_
  rintro e w3 ⟨rfl, j, rfl⟩
  go_wp2_with fail
  refine (moneyKnown_any _).mono ?_
  rintro e w3 ⟨rfl, k3⟩
  go_wp2_with fail
  go_ret
  exact ⟨rfl, below_trans k1 (below_trans k2 (below_trans (below_drewN (Below.refl _ _) j) k3))⟩

/-! ### All -/
def sumL (l : List Int) : Int := l.foldl (· + ·) 0
theorem foldl_add (l : List Int) (a : Int) : l.foldl (· + ·) a = a + sumL l := by
  unfold sumL
  induction l generalizing a with
  | nil => simp
  | cons x l ih => simp only [List.foldl_cons]; rw [ih, ih (0 + x)]; omega
theorem sumL_app (l m : List Int) : sumL (l ++ m) = sumL l + sumL m := by
  show (l ++ m).foldl (· + ·) 0 = _
  rw [List.foldl_append, foldl_add]; rfl
theorem sumL_nonneg (l : List Int) (h : ∀ x ∈ l, 0 ≤ x) : 0 ≤ sumL l := by
  induction l with
  | nil => simp [sumL]
  | cons x l ih =>
    have := sumL_app [x] l
    have h1 := ih fun y hy => h y (List.mem_cons_of_mem _ hy)
    have h2 := h x List.mem_cons_self
    have h3 : sumL [x] = x := by simp [sumL]
    rw [show [x] ++ l = x :: l from rfl] at this
    omega
theorem sumL_succ (l : List Int) (k : Nat) (h : k < l.length) : sumL (l.take (k + 1)) = sumL (l.take k) + l[k]?.getD 0 := by
  rw [List.take_succ_eq_append_getElem h, sumL_app, List.getElem?_eq_getElem h]; simp [sumL]
theorem sumL_take_le (l : List Int) (k : Nat) (h : ∀ x ∈ l, 0 ≤ x) : sumL (l.take k) ≤ sumL l := by
  have e := sumL_app (l.take k) (l.drop k)
  rw [List.take_append_drop] at e
  have := sumL_nonneg (l.drop k) fun x hx => h x (List.mem_of_mem_drop hx)
  omega

def allV (l : List Int) : Int := if 4611686018427387904 < sumL l then 0 else sumL l
def allE (l : List Int) : Int := if 4611686018427387904 < sumL l then 30 else 0

/-- A row of amounts in memory. -/
def RowU (w : World) (a : Option Addr) (l : List Int) : Prop :=
  (∀ x ∈ l, 0 ≤ x ∧ x ≤ 18446744073709551615) ∧ (l = [] ∨ ∃ b off, a = some ⟨b, off, none⟩ ∧ ∀ i, i < l.length → w.cell? ⟨b, off + i, none⟩ = some (.int .u64 (l.getD i 0)))

theorem RowU.below {w w' : World} {a : Option Addr} {l : List Int} (h : RowU w a l) (k : Below w.heap.size w w') : RowU w' a l := by
  refine ⟨h.1, ?_⟩
  rcases h.2 with h | ⟨b, off, ha, hc⟩
  · exact .inl h
  · exact .inr ⟨b, off, ha, fun i hi => by rw [k.cell (World.block_lt_of_cell? _ _ (hc i hi))]; exact hc i hi⟩

theorem getD_mem (l : List Int) (k : Nat) (h : k < l.length) : l[k]?.getD 0 ∈ l := by
  rw [List.getElem?_eq_getElem h]; exact List.getElem_mem h

set_option maxHeartbeats 400000 in
theorem all_any (a : Option Addr) (l : List Int) (cap : Nat) (w : World) (hr : RowU w a l) (hm : l.length ≤ 9223372036854775807) :
    Calls Try.prog 31 #[.slice a l.length cap] w fun e w' => e = .returned (.tuple #[.int .u64 (allV l), .int .u16 (allE l)]) ∧ Below w.heap.size w w' := by
  obtain ⟨hb, hc⟩ := hr
  have hnn : ∀ x ∈ l, 0 ≤ x := fun x hx => (hb x hx).1
  have HC := Lib.hid hc
  have HB := Lib.hid hb
  have HN := Lib.hid hnn
  clear hc hb hnn
  go_enter Try.func31, Try.ntmps31
  go_wp2_with fail
  go_loopw [4, 10] (fun s4 s10 wr => ∃ (k : Nat) (s : Int), k ≤ l.length ∧ s10 = .int .i64 k ∧ s4 = .int .u64 s ∧ s = sumL (l.take k) ∧ s ≤ 4611686018427387904 ∧ Below w.heap.size w wr) (fun _ s10 _ => l.length - (intOf s10).toNat)
  case atStart => exact ⟨0, 0, Nat.zero_le _, rfl, rfl, rfl, by omega, Below.refl _ _⟩
  case round =>
    obtain ⟨k, s, hk, rfl, rfl, hs, hg, B⟩ := hrel
    have s0 : 0 ≤ s := by rw [hs]; exact sumL_nonneg _ fun x hx => HN.out x (List.mem_of_mem_take hx)
    have HS := Lib.hid hs
    clear hs
    by_cases hlt : k < l.length
    · obtain ⟨x, hx⟩ : ∃ x, l[k]?.getD 0 = x := ⟨_, rfl⟩
      have hxb := HB.out _ (getD_mem l k hlt)
      have e1 := sumL_succ l k hlt
      rw [hx] at e1 hxb
      rw [← HS.out] at e1
      have E1 := Lib.hid e1
      have x0 := hxb.1
      have le := sumL_take_le l (k + 1) HN.out
      rw [e1] at le
      rcases HC.out with h | ⟨b, off, rfl, hc⟩
      · subst h; simp at hlt
      · have hcell : wr.cell? ⟨b, off + k, none⟩ = some (.int .u64 x) := by
          rw [B.cell (World.block_lt_of_cell? _ _ (hc k hlt)), hc k hlt, List.getD_eq_getElem?_getD, hx]
        have HX := Lib.hid hx
        clear hx hc e1 hxb
        by_cases hbig : s + x ≤ 4611686018427387904
        · obtain ⟨v1, v2⟩ := add_ok (a := s) (b := x) hg (by omega) hbig
          clear le
          go_wp2_with fail
          refine (add_any _ _ _ s0 x0).mono ?_
          rintro e w1 ⟨rfl, k1⟩
          go_wp2_with fail
          go_roundw
          case rel => exact ⟨k + 1, s + x, by omega, by go_num, rfl, E1.out.symm, hbig, below_trans B k1⟩
          case measure => simp [intOf]; omega
        · obtain ⟨v1, v2⟩ := add_no (a := s) (b := x) (by omega)
          have A1 : Hid (allV l = 0) := Lib.hid (by unfold allV; rw [if_pos (by omega)])
          have A2 : Hid (allE l = 30) := Lib.hid (by unfold allE; rw [if_pos (by omega)])
          clear le
          go_wp2_with fail
          refine (add_any _ _ _ s0 x0).mono ?_
          rintro e w1 ⟨rfl, k1⟩
          go_wp2_with fail
          go_ret2
          exact ⟨ret_two A1.out.symm A2.out.symm, below_trans B k1⟩
    · obtain rfl : k = l.length := by omega
      have A1 : Hid (allV l = s) := Lib.hid (by have := HS.out; rw [List.take_length] at this; unfold allV; rw [← this, if_neg (by omega)])
      have A2 : Hid (allE l = 0) := Lib.hid (by have := HS.out; rw [List.take_length] at this; unfold allE; rw [← this, if_neg (by omega)])
      go_wp2_with fail
      go_ret2
      exact ⟨ret_two A1.out.symm A2.out.symm, B⟩

set_option maxHeartbeats 400000 in
theorem refAll_any (a : Option Addr) (l : List Int) (cap : Nat) (w : World) (hr : RowU w a l) (hm : l.length ≤ 9223372036854775807) :
    Calls Try.prog 32 #[.slice a l.length cap] w fun e w' => e = .returned (.tuple #[.int .u64 (allV l), .int .i64 (allE l)]) ∧ w = w' := by
  obtain ⟨hb, hc⟩ := hr
  have hnn : ∀ x ∈ l, 0 ≤ x := fun x hx => (hb x hx).1
  have HC := Lib.hid hc
  have HB := Lib.hid hb
  have HN := Lib.hid hnn
  clear hc hb hnn
  go_enter Try.func32, Try.ntmps32
  go_wp2_with fail
  go_loop [4, 5] (fun s4 s10 => ∃ (k : Nat) (s : Int), k ≤ l.length ∧ s10 = .int .i64 k ∧ s4 = .int .u64 s ∧ s = sumL (l.take k) ∧ s ≤ 4611686018427387904) (fun _ s10 => l.length - (intOf s10).toNat)
  case atStart => exact ⟨0, 0, Nat.zero_le _, rfl, rfl, rfl, by omega⟩
  case round =>
    obtain ⟨k, s, hk, rfl, rfl, hs, hg⟩ := hrel
    have s0 : 0 ≤ s := by rw [hs]; exact sumL_nonneg _ fun x hx => HN.out x (List.mem_of_mem_take hx)
    have HS := Lib.hid hs
    clear hs
    by_cases hlt : k < l.length
    · obtain ⟨x, hx⟩ : ∃ x, l[k]?.getD 0 = x := ⟨_, rfl⟩
      have hxb := HB.out _ (getD_mem l k hlt)
      have e1 := sumL_succ l k hlt
      rw [hx] at e1 hxb
      rw [← HS.out] at e1
      have E1 := Lib.hid e1
      have x0 := hxb.1
      have le := sumL_take_le l (k + 1) HN.out
      rw [e1] at le
      rcases HC.out with h | ⟨b, off, rfl, hc⟩
      · subst h; simp at hlt
      · have hcell : w.cell? ⟨b, off + k, none⟩ = some (.int .u64 x) := by
          rw [hc k hlt, List.getD_eq_getElem?_getD, hx]
        have HX := Lib.hid hx
        clear hx hc e1 hxb
        by_cases hbig : s + x ≤ 4611686018427387904
        · obtain ⟨v1, v2⟩ := add_ok (a := s) (b := x) hg (by omega) hbig
          clear le
          go_wp2_with fail
          refine (refAdd_any _ _ _ s0 x0).mono ?_
          rintro e w1 ⟨rfl, rfl⟩
          go_wp2_with fail
          go_round
          case rel => exact ⟨k + 1, s + x, by omega, by go_num, rfl, E1.out.symm, hbig⟩
          case measure => simp [intOf]; omega
        · obtain ⟨v1, v2⟩ := add_no (a := s) (b := x) (by omega)
          have A1 : Hid (allV l = 0) := Lib.hid (by unfold allV; rw [if_pos (by omega)])
          have A2 : Hid (allE l = 30) := Lib.hid (by unfold allE; rw [if_pos (by omega)])
          clear le
          go_wp2_with fail
          refine (refAdd_any _ _ _ s0 x0).mono ?_
          rintro e w1 ⟨rfl, rfl⟩
          go_wp2_with fail
          go_ret2
          exact ⟨ret_two A1.out.symm A2.out.symm, rfl⟩
    · obtain rfl : k = l.length := by omega
      have A1 : Hid (allV l = s) := Lib.hid (by have := HS.out; rw [List.take_length] at this; unfold allV; rw [← this, if_neg (by omega)])
      have A2 : Hid (allE l = 0) := Lib.hid (by have := HS.out; rw [List.take_length] at this; unfold allE; rw [← this, if_neg (by omega)])
      go_wp2_with fail
      go_ret2
      exact ⟨ret_two A1.out.symm A2.out.symm, rfl⟩

theorem allE_b (l : List Int) : 0 ≤ allE l ∧ allE l ≤ 31 := by unfold allE; split <;> omega

set_option maxHeartbeats 400000 in
theorem moneyAll_walk (a : Option Addr) (l : List Int) (cap : Nat) (w : World) (hr : RowU w a l) (hm : l.length ≤ 9223372036854775807) :
    Calls Try.prog 11 #[.slice a l.length cap] w fun e w' => e = .returned (.bool true) ∧ Below w.heap.size w w' := by
  obtain ⟨p1, p2⟩ := allE_b l
  by_cases h : 1000 < l.length
  · have h1 : (1000 : Int) < l.length := by omega
    go_enter Try.func11, Try.ntmps11
    go_wp2_with fail
    go_ret
    exact ⟨rfl, Below.refl _ _⟩
  · have h1 : (l.length : Int) ≤ 1000 := by omega
    have HR := Lib.hid hr
    clear hr
    go_enter Try.func11, Try.ntmps11
    go_wp2_with fail
    refine (all_any _ _ _ _ HR.out hm).mono ?_
    rintro e w1 ⟨rfl, k1⟩
    go_wp2_with fail
    refine (refAll_any _ _ _ _ (HR.out.below k1) hm).mono ?_
    rintro e w2 ⟨rfl, rfl⟩
    go_wp2_with fail
    refine (moneyKnown_any _).mono ?_
    rintro e w2 ⟨rfl, k2⟩
    go_wp2_with fail
    go_ret
    exact ⟨rfl, below_trans k1 k2⟩

theorem RowU.take {w : World} {b off : Nat} {l : List Int} (hr : RowU w (some ⟨b, off, none⟩) l) (n : Nat) : RowU w (some ⟨b, off, none⟩) (l.take n) := by
  refine ⟨fun x hx => hr.1 x (List.mem_of_mem_take hx), ?_⟩
  rcases hr.2 with h | ⟨b', off', ha, hc⟩
  · exact .inl (by rw [h]; simp)
  · cases ha
    refine .inr ⟨_, _, rfl, fun i hi => ?_⟩
    rw [List.length_take] at hi
    rw [hc i (by omega), List.getD_eq_getElem?_getD, List.getD_eq_getElem?_getD, List.getElem?_take_of_lt (by omega)]
theorem RowU.drop {w : World} {b off : Nat} {l : List Int} (hr : RowU w (some ⟨b, off, none⟩) l) (n : Nat) : RowU w (some ⟨b, off + n, none⟩) (l.drop n) := by
  refine ⟨fun x hx => hr.1 x (List.mem_of_mem_drop hx), ?_⟩
  rcases hr.2 with h | ⟨b', off', ha, hc⟩
  · exact .inl (by rw [h]; simp)
  · cases ha
    refine .inr ⟨_, _, rfl, fun i hi => ?_⟩
    rw [List.length_drop] at hi
    have := hc (n + i) (by omega)
    rw [← Nat.add_assoc] at this
    rw [this, List.getD_eq_getElem?_getD, List.getD_eq_getElem?_getD, List.getElem?_drop]

/-- The whole and its two parts. -/
theorem sums_parts (l : List Int) (n : Nat) (h : ∀ x ∈ l, 0 ≤ x) :
    (allE (l.take n) = 30 ∧ allE l = 30 ∧ allV l = 0) ∨ (allE (l.take n) = 0 ∧ allE (l.drop n) = 30 ∧ allE l = 30 ∧ allV l = 0) ∨
    (allE (l.take n) = 0 ∧ allE (l.drop n) = 0 ∧ addV (allV (l.take n)) (allV (l.drop n)) = allV l ∧ addE (allV (l.take n)) (allV (l.drop n)) = allE l ∧ 0 ≤ allV (l.take n) ∧ 0 ≤ allV (l.drop n)) := by
  have e := sumL_app (l.take n) (l.drop n)
  rw [List.take_append_drop] at e
  have t0 := sumL_nonneg (l.take n) fun x hx => h x (List.mem_of_mem_take hx)
  have d0 := sumL_nonneg (l.drop n) fun x hx => h x (List.mem_of_mem_drop hx)
  unfold allE allV addV addE
  generalize sumL (l.take n) = a at *
  generalize sumL (l.drop n) = b at *
  generalize sumL l = c at *
  subst e
  by_cases h1 : 4611686018427387904 < a
  · refine .inl ⟨if_pos h1, ?_, ?_⟩ <;> rw [if_pos (by omega)]
  · by_cases h2 : 4611686018427387904 < b
    · refine .inr (.inl ⟨if_neg h1, if_pos h2, ?_, ?_⟩) <;> rw [if_pos (by omega)]
    · rw [if_neg h1, if_neg h2, if_neg h1, if_neg h2]
      refine .inr (.inr ⟨rfl, rfl, ?_, ?_, t0, d0⟩)
      · by_cases h3 : 4611686018427387904 < a + b
        · rw [if_pos (by omega), if_pos (by omega)]
        · rw [if_neg (by omega), if_neg (by omega)]
      · by_cases h3 : 4611686018427387904 < a + b
        · rw [if_pos (by omega), if_pos (by omega)]
        · rw [if_neg (by omega), if_neg (by omega)]
end Go.Proofs.Ytghpjmihlgfeaaa
