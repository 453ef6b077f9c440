/- Contracts of package money's small functions: great, amount, Add, Sub. -/
import Derived.Test.YtdbpjbmalinlbaaGreatRows
import Derived.WalkKit
import Derived.WalkSpells
import Derived.WalkLawsBesides
import Derived.Lib.Hide
namespace Go.Proofs.YtdbpjbmalinlbaaGreat
open Go.RowKit

theorem ret_bool {a b : Bool} (h : a = b) : Ending.returned (.bool a) = .returned (.bool b) := by rw [h]

theorem ret_two {j k : IntKind} {a b c d : Int} (h : a = c) (g : b = d) : Ending.returned (.tuple #[.int j a, .int k b]) = .returned (.tuple #[.int j c, .int k d]) := by rw [h, g]
/-- More than 2^62. -/
def tooGreat (a : Int) : Bool := decide (4611686018427387904 < a)
def anyGreat (l : List Int) : Bool := l.any tooGreat

theorem tooGreat_yes {a : Int} (h : 4611686018427387904 < a) : tooGreat a = true := by simp [tooGreat, h]
theorem tooGreat_no {a : Int} (h : a ≤ 4611686018427387904) : tooGreat a = false := by simp [tooGreat]; omega
theorem anyGreat_snoc (l : List Int) (a : Int) : anyGreat (l ++ [a]) = (anyGreat l || tooGreat a) := by simp [anyGreat]
theorem anyGreat_take (l : List Int) (k n : Nat) (h : anyGreat (l.take k) = true) (hk : k ≤ n) : anyGreat (l.take n) = true := by
  unfold anyGreat at *
  rw [List.any_eq_true] at *
  obtain ⟨x, hx, hg⟩ := h
  exact ⟨x, List.mem_of_mem_take (by rw [List.take_take, Nat.min_eq_left hk]; exact hx : x ∈ (l.take n).take k), hg⟩
theorem anyGreat_succ (l : List Int) (k : Nat) (h : k < l.length) : anyGreat (l.take (k + 1)) = (anyGreat (l.take k) || tooGreat (l[k]?.getD 0)) := by
  rw [List.take_succ_eq_append_getElem h, anyGreat_snoc, List.getElem?_eq_getElem h]; rfl

theorem great_hit (l : List Int) (k n : Nat) (h : k < l.length) (hk : k < n) (hg : 4611686018427387904 < l[k]?.getD 0) : anyGreat (l.take n) = true :=
  anyGreat_take l (k + 1) n (by rw [anyGreat_succ l k h, tooGreat_yes hg, Bool.or_true]) hk
theorem great_miss (l : List Int) (k : Nat) (h : k < l.length) (h0 : anyGreat (l.take k) = false) (hg : l[k]?.getD 0 ≤ 4611686018427387904) : anyGreat (l.take (k + 1)) = false := by
  rw [anyGreat_succ l k h, h0, tooGreat_no hg]; rfl

set_option maxHeartbeats 400000 in
theorem great_any (b off len cap : Nat) (zs : List Int) (w : World) (hlen : len ≤ zs.length) (hm : len ≤ 9223372036854775807)
    (hc : ∀ i, i < len → w.cell? ⟨b, off + i, none⟩ = some (.int .u64 (zs.getD i 0))) :
    Calls Tryz.prog 66 #[.slice (some ⟨b, off, none⟩) len cap] w fun e w' => e = .returned (.bool (anyGreat (zs.take len))) ∧ w = w' := by
  go_enter Tryz.func66, Tryz.ntmps66
  go_wp2
  go_loop [7] (fun i => ∃ k : Nat, k ≤ len ∧ i = .int .i64 k ∧ anyGreat (zs.take k) = false) (fun i => len - (intOf i).toNat)
  case atStart => exact ⟨0, Nat.zero_le _, rfl, rfl⟩
  case round =>
    obtain ⟨k, hk, rfl, hg⟩ := hrel
    have Hg := Lib.hid hg
    clear hg
    by_cases hlt : k < len
    · have hcell := hc k hlt
      clear hc
      go_wp2
      · go_ret
        exact ⟨ret_bool (great_hit zs k len (by omega) hlt (by assumption)).symm, rfl⟩
      · go_round
        case rel => exact ⟨k + 1, by omega, by go_num, great_miss zs k (by omega) Hg.out (by assumption)⟩
        case measure => simp [intOf]; omega
    · obtain rfl : k = len := by omega
      go_wp2
      go_ret
      exact ⟨ret_bool Hg.out.symm, rfl⟩

def amountV (h l : Int) : Int := if h ≠ 0 ∨ 4611686018427387904 < l then 0 else l
def amountE (h l : Int) : Int := if h ≠ 0 ∨ 4611686018427387904 < l then 30 else 0
set_option maxHeartbeats 400000 in
theorem amount_any (h l : Int) (w : World) :
    Calls Tryz.prog 67 #[.int .u64 h, .int .u64 l] w fun e w' => e = .returned (.tuple #[.int .u64 (amountV h l), .int .u16 (amountE h l)]) ∧ w = w' := by
  by_cases h0 : h = 0
  · subst h0
    by_cases h1 : 4611686018427387904 < l
    · go_enter Tryz.func67, Tryz.ntmps67
      go_wp2
      go_ret2
      exact ⟨by simp [amountV, amountE, h1], rfl⟩
    · have h2 : l ≤ 4611686018427387904 := by omega
      have e1 : Hid (amountV 0 l = l) := Lib.hid (by unfold amountV; rw [if_neg (by omega)])
      have e2 : Hid (amountE 0 l = 0) := Lib.hid (by unfold amountE; rw [if_neg (by omega)])
      go_enter Tryz.func67, Tryz.ntmps67
      go_wp2
      go_ret2
      exact ⟨ret_two e1.out.symm e2.out.symm, rfl⟩
  · have hn : (h != 0) = true := by rw [bne_iff_ne]; exact h0
    go_enter Tryz.func67, Tryz.ntmps67
    go_wp2
    go_ret2
    exact ⟨by simp [amountV, amountE, h0], rfl⟩

/-- Two amounts as 'great' is handed them: a new row of two. -/
theorem cells_two (w : World) (a b : Int) (t : TypeId) : ∀ i, i < 2 → (w.alloc (.cells #[.int .u64 a, .int .u64 b] t)).cell? ⟨w.heap.size, 0 + i, none⟩ = some (.int .u64 ([a, b].getD i 0)) := by
  intro i hi
  match i, hi with
  | 0, _ => simp [go_sem]
  | 1, _ => simp [go_sem]

def addV (a b : Int) : Int := if 4611686018427387904 < a ∨ 4611686018427387904 < b ∨ 4611686018427387904 < a + b then 0 else a + b
def addE (a b : Int) : Int := if 4611686018427387904 < a ∨ 4611686018427387904 < b ∨ 4611686018427387904 < a + b then 30 else 0
def subV (a b : Int) : Int := if 4611686018427387904 < a ∨ 4611686018427387904 < b ∨ a < b then 0 else a - b
def subE (a b : Int) : Int := if 4611686018427387904 < a ∨ 4611686018427387904 < b then 30 else if a < b then 31 else 0

theorem anyGreat_two (a b : Int) : anyGreat (List.take 2 [a, b]) = (tooGreat a || tooGreat b) := by simp [anyGreat]

set_option maxHeartbeats 400000 in
theorem add_any (a b : Int) (w : World) (a0 : 0 ≤ a) (b0 : 0 ≤ b) :
    Calls Tryz.prog 46 #[.int .u64 a, .int .u64 b] w fun e w' => e = .returned (.tuple #[.int .u64 (addV a b), .int .u16 (addE a b)]) ∧ Below w.heap.size w w' := by
  by_cases h : 4611686018427387904 < a ∨ 4611686018427387904 < b
  · have hg : Hid ((tooGreat a || tooGreat b) = true) := Lib.hid (by rcases h with h | h <;> simp [tooGreat, h])
    have e1 : Hid (addV a b = 0) := Lib.hid (by unfold addV; rw [if_pos (by omega)])
    have e2 : Hid (addE a b = 30) := Lib.hid (by unfold addE; rw [if_pos (by omega)])
    clear h
    go_enter Tryz.func46, Tryz.ntmps46
    go_wp2_with fail
    refine (great_any _ 0 2 2 [a, b] _ (by simp) (by omega) (cells_two _ _ _ _)).mono ?_
    rintro e w' ⟨rfl, rfl⟩
    rw [anyGreat_two, hg.out]
    go_wp2_with fail
    go_ret2
    exact ⟨ret_two e1.out.symm e2.out.symm, (Below.refl _ _).alloc (Nat.le_refl _) _⟩
  · have hg : Hid ((tooGreat a || tooGreat b) = false) := Lib.hid (by rw [tooGreat_no (by omega), tooGreat_no (by omega)]; rfl)
    have e1 : Hid (amountV 0 (a + b) = addV a b) := Lib.hid (by unfold amountV addV; by_cases h2 : 4611686018427387904 < a + b <;> simp [h2] <;> omega)
    have e2 : Hid (amountE 0 (a + b) = addE a b) := Lib.hid (by unfold amountE addE; by_cases h2 : 4611686018427387904 < a + b <;> simp [h2] <;> omega)
    have h1 : a ≤ 4611686018427387904 := by omega
    have h2 : b ≤ 4611686018427387904 := by omega
    clear h
    go_enter Tryz.func46, Tryz.ntmps46
    go_wp2_with fail
    refine (great_any _ 0 2 2 [a, b] _ (by simp) (by omega) (cells_two _ _ _ _)).mono ?_
    rintro e w' ⟨rfl, rfl⟩
    rw [anyGreat_two, hg.out]
    go_wp2_with fail
    refine (amount_any _ _ _).mono ?_
    rintro e w' ⟨rfl, rfl⟩
    go_wp2_with fail
    go_ret2
    exact ⟨ret_two e1.out e2.out, (Below.refl _ _).alloc (Nat.le_refl _) _⟩

set_option maxHeartbeats 400000 in
theorem sub_any (a b : Int) (w : World) (a0 : 0 ≤ a) (b0 : 0 ≤ b) (a1 : a ≤ 18446744073709551615) :
    Calls Tryz.prog 99 #[.int .u64 a, .int .u64 b] w fun e w' => e = .returned (.tuple #[.int .u64 (subV a b), .int .u16 (subE a b)]) ∧ Below w.heap.size w w' := by
  by_cases h : 4611686018427387904 < a ∨ 4611686018427387904 < b
  · have hg : Hid ((tooGreat a || tooGreat b) = true) := Lib.hid (by rcases h with h | h <;> simp [tooGreat, h])
    have e1 : Hid (subV a b = 0) := Lib.hid (by unfold subV; rw [if_pos (by omega)])
    have e2 : Hid (subE a b = 30) := Lib.hid (by unfold subE; rw [if_pos (by omega)])
    clear h
    go_enter Tryz.func99, Tryz.ntmps99
    go_wp2_with fail
    refine (great_any _ 0 2 2 [a, b] _ (by simp) (by omega) (cells_two _ _ _ _)).mono ?_
    rintro e w' ⟨rfl, rfl⟩
    rw [anyGreat_two, hg.out]
    go_wp2_with fail
    go_ret2
    exact ⟨ret_two e1.out.symm e2.out.symm, (Below.refl _ _).alloc (Nat.le_refl _) _⟩
  · have hg : Hid ((tooGreat a || tooGreat b) = false) := Lib.hid (by rw [tooGreat_no (by omega), tooGreat_no (by omega)]; rfl)
    by_cases h3 : a < b
    · have e1 : Hid (subV a b = 0) := Lib.hid (by unfold subV; rw [if_pos (by omega)])
      have e2 : Hid (subE a b = 31) := Lib.hid (by unfold subE; rw [if_neg (by omega), if_pos (by omega)])
      clear h
      go_enter Tryz.func99, Tryz.ntmps99
      go_wp2_with fail
      refine (great_any _ 0 2 2 [a, b] _ (by simp) (by omega) (cells_two _ _ _ _)).mono ?_
      rintro e w' ⟨rfl, rfl⟩
      rw [anyGreat_two, hg.out]
      go_wp2_with fail
      go_ret2
      exact ⟨ret_two e1.out.symm e2.out.symm, (Below.refl _ _).alloc (Nat.le_refl _) _⟩
    · have e1 : Hid (subV a b = a - b) := Lib.hid (by unfold subV; rw [if_neg (by omega)])
      have e2 : Hid (subE a b = 0) := Lib.hid (by unfold subE; rw [if_neg (by omega), if_neg (by omega)])
      have h4 : b ≤ a := by omega
      clear h h3
      go_enter Tryz.func99, Tryz.ntmps99
      go_wp2_with fail
      refine (great_any _ 0 2 2 [a, b] _ (by simp) (by omega) (cells_two _ _ _ _)).mono ?_
      rintro e w' ⟨rfl, rfl⟩
      rw [anyGreat_two, hg.out]
      go_wp2_with fail
      go_ret2
      exact ⟨ret_two e1.out.symm e2.out.symm, (Below.refl _ _).alloc (Nat.le_refl _) _⟩
end Go.Proofs.YtdbpjbmalinlbaaGreat
