/- Contracts of more, less. -/
import Derived.Test.YtdbpjbmalinlbaaGreatRulC
namespace Go.Proofs.YtdbpjbmalinlbaaGreat
open Go.RowKit

def moreT (a n : Int) : T Int := if addE a n = 0 then .done (addV a n) else .over (addE a n)
def lessE (a n : Int) : Int := if subE a n = 31 then 215 else subE a n
def lessT (a n : Int) : T Int := if subE a n = 0 then .done (subV a n) else .over (lessE a n)
/-- An amount. -/
def U64 (a : Int) : Prop := 0 ≤ a ∧ a ≤ 18446744073709551615
theorem addV_u {a b : Int} (a0 : 0 ≤ a) (b0 : 0 ≤ b) : 0 ≤ addV a b ∧ addV a b ≤ 4611686018427387904 := by unfold addV; split <;> omega
theorem subV_u {a b : Int} (b0 : 0 ≤ b) : 0 ≤ subV a b ∧ subV a b ≤ 4611686018427387904 := by unfold subV; split <;> omega

set_option maxHeartbeats 400000 in
theorem more_yes (a b : Int) (w : World) (ha : U64 a) (hb : U64 b) (h : addE a b = 0) :
    Calls Tryz.prog 77 #[.int .u64 a, .int .u64 b] w fun e w' => e = .returned (.int .u64 (addV a b)) ∧ Below w.heap.size w w' := by
  go_enter Tryz.func77, Tryz.ntmps77
  go_wp2_with fail
  refine (add_any a b _ ha.1 hb.1).mono ?_
  rintro e w1 ⟨rfl, B⟩
  rw [h]
  go_wp2_with fail
  refine (check_yes _ _).mono ?_
  rintro e w2 ⟨rfl, rfl⟩
  go_wp2_with fail
  go_ret
  exact ⟨rfl, B⟩

set_option maxHeartbeats 400000 in
theorem more_no (a b : Int) (w : World) (ha : U64 a) (hb : U64 b) (h : addE a b = 30) :
    Calls Tryz.prog 77 #[.int .u64 a, .int .u64 b] w fun e w' => e = overP 30 ∧ Below w.heap.size w w' := by
  go_enter Tryz.func77, Tryz.ntmps77
  go_wp2_with fail
  refine (add_any a b _ ha.1 hb.1).mono ?_
  rintro e w1 ⟨rfl, B⟩
  rw [h]
  go_wp2_with fail
  refine (check_no _ _).mono ?_
  rintro e w2 ⟨rfl, rfl⟩
  go_wp2_with fail
  exact ⟨rfl, rfl, B⟩

set_option maxHeartbeats 400000 in
theorem less_yes (a b : Int) (w : World) (ha : U64 a) (hb : U64 b) (h : subE a b = 0) :
    Calls Tryz.prog 78 #[.int .u64 a, .int .u64 b] w fun e w' => e = .returned (.int .u64 (subV a b)) ∧ Below w.heap.size w w' := by
  go_enter Tryz.func78, Tryz.ntmps78
  go_wp2_with fail
  refine (sub_any a b _ ha.1 hb.1 ha.2).mono ?_
  rintro e w1 ⟨rfl, B⟩
  rw [h]
  go_wp2_with fail
  refine (check_yes _ _).mono ?_
  rintro e w2 ⟨rfl, rfl⟩
  go_wp2_with fail
  go_ret
  exact ⟨rfl, B⟩
set_option maxHeartbeats 400000 in
theorem less_no30 (a b : Int) (w : World) (ha : U64 a) (hb : U64 b) (h : subE a b = 30) :
    Calls Tryz.prog 78 #[.int .u64 a, .int .u64 b] w fun e w' => e = overP 30 ∧ Below w.heap.size w w' := by
  go_enter Tryz.func78, Tryz.ntmps78
  go_wp2_with fail
  refine (sub_any a b _ ha.1 hb.1 ha.2).mono ?_
  rintro e w1 ⟨rfl, B⟩
  rw [h]
  go_wp2_with fail
  refine (check_no _ _).mono ?_
  rintro e w2 ⟨rfl, rfl⟩
  go_wp2_with fail
  exact ⟨rfl, rfl, B⟩
set_option maxHeartbeats 400000 in
theorem less_no31 (a b : Int) (w : World) (ha : U64 a) (hb : U64 b) (h : subE a b = 31) :
    Calls Tryz.prog 78 #[.int .u64 a, .int .u64 b] w fun e w' => e = overP 215 ∧ Below w.heap.size w w' := by
  go_enter Tryz.func78, Tryz.ntmps78
  go_wp2_with fail
  refine (sub_any a b _ ha.1 hb.1 ha.2).mono ?_
  rintro e w1 ⟨rfl, B⟩
  rw [h]
  go_wp2_with fail
  refine (check_no _ _).mono ?_
  rintro e w2 ⟨rfl, rfl⟩
  go_wp2_with fail
  exact ⟨rfl, rfl, B⟩

/-- How a plain call ends: it tells an amount up to 2^62, or fails. -/
def Out (t : T Int) (e : Ending) : Prop :=
  (∃ v, Hid (t = .done v) ∧ e = .returned (.int .u64 v) ∧ 0 ≤ v ∧ v ≤ 4611686018427387904) ∨ (∃ c, Hid (t = .over c) ∧ e = overP c)
theorem more_any (a b : Int) (w : World) (ha : U64 a) (hb : U64 b) :
    Calls Tryz.prog 77 #[.int .u64 a, .int .u64 b] w fun e w' => Out (moreT a b) e ∧ Below w.heap.size w w' := by
  by_cases h : addE a b = 0
  · exact (more_yes a b w ha hb h).mono fun e w' ⟨he, B⟩ => ⟨.inl ⟨_, Lib.hid (by unfold moreT; rw [if_pos h]), he, addV_u ha.1 hb.1⟩, B⟩
  · have h3 : addE a b = 30 := by unfold addE at h ⊢; split at h <;> simp_all
    exact (more_no a b w ha hb h3).mono fun e w' ⟨he, B⟩ => ⟨.inr ⟨_, Lib.hid (by unfold moreT; rw [if_neg h, h3]), he⟩, B⟩
theorem less_any (a b : Int) (w : World) (ha : U64 a) (hb : U64 b) :
    Calls Tryz.prog 78 #[.int .u64 a, .int .u64 b] w fun e w' => Out (lessT a b) e ∧ Below w.heap.size w w' := by
  by_cases h : subE a b = 0
  · exact (less_yes a b w ha hb h).mono fun e w' ⟨he, B⟩ => ⟨.inl ⟨_, Lib.hid (by unfold lessT; rw [if_pos h]), he, subV_u hb.1⟩, B⟩
  · by_cases h1 : subE a b = 31
    · exact (less_no31 a b w ha hb h1).mono fun e w' ⟨he, B⟩ => ⟨.inr ⟨_, Lib.hid (by unfold lessT lessE; rw [if_neg h, if_pos h1]), he⟩, B⟩
    · have h3 : subE a b = 30 := by unfold subE at h h1 ⊢; split at h <;> simp_all
      exact (less_no30 a b w ha hb h3).mono fun e w' ⟨he, B⟩ => ⟨.inr ⟨_, Lib.hid (by unfold lessT lessE; rw [if_neg h, h3, if_neg (by decide)]), he⟩, B⟩
end Go.Proofs.YtdbpjbmalinlbaaGreat
