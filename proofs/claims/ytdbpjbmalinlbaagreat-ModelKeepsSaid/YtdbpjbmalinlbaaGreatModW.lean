/- Contracts of the law's own change and crafted (printed by modw.py). -/
import Derived.Test.YtdbpjbmalinlbaaGreatModV
import Derived.Test.YtdbpjbmalinlbaaGreatRecq
import Derived.Test.YtdbpjbmalinlbaaGreatModO
namespace Go.Proofs.YtdbpjbmalinlbaaGreat
open Go.RowKit

def chC (o : OpV) : Int × Int := if o.kind = 2 then (o.n, 0) else if o.kind = 3 then (0, o.n) else (0, 0)
def chI (o : OpV) (it : Int) : Int × Int := if o.kind = 4 ∧ o.what = it ∧ 0 < it then (o.n, 0) else if o.kind = 5 ∧ o.what = it ∧ 0 < it then (0, o.n) else (0, 0)

set_option maxRecDepth 100000 in
set_option maxHeartbeats 8000000 in
theorem change_w (o : OpV) (it : Int) (w : World) :
    Calls Tryz.prog 9 #[.agg #[.int .u8 o.kind, .int .u32 o.who, .int .u32 o.whom, .int .u32 o.what, .int .u32 o.id, .int .u64 o.n, .int .u64 o.price], .int .u32 it] w fun e w' =>
      e = .returned (.tuple #[.agg #[.int .u64 (chC o).1, .int .u64 (chC o).2], .agg #[.int .u64 (chI o it).1, .int .u64 (chI o it).2]]) ∧ Below w.heap.size w w' := by
  have hk : o.kind = 2 ∨ o.kind = 3 ∨ o.kind = 4 ∨ o.kind = 5 ∨ (¬ o.kind = 2 ∧ ¬ o.kind = 3 ∧ ¬ o.kind = 4 ∧ ¬ o.kind = 5) := by omega
  have hs : (o.what = it ∧ 0 < it) ∨ (o.what = it ∧ ¬ 0 < it) ∨ ¬ o.what = it := by omega
  rcases hk with hk | hk | hk | hk | ⟨hk, h3, h4, h5⟩ <;> rcases hs with ⟨hw, hz⟩ | ⟨hw, hz⟩ | hw
  · have e1 : chC o = (o.n, 0) := by simp [chC, hk]
    have e2 : chI o it = (0, 0) := by simp [chI, hk, hw, hz]
    rw [e1, e2]
    clear e1 e2
    go_enter Tryz.func9, Tryz.ntmps9
    go_wp2_with fail
    go_region_with (fail)
    all_goals (
      go_wp2_with fail
      exact bodyPost_ret (v := .tuple #[.agg #[.int .u64 o.n, .int .u64 0], .agg #[.int .u64 0, .int .u64 0]]) (by simp [results, Tryz.results9, go_sem]; try rfl) rfl ⟨rfl, (((((below_alloc w _).alloc (by simp) _).alloc (by simp; omega) _).alloc (by simp; omega) _).alloc (by simp; omega) _).drew⟩)
  · have e1 : chC o = (o.n, 0) := by simp [chC, hk]
    have e2 : chI o it = (0, 0) := by simp [chI, hk, hw, hz]
    rw [e1, e2]
    clear e1 e2
    go_enter Tryz.func9, Tryz.ntmps9
    go_wp2_with fail
    go_region_with (fail)
    all_goals (
      go_wp2_with fail
      exact bodyPost_ret (v := .tuple #[.agg #[.int .u64 o.n, .int .u64 0], .agg #[.int .u64 0, .int .u64 0]]) (by simp [results, Tryz.results9, go_sem]; try rfl) rfl ⟨rfl, (((((below_alloc w _).alloc (by simp) _).alloc (by simp; omega) _).alloc (by simp; omega) _).alloc (by simp; omega) _).drew⟩)
  · have e1 : chC o = (o.n, 0) := by simp [chC, hk]
    have e2 : chI o it = (0, 0) := by simp [chI, hk, hw]
    rw [e1, e2]
    clear e1 e2
    go_enter Tryz.func9, Tryz.ntmps9
    go_wp2_with fail
    go_region_with (fail)
    all_goals (
      go_wp2_with fail
      exact bodyPost_ret (v := .tuple #[.agg #[.int .u64 o.n, .int .u64 0], .agg #[.int .u64 0, .int .u64 0]]) (by simp [results, Tryz.results9, go_sem]; try rfl) rfl ⟨rfl, (((((below_alloc w _).alloc (by simp) _).alloc (by simp; omega) _).alloc (by simp; omega) _).alloc (by simp; omega) _).drew⟩)
  · have e1 : chC o = (0, o.n) := by simp [chC, hk]
    have e2 : chI o it = (0, 0) := by simp [chI, hk, hw, hz]
    rw [e1, e2]
    clear e1 e2
    go_enter Tryz.func9, Tryz.ntmps9
    go_wp2_with fail
    go_region_with (fail)
    all_goals (
      go_wp2_with fail
      exact bodyPost_ret (v := .tuple #[.agg #[.int .u64 0, .int .u64 o.n], .agg #[.int .u64 0, .int .u64 0]]) (by simp [results, Tryz.results9, go_sem]; try rfl) rfl ⟨rfl, (((((below_alloc w _).alloc (by simp) _).alloc (by simp; omega) _).alloc (by simp; omega) _).alloc (by simp; omega) _).drew⟩)
  · have e1 : chC o = (0, o.n) := by simp [chC, hk]
    have e2 : chI o it = (0, 0) := by simp [chI, hk, hw, hz]
    rw [e1, e2]
    clear e1 e2
    go_enter Tryz.func9, Tryz.ntmps9
    go_wp2_with fail
    go_region_with (fail)
    all_goals (
      go_wp2_with fail
      exact bodyPost_ret (v := .tuple #[.agg #[.int .u64 0, .int .u64 o.n], .agg #[.int .u64 0, .int .u64 0]]) (by simp [results, Tryz.results9, go_sem]; try rfl) rfl ⟨rfl, (((((below_alloc w _).alloc (by simp) _).alloc (by simp; omega) _).alloc (by simp; omega) _).alloc (by simp; omega) _).drew⟩)
  · have e1 : chC o = (0, o.n) := by simp [chC, hk]
    have e2 : chI o it = (0, 0) := by simp [chI, hk, hw]
    rw [e1, e2]
    clear e1 e2
    go_enter Tryz.func9, Tryz.ntmps9
    go_wp2_with fail
    go_region_with (fail)
    all_goals (
      go_wp2_with fail
      exact bodyPost_ret (v := .tuple #[.agg #[.int .u64 0, .int .u64 o.n], .agg #[.int .u64 0, .int .u64 0]]) (by simp [results, Tryz.results9, go_sem]; try rfl) rfl ⟨rfl, (((((below_alloc w _).alloc (by simp) _).alloc (by simp; omega) _).alloc (by simp; omega) _).alloc (by simp; omega) _).drew⟩)
  · have e1 : chC o = (0, 0) := by simp [chC, hk]
    have e2 : chI o it = (o.n, 0) := by simp [chI, hk, hw, hz]
    rw [e1, e2]
    clear e1 e2
    go_enter Tryz.func9, Tryz.ntmps9
    go_wp2_with fail
    go_region_with (fail)
    all_goals (
      go_wp2_with fail
      exact bodyPost_ret (v := .tuple #[.agg #[.int .u64 0, .int .u64 0], .agg #[.int .u64 o.n, .int .u64 0]]) (by simp [results, Tryz.results9, go_sem]; try rfl) rfl ⟨rfl, (((((below_alloc w _).alloc (by simp) _).alloc (by simp; omega) _).alloc (by simp; omega) _).alloc (by simp; omega) _).drew⟩)
  · have e1 : chC o = (0, 0) := by simp [chC, hk]
    have e2 : chI o it = (0, 0) := by simp [chI, hk, hw, hz]
    rw [e1, e2]
    clear e1 e2
    go_enter Tryz.func9, Tryz.ntmps9
    go_wp2_with fail
    go_region_with (fail)
    all_goals (
      go_wp2_with fail
      exact bodyPost_ret (v := .tuple #[.agg #[.int .u64 0, .int .u64 0], .agg #[.int .u64 0, .int .u64 0]]) (by simp [results, Tryz.results9, go_sem]; try rfl) rfl ⟨rfl, (((((below_alloc w _).alloc (by simp) _).alloc (by simp; omega) _).alloc (by simp; omega) _).alloc (by simp; omega) _).drew⟩)
  · have e1 : chC o = (0, 0) := by simp [chC, hk]
    have e2 : chI o it = (0, 0) := by simp [chI, hk, hw]
    rw [e1, e2]
    clear e1 e2
    go_enter Tryz.func9, Tryz.ntmps9
    go_wp2_with fail
    go_region_with (fail)
    all_goals (
      go_wp2_with fail
      exact bodyPost_ret (v := .tuple #[.agg #[.int .u64 0, .int .u64 0], .agg #[.int .u64 0, .int .u64 0]]) (by simp [results, Tryz.results9, go_sem]; try rfl) rfl ⟨rfl, (((((below_alloc w _).alloc (by simp) _).alloc (by simp; omega) _).alloc (by simp; omega) _).alloc (by simp; omega) _).drew⟩)
  · have e1 : chC o = (0, 0) := by simp [chC, hk]
    have e2 : chI o it = (0, o.n) := by simp [chI, hk, hw, hz]
    rw [e1, e2]
    clear e1 e2
    go_enter Tryz.func9, Tryz.ntmps9
    go_wp2_with fail
    go_region_with (fail)
    all_goals (
      go_wp2_with fail
      exact bodyPost_ret (v := .tuple #[.agg #[.int .u64 0, .int .u64 0], .agg #[.int .u64 0, .int .u64 o.n]]) (by simp [results, Tryz.results9, go_sem]; try rfl) rfl ⟨rfl, (((((below_alloc w _).alloc (by simp) _).alloc (by simp; omega) _).alloc (by simp; omega) _).alloc (by simp; omega) _).drew⟩)
  · have e1 : chC o = (0, 0) := by simp [chC, hk]
    have e2 : chI o it = (0, 0) := by simp [chI, hk, hw, hz]
    rw [e1, e2]
    clear e1 e2
    go_enter Tryz.func9, Tryz.ntmps9
    go_wp2_with fail
    go_region_with (fail)
    all_goals (
      go_wp2_with fail
      exact bodyPost_ret (v := .tuple #[.agg #[.int .u64 0, .int .u64 0], .agg #[.int .u64 0, .int .u64 0]]) (by simp [results, Tryz.results9, go_sem]; try rfl) rfl ⟨rfl, (((((below_alloc w _).alloc (by simp) _).alloc (by simp; omega) _).alloc (by simp; omega) _).alloc (by simp; omega) _).drew⟩)
  · have e1 : chC o = (0, 0) := by simp [chC, hk]
    have e2 : chI o it = (0, 0) := by simp [chI, hk, hw]
    rw [e1, e2]
    clear e1 e2
    go_enter Tryz.func9, Tryz.ntmps9
    go_wp2_with fail
    go_region_with (fail)
    all_goals (
      go_wp2_with fail
      exact bodyPost_ret (v := .tuple #[.agg #[.int .u64 0, .int .u64 0], .agg #[.int .u64 0, .int .u64 0]]) (by simp [results, Tryz.results9, go_sem]; try rfl) rfl ⟨rfl, (((((below_alloc w _).alloc (by simp) _).alloc (by simp; omega) _).alloc (by simp; omega) _).alloc (by simp; omega) _).drew⟩)
  · have e1 : chC o = (0, 0) := by simp [chC, hk, h3]
    have e2 : chI o it = (0, 0) := by simp [chI, hw, hz, h4, h5]
    rw [e1, e2]
    clear e1 e2
    go_enter Tryz.func9, Tryz.ntmps9
    go_wp2_with fail
    go_region_with (fail)
    all_goals (
      go_wp2_with fail
      exact bodyPost_ret (v := .tuple #[.agg #[.int .u64 0, .int .u64 0], .agg #[.int .u64 0, .int .u64 0]]) (by simp [results, Tryz.results9, go_sem]; try rfl) rfl ⟨rfl, (((((below_alloc w _).alloc (by simp) _).alloc (by simp; omega) _).alloc (by simp; omega) _).alloc (by simp; omega) _).drew⟩)
  · have e1 : chC o = (0, 0) := by simp [chC, hk, h3]
    have e2 : chI o it = (0, 0) := by simp [chI, hw, hz, h4, h5]
    rw [e1, e2]
    clear e1 e2
    go_enter Tryz.func9, Tryz.ntmps9
    go_wp2_with fail
    go_region_with (fail)
    all_goals (
      go_wp2_with fail
      exact bodyPost_ret (v := .tuple #[.agg #[.int .u64 0, .int .u64 0], .agg #[.int .u64 0, .int .u64 0]]) (by simp [results, Tryz.results9, go_sem]; try rfl) rfl ⟨rfl, (((((below_alloc w _).alloc (by simp) _).alloc (by simp; omega) _).alloc (by simp; omega) _).alloc (by simp; omega) _).drew⟩)
  · have e1 : chC o = (0, 0) := by simp [chC, hk, h3]
    have e2 : chI o it = (0, 0) := by simp [chI, hw, h4, h5]
    rw [e1, e2]
    clear e1 e2
    go_enter Tryz.func9, Tryz.ntmps9
    go_wp2_with fail
    go_region_with (fail)
    all_goals (
      go_wp2_with fail
      exact bodyPost_ret (v := .tuple #[.agg #[.int .u64 0, .int .u64 0], .agg #[.int .u64 0, .int .u64 0]]) (by simp [results, Tryz.results9, go_sem]; try rfl) rfl ⟨rfl, (((((below_alloc w _).alloc (by simp) _).alloc (by simp; omega) _).alloc (by simp; omega) _).alloc (by simp; omega) _).drew⟩)
theorem crafted_w (id n item : Int) (w : World) :
    Calls Tryz.prog 10 #[.int .u32 id, .int .u64 n, .int .u32 item] w fun e w' => e = .returned (.tuple #[.int .u64 (cnt (needsI id n) item), .int .u64 (cnt (needsO id n) item)]) ∧ Below w.heap.size w w' := by
  go_enter Tryz.func10, Tryz.ntmps10
  go_wp2_with fail
  refine (refChange_any _ _ _ _).mono ?_
  rintro e w1 ⟨rfl, B⟩
  go_wp2_with fail
  go_ret2
  exact ⟨rfl, B⟩
end Go.Proofs.YtdbpjbmalinlbaaGreat
