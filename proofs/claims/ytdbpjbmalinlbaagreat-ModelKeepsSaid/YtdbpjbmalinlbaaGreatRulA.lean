/- Contracts of package rule: keys, fail, check. -/
import Derived.Test.YtdbpjbmalinlbaaGreatRecp
import Derived.Outline
namespace Go.Proofs.YtdbpjbmalinlbaaGreat
open Go.RowKit

theorem below_alloc (w : World) (o : Obj) : Below w.heap.size w (w.alloc o) := (Below.refl _ _).alloc (Nat.le_refl _) o

/-- A key as a value. -/
def keyV (k : Int × Int × Int) : Value := .agg #[.int .u8 k.1, .int .u32 k.2.1, .int .u32 k.2.2]

set_option maxHeartbeats 400000 in
theorem fail_any (e : Int) (w : World) : Calls Tryz.prog 95 #[.int .u16 e] w fun x w' => x = .panicked [{ v := .iface 102 (.int .u16 e), recovered := false }] ∧ w = w' := by
  go_enter Tryz.func95, Tryz.ntmps95
  go_wp2
  exact ⟨rfl, rfl, rfl⟩

set_option maxHeartbeats 400000 in
theorem check_no (e : Int) (w : World) : Calls Tryz.prog 69 #[.bool false, .int .u16 e] w fun x w' => x = .panicked [{ v := .iface 102 (.int .u16 e), recovered := false }] ∧ w = w' := by
  go_enter Tryz.func69, Tryz.ntmps69
  go_wp2_with fail
  refine (fail_any _ _).mono ?_
  rintro x w' ⟨rfl, rfl⟩
  go_wp2_with fail
  exact ⟨rfl, rfl, rfl⟩
set_option maxHeartbeats 400000 in
theorem check_yes (e : Int) (w : World) : Calls Tryz.prog 69 #[.bool true, .int .u16 e] w fun x w' => x = .returned (.tuple #[]) ∧ w = w' := by
  go_enter Tryz.func69, Tryz.ntmps69
  go_wp2
  go_end0
  exact ⟨rfl, rfl⟩

set_option maxHeartbeats 400000 in
theorem purse_any (who : Int) (w : World) : Calls Tryz.prog 73 #[.int .u32 who] w fun x w' => x = .returned (keyV (1, who, 0)) ∧ w.alloc (.cells #[.int .u8 1, .int .u32 who, .int .u32 0] 52) = w' := by
  go_enter Tryz.func73, Tryz.ntmps73
  go_wp2
  exact bodyPost_ret (v := keyV (1, who, 0)) (by simp [results, Tryz.results73, go_sem, keyV]) rfl ⟨rfl, rfl⟩
end Go.Proofs.YtdbpjbmalinlbaaGreat
