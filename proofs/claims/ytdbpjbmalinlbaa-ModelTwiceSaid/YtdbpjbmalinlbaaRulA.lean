/- Contracts of package rule: keys, fail, check. -/
import Derived.Test.YtdbpjbmalinlbaaRecp
import Derived.Outline
namespace Go.Proofs.Ytdbpjbmalinlbaa
open Go.RowKit

theorem below_alloc (w : World) (o : Obj) : Below w.heap.size w (w.alloc o) := (Below.refl _ _).alloc (Nat.le_refl _) o

/-- A key as a value. -/
def keyV (k : Int × Int × Int) : Value := .agg #[.int .u8 k.1, .int .u32 k.2.1, .int .u32 k.2.2]

set_option maxHeartbeats 400000 in
theorem fail_any (e : Int) (w : World) : Calls Try.prog 103 #[.int .u16 e] w fun x w' => x = .panicked [{ v := .iface 78 (.int .u16 e), recovered := false }] ∧ w = w' := by
  go_enter Try.func103, Try.ntmps103
  go_wp2
  exact ⟨rfl, rfl, rfl⟩

set_option maxHeartbeats 400000 in
theorem check_no (e : Int) (w : World) : Calls Try.prog 79 #[.bool false, .int .u16 e] w fun x w' => x = .panicked [{ v := .iface 78 (.int .u16 e), recovered := false }] ∧ w = w' := by
  go_enter Try.func79, Try.ntmps79
  go_wp2_with fail
  refine (fail_any _ _).mono ?_
  rintro x w' ⟨rfl, rfl⟩
  go_wp2_with fail
  exact ⟨rfl, rfl, rfl⟩
set_option maxHeartbeats 400000 in
theorem check_yes (e : Int) (w : World) : Calls Try.prog 79 #[.bool true, .int .u16 e] w fun x w' => x = .returned (.tuple #[]) ∧ w = w' := by
  go_enter Try.func79, Try.ntmps79
  go_wp2
  go_end0
  exact ⟨rfl, rfl⟩

set_option maxHeartbeats 400000 in
theorem purse_any (who : Int) (w : World) : Calls Try.prog 9 #[.int .u32 who] w fun x w' => x = .returned (keyV (1, who, 0)) ∧ w.alloc (.cells #[.int .u8 1, .int .u32 who, .int .u32 0] 24) = w' := by
  go_enter Try.func9, Try.ntmps9
  go_wp2
  exact bodyPost_ret (v := keyV (1, who, 0)) (by simp [results, Try.results9, go_sem, keyV]) rfl ⟨rfl, rfl⟩
end Go.Proofs.Ytdbpjbmalinlbaa
