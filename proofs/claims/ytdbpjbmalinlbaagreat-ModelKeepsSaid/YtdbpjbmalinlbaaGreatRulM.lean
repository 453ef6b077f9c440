/- Contracts of run for an operation that is refused at once, and for Mint; of the chapter's example. -/
import Derived.Test.YtdbpjbmalinlbaaGreatRulL
namespace Go.Proofs.YtdbpjbmalinlbaaGreat
open Go.RowKit

set_option maxRecDepth 100000 in
set_option maxHeartbeats 1000000 in
theorem run_stop {o : OpV} (hb : beginE o ≠ 0) : RunsTo o (.over (beginE o)) := by
  intro x s w h
  have hx := h.lt
  go_enter Tryz.func43, Tryz.ntmps43
  go_wp2_with fail
  refine (begin_any h).mono ?_
  rintro e w1 ⟨⟨h0, rfl⟩ | ⟨h0, rfl⟩, B⟩
  · exact absurd h0.out hb
  · go_wp2_with fail
    exact ⟨rfl, Met.over (Step.ofBelow hx B) rfl (h.below B).dead⟩

set_option maxRecDepth 100000 in
set_option maxHeartbeats 1000000 in
theorem run_mint {o : OpV} (hb : beginE o = 0) (hk : o.kind = 2) : RunsTo o (itemsT o [] rp0) := by
  intro x s w h
  have hx := h.lt
  have h' := Lib.hid h
  clear h
  go_enter Tryz.func43, Tryz.ntmps43
  go_wp2_with fail
  refine (begin_any h'.out).mono ?_
  rintro e w1 ⟨⟨h0, rfl⟩ | ⟨h0, rfl⟩, B⟩
  · have H := Lib.hid (h'.out.below B)
    have S := Step.ofBelow hx B
    obtain ⟨c0, _⟩ := H.out.op
    rw [hk] at c0
    go_wp2_with fail
    refine (items_any H.out (by simp) (.inl hk)).mono ?_
    rintro e w2 M
    have F := Met.from S M
    obtain ⟨-, ⟨_, _, -, rfl, -⟩ | ⟨_, -, rfl, -⟩ | ⟨_, -, rfl, -⟩⟩ := M.split
    · go_wp2_with fail
      go_end0
      exact F
    · go_wp2_with fail
      exact ⟨rfl, F⟩
    · go_wp2_with fail
      exact ⟨rfl, F⟩
  · exact absurd hb h0.out

/-- The chapter's example. -/
def exO : OpV := ⟨2, 1, 0, 0, 0, 3, 0⟩
theorem exO_ok : OpOk exO := by unfold OpOk exO; decide
theorem ex_runs : RunsTo exO (itemsT exO [] rp0) := run_mint (by decide) rfl
theorem ex_next : (itemsT exO [] rp0).run [] = .need (1, 1, 0) := rfl
theorem ex_do : (itemsT exO [] rp0).run [⟨(0, 0, 0), (5, 0), true⟩] = .ok ([⟨(1, 1, 0), (8, 0), false⟩], ⟨0, 8, 0, 0⟩) [] := rfl
end Go.Proofs.YtdbpjbmalinlbaaGreat
