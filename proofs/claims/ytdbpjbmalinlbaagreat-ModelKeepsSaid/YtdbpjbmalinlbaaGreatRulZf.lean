/- Contracts of run, as a whole (printed by rulgen.py). -/
import Derived.Test.YtdbpjbmalinlbaaGreatRulZe
import Derived.Test.YtdbpjbmalinlbaaGreatRulZa
import Derived.Test.YtdbpjbmalinlbaaGreatRulZb
import Derived.Test.YtdbpjbmalinlbaaGreatRulZd
namespace Go.Proofs.YtdbpjbmalinlbaaGreat
open Go.RowKit

section
variable {x : Nat} {o : OpV} {w0 w : World} {R : Res (List Pt × Rp)} {s : List Cel}
end

set_option maxRecDepth 100000 in
set_option maxHeartbeats 1000000 in
theorem run_craft {o : OpV} (hb : beginE o = 0) (hk : o.kind = 10) : RunsTo o (craftT o) := by
  intro x s w h
  have hx := h.lt
  have h' := Lib.hid h
  clear h
  go_enter Tryz.func43, Tryz.ntmps43
  go_wp2_with fail
  refine (begin_any h'.out).mono ?_
  rintro e w1 ⟨⟨h0, rfl⟩ | ⟨h0, rfl⟩, B⟩
  · have H : St x o w ((craftT o).run s) [] rp0 (craftT o) s w1 := ⟨Step.ofBelow hx B, h'.out.below B, rfl⟩
    have hx1 := H.lt
    clear h' B
    obtain ⟨c0, _⟩ := H.op
    rw [hk] at c0
    go_wp2_with (go_at_call 57; refine (craft_st hx H).mono ?_; rintro e w2 M; rcases M.form with ⟨rfl, D⟩ | ⟨ch, rfl⟩; rotate_left; (focus (go_wp2_with fail; exact ⟨rfl, M⟩)))
    go_end0
    exact M
  · exact absurd hb h0.out

set_option maxRecDepth 100000 in
set_option maxHeartbeats 1000000 in
theorem run_offer {o : OpV} (hb : beginE o = 0) (hk : o.kind = 12) : RunsTo o (offerT o) := by
  intro x s w h
  have hx := h.lt
  have h' := Lib.hid h
  clear h
  go_enter Tryz.func43, Tryz.ntmps43
  go_wp2_with fail
  refine (begin_any h'.out).mono ?_
  rintro e w1 ⟨⟨h0, rfl⟩ | ⟨h0, rfl⟩, B⟩
  · have H : St x o w ((offerT o).run s) [] rp0 (offerT o) s w1 := ⟨Step.ofBelow hx B, h'.out.below B, rfl⟩
    have hx1 := H.lt
    clear h' B
    obtain ⟨c0, _⟩ := H.op
    rw [hk] at c0
    go_wp2_with (go_at_call 58; refine (offer_st hx H).mono ?_; rintro e w2 M; rcases M.form with ⟨rfl, D⟩ | ⟨ch, rfl⟩; rotate_left; (focus (go_wp2_with fail; exact ⟨rfl, M⟩)))
    go_end0
    exact M
  · exact absurd hb h0.out

set_option maxRecDepth 100000 in
set_option maxHeartbeats 1000000 in
theorem run_bid {o : OpV} (hb : beginE o = 0) (hk : o.kind = 16) : RunsTo o (bidT o) := by
  intro x s w h
  have hx := h.lt
  have h' := Lib.hid h
  clear h
  go_enter Tryz.func43, Tryz.ntmps43
  go_wp2_with fail
  refine (begin_any h'.out).mono ?_
  rintro e w1 ⟨⟨h0, rfl⟩ | ⟨h0, rfl⟩, B⟩
  · have H : St x o w ((bidT o).run s) [] rp0 (bidT o) s w1 := ⟨Step.ofBelow hx B, h'.out.below B, rfl⟩
    have hx1 := H.lt
    clear h' B
    obtain ⟨c0, _⟩ := H.op
    rw [hk] at c0
    go_wp2_with (go_at_call 63; refine (bid_st hx H).mono ?_; rintro e w2 M; rcases M.form with ⟨rfl, D⟩ | ⟨ch, rfl⟩; rotate_left; (focus (go_wp2_with fail; exact ⟨rfl, M⟩)))
    go_end0
    exact M
  · exact absurd hb h0.out
end Go.Proofs.YtdbpjbmalinlbaaGreat
