/- Contracts of run, for each kind (printed by rulgen.py). -/
import Derived.Test.YtdbpjbmalinlbaaGreatRulY
import Derived.Test.YtdbpjbmalinlbaaGreatRulM
import Derived.Test.YtdbpjbmalinlbaaGreatRulV
namespace Go.Proofs.YtdbpjbmalinlbaaGreat
open Go.RowKit

section
variable {x : Nat} {o : OpV} {w0 w : World} {R : Res (List Pt × Rp)} {s : List Cel}
end
theorem field_both (a b c d e : Int) : ∀ w : World, (Instr.field 119 (.agg #[.int .u64 a, .int .u64 b, .int .u32 c, .int .u32 d, .int .u32 e]) 1).run Tryz.prog w = .ok (.agg #[.int .u32 c, .int .u32 d]) w := fun _ => by kernel_rfl

set_option maxRecDepth 100000 in
set_option maxHeartbeats 1000000 in
theorem run_open {o : OpV} (hb : beginE o = 0) (hk : o.kind = 1) : RunsTo o (openT o) := by
  intro x s w h
  have hx := h.lt
  have h' := Lib.hid h
  clear h
  go_enter Tryz.func43, Tryz.ntmps43
  go_wp2_with fail
  refine (begin_any h'.out).mono ?_
  rintro e w1 ⟨⟨h0, rfl⟩ | ⟨h0, rfl⟩, B⟩
  · have H : St x o w ((openT o).run s) [] rp0 (openT o) s w1 := ⟨Step.ofBelow hx B, h'.out.below B, rfl⟩
    have hx1 := H.lt
    clear h' B
    obtain ⟨c0, _⟩ := H.op
    rw [hk] at c0
    go_wp2_with (go_at_call 53; refine (open_st H).mono ?_; rintro e w2 M; rcases M.form with ⟨rfl, D⟩ | ⟨ch, rfl⟩; rotate_left; (focus (go_wp2_with fail; exact ⟨rfl, M⟩)))
    go_end0
    exact M
  · exact absurd hb h0.out

set_option maxRecDepth 100000 in
set_option maxHeartbeats 1000000 in
theorem run_deposit {o : OpV} (hb : beginE o = 0) (hk : o.kind = 6) : RunsTo o (depositT o) := by
  intro x s w h
  have hx := h.lt
  have h' := Lib.hid h
  clear h
  go_enter Tryz.func43, Tryz.ntmps43
  go_wp2_with fail
  refine (begin_any h'.out).mono ?_
  rintro e w1 ⟨⟨h0, rfl⟩ | ⟨h0, rfl⟩, B⟩
  · have H : St x o w ((depositT o).run s) [] rp0 (depositT o) s w1 := ⟨Step.ofBelow hx B, h'.out.below B, rfl⟩
    have hx1 := H.lt
    clear h' B
    obtain ⟨c0, _⟩ := H.op
    rw [hk] at c0
    go_wp2_with (go_at_call 55; refine (deposit_st H).mono ?_; rintro e w2 M; rcases M.form with ⟨rfl, D⟩ | ⟨ch, rfl⟩; rotate_left; (focus (go_wp2_with fail; exact ⟨rfl, M⟩)))
    go_end0
    exact M
  · exact absurd hb h0.out

set_option maxRecDepth 100000 in
set_option maxHeartbeats 1000000 in
theorem run_draw {o : OpV} (hb : beginE o = 0) (hk : o.kind = 7) : RunsTo o (drawT o) := by
  intro x s w h
  have hx := h.lt
  have h' := Lib.hid h
  clear h
  go_enter Tryz.func43, Tryz.ntmps43
  go_wp2_with fail
  refine (begin_any h'.out).mono ?_
  rintro e w1 ⟨⟨h0, rfl⟩ | ⟨h0, rfl⟩, B⟩
  · have H : St x o w ((drawT o).run s) [] rp0 (drawT o) s w1 := ⟨Step.ofBelow hx B, h'.out.below B, rfl⟩
    have hx1 := H.lt
    clear h' B
    obtain ⟨c0, _⟩ := H.op
    rw [hk] at c0
    go_wp2_with (go_at_call 55; refine (draw_st H).mono ?_; rintro e w2 M; rcases M.form with ⟨rfl, D⟩ | ⟨ch, rfl⟩; rotate_left; (focus (go_wp2_with fail; exact ⟨rfl, M⟩)))
    go_end0
    exact M
  · exact absurd hb h0.out

set_option maxRecDepth 100000 in
set_option maxHeartbeats 1000000 in
theorem run_pay {o : OpV} (hb : beginE o = 0) (hk : o.kind = 8) : RunsTo o (payT o) := by
  intro x s w h
  have hx := h.lt
  have h' := Lib.hid h
  clear h
  go_enter Tryz.func43, Tryz.ntmps43
  go_wp2_with fail
  refine (begin_any h'.out).mono ?_
  rintro e w1 ⟨⟨h0, rfl⟩ | ⟨h0, rfl⟩, B⟩
  · have H : St x o w ((payT o).run s) [] rp0 (payT o) s w1 := ⟨Step.ofBelow hx B, h'.out.below B, rfl⟩
    have hx1 := H.lt
    clear h' B
    obtain ⟨c0, _⟩ := H.op
    rw [hk] at c0
    go_wp2_with (go_at_call 56; refine (pay_st hk H).mono ?_; rintro e w2 M; rcases M.form with ⟨rfl, D⟩ | ⟨ch, rfl⟩; rotate_left; (focus (go_wp2_with fail; exact ⟨rfl, M⟩)))
    go_end0
    exact M
  · exact absurd hb h0.out

set_option maxRecDepth 100000 in
set_option maxHeartbeats 1000000 in
theorem run_give {o : OpV} (hb : beginE o = 0) (hk : o.kind = 9) : RunsTo o (giveT o) := by
  intro x s w h
  have hx := h.lt
  have h' := Lib.hid h
  clear h
  go_enter Tryz.func43, Tryz.ntmps43
  go_wp2_with fail
  refine (begin_any h'.out).mono ?_
  rintro e w1 ⟨⟨h0, rfl⟩ | ⟨h0, rfl⟩, B⟩
  · have H : St x o w ((giveT o).run s) [] rp0 (giveT o) s w1 := ⟨Step.ofBelow hx B, h'.out.below B, rfl⟩
    have hx1 := H.lt
    clear h' B
    obtain ⟨c0, _⟩ := H.op
    rw [hk] at c0
    go_wp2_with (go_at_call 56; refine (give_st hk H).mono ?_; rintro e w2 M; rcases M.form with ⟨rfl, D⟩ | ⟨ch, rfl⟩; rotate_left; (focus (go_wp2_with fail; exact ⟨rfl, M⟩)))
    go_end0
    exact M
  · exact absurd hb h0.out

set_option maxRecDepth 100000 in
set_option maxHeartbeats 1000000 in
theorem run_start {o : OpV} (hb : beginE o = 0) (hk : o.kind = 11) : RunsTo o (startT o) := by
  intro x s w h
  have hx := h.lt
  have h' := Lib.hid h
  clear h
  go_enter Tryz.func43, Tryz.ntmps43
  go_wp2_with fail
  refine (begin_any h'.out).mono ?_
  rintro e w1 ⟨⟨h0, rfl⟩ | ⟨h0, rfl⟩, B⟩
  · have H : St x o w ((startT o).run s) [] rp0 (startT o) s w1 := ⟨Step.ofBelow hx B, h'.out.below B, rfl⟩
    have hx1 := H.lt
    clear h' B
    obtain ⟨c0, _⟩ := H.op
    rw [hk] at c0
    go_wp2_with (go_at_call 56; refine (start_st hk H).mono ?_; rintro e w2 M; rcases M.form with ⟨rfl, D⟩ | ⟨ch, rfl⟩; rotate_left; (focus (go_wp2_with fail; exact ⟨rfl, M⟩)))
    go_end0
    exact M
  · exact absurd hb h0.out

set_option maxRecDepth 100000 in
set_option maxHeartbeats 1000000 in
theorem run_agree {o : OpV} (hb : beginE o = 0) (hk : o.kind = 13) : RunsTo o (agreeT o) := by
  intro x s w h
  have hx := h.lt
  have h' := Lib.hid h
  clear h
  go_enter Tryz.func43, Tryz.ntmps43
  go_wp2_with fail
  refine (begin_any h'.out).mono ?_
  rintro e w1 ⟨⟨h0, rfl⟩ | ⟨h0, rfl⟩, B⟩
  · have H : St x o w ((agreeT o).run s) [] rp0 (agreeT o) s w1 := ⟨Step.ofBelow hx B, h'.out.below B, rfl⟩
    have hx1 := H.lt
    clear h' B
    obtain ⟨c0, _⟩ := H.op
    rw [hk] at c0
    go_wp2_with (go_at_call 59; refine (agree_st hx H).mono ?_; rintro e w2 M; rcases M.form with ⟨rfl, D⟩ | ⟨ch, rfl⟩; rotate_left; (focus (go_wp2_with fail; exact ⟨rfl, M⟩)))
    go_end0
    exact M
  · exact absurd hb h0.out

set_option maxRecDepth 100000 in
set_option maxHeartbeats 1000000 in
theorem run_break {o : OpV} (hb : beginE o = 0) (hk : o.kind = 14) : RunsTo o (breakT o) := by
  intro x s w h
  have hx := h.lt
  have h' := Lib.hid h
  clear h
  go_enter Tryz.func43, Tryz.ntmps43
  go_wp2_with fail
  refine (begin_any h'.out).mono ?_
  rintro e w1 ⟨⟨h0, rfl⟩ | ⟨h0, rfl⟩, B⟩
  · have H : St x o w ((breakT o).run s) [] rp0 (breakT o) s w1 := ⟨Step.ofBelow hx B, h'.out.below B, rfl⟩
    have hx1 := H.lt
    clear h' B
    obtain ⟨c0, _⟩ := H.op
    rw [hk] at c0
    unfold breakT at H
    go_wp2_with (first
      | (go_at_call 61; refine (party_st hx H).mono ?_; rintro e w1 (⟨v, sd, s1, rfl, hv, hsd, H1, Q⟩ | ⟨ch, rfl, P⟩); rotate_left; (focus (go_wp2_with fail; exact ⟨rfl, P.met⟩)); replace H := H1; clear H1; have hx1 := H.lt; have fb := field_both v.1 v.2 (v.1 / 4294967296 % 4294967296) (v.1 % 4294967296) sd)
      | (go_at_call 60; refine (end_st _ _ hx H).mono ?_; rintro e w2 M; rcases M.form with ⟨rfl, D⟩ | ⟨ch, rfl⟩; rotate_left; (focus (go_wp2_with fail; exact ⟨rfl, M⟩))))
    go_end0
    exact M
  · exact absurd hb h0.out

set_option maxRecDepth 100000 in
set_option maxHeartbeats 1000000 in
theorem run_sell {o : OpV} (hb : beginE o = 0) (hk : o.kind = 15) : RunsTo o (sellT o) := by
  intro x s w h
  have hx := h.lt
  have h' := Lib.hid h
  clear h
  go_enter Tryz.func43, Tryz.ntmps43
  go_wp2_with fail
  refine (begin_any h'.out).mono ?_
  rintro e w1 ⟨⟨h0, rfl⟩ | ⟨h0, rfl⟩, B⟩
  · have H : St x o w ((sellT o).run s) [] rp0 (sellT o) s w1 := ⟨Step.ofBelow hx B, h'.out.below B, rfl⟩
    have hx1 := H.lt
    clear h' B
    obtain ⟨c0, _⟩ := H.op
    rw [hk] at c0
    go_wp2_with (go_at_call 62; refine (sell_st hx H).mono ?_; rintro e w2 M; rcases M.form with ⟨rfl, D⟩ | ⟨ch, rfl⟩; rotate_left; (focus (go_wp2_with fail; exact ⟨rfl, M⟩)))
    go_end0
    exact M
  · exact absurd hb h0.out

set_option maxRecDepth 100000 in
set_option maxHeartbeats 1000000 in
theorem run_close {o : OpV} (hb : beginE o = 0) (hk : o.kind = 17) : RunsTo o (closeT o) := by
  intro x s w h
  have hx := h.lt
  have h' := Lib.hid h
  clear h
  go_enter Tryz.func43, Tryz.ntmps43
  go_wp2_with fail
  refine (begin_any h'.out).mono ?_
  rintro e w1 ⟨⟨h0, rfl⟩ | ⟨h0, rfl⟩, B⟩
  · have H : St x o w ((closeT o).run s) [] rp0 (closeT o) s w1 := ⟨Step.ofBelow hx B, h'.out.below B, rfl⟩
    have hx1 := H.lt
    clear h' B
    obtain ⟨c0, _⟩ := H.op
    rw [hk] at c0
    go_wp2_with (go_at_call 64; refine (close_st H).mono ?_; rintro e w2 M; rcases M.form with ⟨rfl, D⟩ | ⟨ch, rfl⟩; rotate_left; (focus (go_wp2_with fail; exact ⟨rfl, M⟩)))
    go_end0
    exact M
  · exact absurd hb h0.out

set_option maxRecDepth 100000 in
set_option maxHeartbeats 1000000 in
theorem run_look {o : OpV} (hb : beginE o = 0) (hk : o.kind = 18) : RunsTo o (lookT o) := by
  intro x s w h
  have hx := h.lt
  have h' := Lib.hid h
  clear h
  go_enter Tryz.func43, Tryz.ntmps43
  go_wp2_with fail
  refine (begin_any h'.out).mono ?_
  rintro e w1 ⟨⟨h0, rfl⟩ | ⟨h0, rfl⟩, B⟩
  · have H : St x o w ((lookT o).run s) [] rp0 (lookT o) s w1 := ⟨Step.ofBelow hx B, h'.out.below B, rfl⟩
    have hx1 := H.lt
    clear h' B
    obtain ⟨c0, _⟩ := H.op
    rw [hk] at c0
    go_wp2_with (go_at_call 65; refine (look_st H).mono ?_; rintro e w2 M; rcases M.form with ⟨rfl, D⟩ | ⟨ch, rfl⟩; rotate_left; (focus (go_wp2_with fail; exact ⟨rfl, M⟩)))
    go_end0
    exact M
  · exact absurd hb h0.out
end Go.Proofs.YtdbpjbmalinlbaaGreat
