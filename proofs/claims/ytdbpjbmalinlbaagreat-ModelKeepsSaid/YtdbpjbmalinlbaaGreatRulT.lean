/- Contracts of move, number (printed by rulgen.py). -/
import Derived.Test.YtdbpjbmalinlbaaGreatRulS
namespace Go.Proofs.YtdbpjbmalinlbaaGreat
open Go.RowKit

section
variable {x : Nat} {o : OpV} {w0 w : World} {R : Res (List Pt × Rp)} {s : List Cel}

def moveT (o : OpV) (f t : Ky) : T (List Pt × Rp) :=
  (amountT f).bind fun a => (lessT a o.n).bind fun l => (amountT t).bind fun b => (moreT b o.n).bind fun m => .done ([putP f l, putP t m], ⟨0, l, 0, 0⟩)

set_option maxRecDepth 100000 in
set_option maxHeartbeats 2000000 in
theorem move_st (f t : Ky) (H : St x o w0 R [] rp0 (moveT o f t) s w) :
    Calls Tryz.prog 82 #[.pointer (some ⟨x, 0, none⟩), .agg #[.int .u8 f.1, .int .u32 f.2.1, .int .u32 f.2.2], .agg #[.int .u8 t.1, .int .u32 t.2.1, .int .u32 t.2.2]] w (Mets' x o w0 R) := by
  obtain ⟨o0, o1, o2, o3, o4, on, op⟩ := H.opOk
  obtain ⟨c0, c1, c2, c3, c4, c5, c6⟩ := H.op
  have hx := H.lt
  unfold moveT at H
  go_enter Tryz.func82, Tryz.ntmps82
  go_upto_region 1 with fail
  have H1 := H.alloc (.cells #[.int .u8 f.1, .int .u32 f.2.1, .int .u32 f.2.2] 52)
  have K1 := ((Box.new H.hand (.cells #[.int .u8 f.1, .int .u32 f.2.1, .int .u32 f.2.2] 52) rfl).step ((Step.refl x _).alloc H1.lt (.cells #[.int .u8 t.1, .int .u32 t.2.1, .int .u32 t.2.2] 52))).step (Step.refl x _).drew
  have K2 := (Box.new H1.hand (.cells #[.int .u8 t.1, .int .u32 t.2.1, .int .u32 t.2.2] 52) (World.size_alloc _ _)).step (Step.refl x _).drew
  have H := (H1.alloc (.cells #[.int .u8 t.1, .int .u32 t.2.1, .int .u32 t.2.2] 52)).drew
  clear H1
  go_region_held2 (fun w' => w'.cell? ⟨x, 5, none⟩ = some (.int .u64 o.n) ∧ w'.cell? ⟨w.heap.size, 0, none⟩ = some (.int .u8 f.1) ∧ w'.cell? ⟨w.heap.size, 1, none⟩ = some (.int .u32 f.2.1) ∧ w'.cell? ⟨w.heap.size, 2, none⟩ = some (.int .u32 f.2.2) ∧ w'.cell? ⟨(w.heap.size + 1), 0, none⟩ = some (.int .u8 t.1) ∧ w'.cell? ⟨(w.heap.size + 1), 1, none⟩ = some (.int .u32 t.2.1) ∧ w'.cell? ⟨(w.heap.size + 1), 2, none⟩ = some (.int .u32 t.2.2))
    (first | exact ⟨H.op.2.2.2.2.2.1, K1.three.1, K1.three.2.1, K1.three.2.2.1, K2.three.1, K2.three.2.1, K2.three.2.2.1⟩ | go_keep)
    (first
      | (go_at_call 80; refine (St.amount H).mono ?_; rintro e w1 (⟨a, s1, rfl, ha, H1, Q⟩ | ⟨ch, rfl, P⟩); rotate_left; (focus (go_wp2_with fail; exact ⟨rfl, P.met⟩)); replace H := H1; clear H1; obtain ⟨c0, c1, c2, c3, c4, c5, c6⟩ := H.op; have hx := H.lt; replace K1 := K1.step Q; replace K2 := K2.step Q)
      | (go_at_call 78; refine (St.less H ha on).mono ?_; rintro e w1 (⟨l, rfl, hl, H1, Q⟩ | ⟨ch, rfl, P⟩); rotate_left; (focus (go_wp2_with fail; exact ⟨rfl, P.met⟩)); replace H := H1; clear H1; obtain ⟨c0, c1, c2, c3, c4, c5, c6⟩ := H.op; have hx := H.lt; replace K1 := K1.step Q; replace K2 := K2.step Q))
  all_goals (
    go_upto_region 2 with fail
    have K1 := K1.step (Step.refl x _).drew
    have K2 := K2.step (Step.refl x _).drew
    have H := H.drew
    go_region_held2 (fun w' => w'.cell? ⟨x, 5, none⟩ = some (.int .u64 o.n) ∧ w'.cell? ⟨w.heap.size, 0, none⟩ = some (.int .u8 f.1) ∧ w'.cell? ⟨w.heap.size, 1, none⟩ = some (.int .u32 f.2.1) ∧ w'.cell? ⟨w.heap.size, 2, none⟩ = some (.int .u32 f.2.2) ∧ w'.cell? ⟨(w.heap.size + 1), 0, none⟩ = some (.int .u8 t.1) ∧ w'.cell? ⟨(w.heap.size + 1), 1, none⟩ = some (.int .u32 t.2.1) ∧ w'.cell? ⟨(w.heap.size + 1), 2, none⟩ = some (.int .u32 t.2.2))
      (first | exact ⟨H.op.2.2.2.2.2.1, K1.three.1, K1.three.2.1, K1.three.2.2.1, K2.three.1, K2.three.2.1, K2.three.2.2.1⟩ | go_keep)
      (first
        | (go_at_call 80; refine (St.amount H).mono ?_; rintro e w1 (⟨b, s1, rfl, hb, H1, Q⟩ | ⟨ch, rfl, P⟩); rotate_left; (focus (go_wp2_with fail; exact ⟨rfl, P.met⟩)); replace H := H1; clear H1; obtain ⟨c0, c1, c2, c3, c4, c5, c6⟩ := H.op; have hx := H.lt; replace K1 := K1.step Q; replace K2 := K2.step Q)
        | (go_at_call 77; refine (St.more H hb on).mono ?_; rintro e w1 (⟨m, rfl, hm, H1, Q⟩ | ⟨ch, rfl, P⟩); rotate_left; (focus (go_wp2_with fail; exact ⟨rfl, P.met⟩)); replace H := H1; clear H1; obtain ⟨c0, c1, c2, c3, c4, c5, c6⟩ := H.op; have hx := H.lt; replace K1 := K1.step Q; replace K2 := K2.step Q))
    all_goals (
      obtain ⟨a0, a1, a2, la⟩ := K1.three
      obtain ⟨b0, b1, b2, lb⟩ := K2.three
      go_wp2_with (first
        | (go_at_call_of 74 (Value.agg #[.int .u8 f.1, .int .u32 f.2.1, .int .u32 f.2.2]); refine (St.put H (f) (by simp)).mono ?_; rintro e w1 ⟨rfl, H1, Q⟩; replace H := H1; clear H1; obtain ⟨c0, c1, c2, c3, c4, c5, c6⟩ := H.op; have hx := H.lt; obtain ⟨⟨u10, y10⟩, ⟨u11, y11⟩, ⟨u12, y12⟩⟩ := H.rep; have z10 := H.frozen 10; have z11 := H.frozen 11; have z12 := H.frozen 12; replace K1 := K1.step Q; replace K2 := K2.step Q; obtain ⟨a0, a1, a2, la⟩ := K1.three; obtain ⟨b0, b1, b2, lb⟩ := K2.three)
        | (go_at_call_of 74 (Value.agg #[.int .u8 t.1, .int .u32 t.2.1, .int .u32 t.2.2]); refine (St.put H (t) (by simp)).mono ?_; rintro e w1 ⟨rfl, H1, Q⟩; replace H := H1; clear H1; obtain ⟨c0, c1, c2, c3, c4, c5, c6⟩ := H.op; have hx := H.lt; obtain ⟨⟨u10, y10⟩, ⟨u11, y11⟩, ⟨u12, y12⟩⟩ := H.rep; have z10 := H.frozen 10; have z11 := H.frozen 11; have z12 := H.frozen 12; replace K1 := K1.step Q; replace K2 := K2.step Q; obtain ⟨a0, a1, a2, la⟩ := K1.three; obtain ⟨b0, b1, b2, lb⟩ := K2.three))
      go_end0
      exact (H.setA _).met rfl))

def numT (kind : Int) : T Int := (amountT (countK kind)).bind fun n => (checkT (decide (n < 4294967295)) 3).bind fun _ => .done (n + 1)

set_option maxRecDepth 100000 in
set_option maxHeartbeats 2000000 in
theorem number_st {kind : Int} {g : Int → T (List Pt × Rp)} {p : List Pt} {r : Rp} (H : St x o w0 R p r ((numT kind).bind g) s w) (hp : p.length + 1 ≤ 1000) (k0 : 0 ≤ kind) (k1 : kind ≤ 255) :
    Calls Tryz.prog 83 #[.pointer (some ⟨x, 0, none⟩), .int .u8 kind] w fun e w' =>
      (∃ n s', e = .returned (.int .u32 n) ∧ (0 ≤ n ∧ n ≤ 4294967295) ∧ St x o w0 R (p ++ [putP (countK kind) n]) r (g n) s' w' ∧ Step x w w') ∨ (∃ ch, e = .panicked ch ∧ Pan x o w0 R ch w') := by
  obtain ⟨o0, o1, o2, o3, o4, on, op⟩ := H.opOk
  obtain ⟨c0, c1, c2, c3, c4, c5, c6⟩ := H.op
  have hx := H.lt
  unfold numT at H
  have Z := Step.refl x w
  go_enter Tryz.func83, Tryz.ntmps83
  go_wp2_with (first
    | (go_at_call 100; refine (St.key (fun w => count_key _ w k0 k1) H).mono ?_; rintro e w1 ⟨rfl, H1, Q⟩; replace H := H1; clear H1; obtain ⟨c0, c1, c2, c3, c4, c5, c6⟩ := H.op; have hx := H.lt; replace Z := Z.trans Q)
    | (go_at_call 80; refine (St.amount H.assoc).mono ?_; rintro e w1 (⟨a, s1, rfl, ha, H1, Q⟩ | ⟨ch, rfl, P⟩); rotate_left; (focus (go_wp2_with fail; exact ⟨rfl, .inr ⟨_, rfl, P⟩⟩)); replace H := H1; clear H1; obtain ⟨c0, c1, c2, c3, c4, c5, c6⟩ := H.op; have hx := H.lt; replace Z := Z.trans Q)
    | (go_at_call 69; refine (St.check H.assoc).mono ?_; rintro e w1 (⟨rfl, hc, H1, Q⟩ | ⟨ch, rfl, P⟩); rotate_left; (focus (go_wp2_with fail; exact ⟨rfl, .inr ⟨_, rfl, P⟩⟩)); replace H := H1; clear H1; obtain ⟨c0, c1, c2, c3, c4, c5, c6⟩ := H.op; have hx := H.lt; replace Z := Z.trans Q; have hlt := of_decide_eq_true hc.out; have s1 : IntKind.u32.wrap (a + 1) = a + 1 := IntWalk.u32_in _ (by have := ha.1; omega); have ha0 := ha.1)
    | (go_at_call 74; refine (St.put H (countK kind) hp).mono ?_; rintro e w1 ⟨rfl, H1, Q⟩; replace H := H1; clear H1; obtain ⟨c0, c1, c2, c3, c4, c5, c6⟩ := H.op; have hx := H.lt; replace Z := Z.trans Q))
  go_ret
  exact .inl ⟨a + 1, _, rfl, ⟨by omega, by omega⟩, H, Z⟩
end
end Go.Proofs.YtdbpjbmalinlbaaGreat
