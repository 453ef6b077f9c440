/- Contracts of open, look (printed by rulgen.py). -/
import Derived.Test.YtdbpjbmalinlbaaGreatRulR
namespace Go.Proofs.YtdbpjbmalinlbaaGreat
open Go.RowKit

section
variable {x : Nat} {o : OpV} {w0 w : World} {R : Res (List Pt × Rp)} {s : List Cel}

def openT (o : OpV) : T (List Pt × Rp) :=
  (seeT (purseK o.who)).bind fun v => (checkT v.isNone 210).bind fun _ => .done ([putP (purseK o.who) 0], { rp0 with a := o.who })

set_option maxRecDepth 100000 in
set_option maxHeartbeats 2000000 in
theorem open_st (H : St x o w0 R [] rp0 (openT o) s w) :
    Calls Tryz.prog 53 #[.pointer (some ⟨x, 0, none⟩)] w (Mets' x o w0 R) := by
  obtain ⟨o0, o1, o2, o3, o4, on, op⟩ := H.opOk
  obtain ⟨c0, c1, c2, c3, c4, c5, c6⟩ := H.op
  have hx := H.lt
  have s1 : IntKind.u64.wrap o.who = o.who := IntWalk.u64_in _ (by omega)
  unfold openT at H
  go_enter Tryz.func53, Tryz.ntmps53
  go_wp2_with (first
    | (go_at_call 73; refine (St.key (purse_a _) H).mono ?_; rintro e w1 ⟨rfl, H1, Q⟩; replace H := H1; clear H1; obtain ⟨c0, c1, c2, c3, c4, c5, c6⟩ := H.op; have hx := H.lt)
    | (go_at_call 72; refine (St.see H).mono ?_; rintro e w1 (⟨v, s1, rfl, hv, H1, Q⟩ | ⟨ch, rfl, P⟩); rotate_left; (focus (go_wp2_with fail; exact ⟨rfl, P.met⟩)); replace H := H1; clear H1; obtain ⟨c0, c1, c2, c3, c4, c5, c6⟩ := H.op; have hx := H.lt)
    | (go_at_call 69; refine (St.check (H.alloc _)).mono ?_; rintro e w1 (⟨rfl, hc, H1, Q⟩ | ⟨ch, rfl, P⟩); rotate_left; (focus (go_wp2_with fail; exact ⟨rfl, P.met⟩)); replace H := H1; clear H1; obtain ⟨c0, c1, c2, c3, c4, c5, c6⟩ := H.op; have hx := H.lt)
    | (go_at_call_of 74 (Value.agg #[.int .u8 1, .int .u32 (o.who), .int .u32 0]); refine (St.put H (purseK o.who) (by simp)).mono ?_; rintro e w1 ⟨rfl, H1, Q⟩; replace H := H1; clear H1; obtain ⟨c0, c1, c2, c3, c4, c5, c6⟩ := H.op; have hx := H.lt; obtain ⟨⟨u10, y10⟩, ⟨u11, y11⟩, ⟨u12, y12⟩⟩ := H.rep; have z10 := H.frozen 10; have z11 := H.frozen 11; have z12 := H.frozen 12))
  go_end0
  exact (H.setA _).met rfl

def lookT (o : OpV) : T (List Pt × Rp) :=
  (mustT (purseK o.who)).bind fun v => (amountT (bankK o.who)).bind fun b => (amountT (stackK o.who o.what)).bind fun c => .done ([], ⟨0, v.1, b, c⟩)

set_option maxRecDepth 100000 in
set_option maxHeartbeats 2000000 in
theorem look_st (H : St x o w0 R [] rp0 (lookT o) s w) :
    Calls Tryz.prog 65 #[.pointer (some ⟨x, 0, none⟩)] w (Mets' x o w0 R) := by
  obtain ⟨o0, o1, o2, o3, o4, on, op⟩ := H.opOk
  obtain ⟨c0, c1, c2, c3, c4, c5, c6⟩ := H.op
  have hx := H.lt
  unfold lookT at H
  obtain ⟨⟨u10, y10⟩, ⟨u11, y11⟩, ⟨u12, y12⟩⟩ := H.rep
  go_enter Tryz.func65, Tryz.ntmps65
  go_wp2_with (first
    | (go_at_call 73; refine (St.key (purse_a _) H).mono ?_; rintro e w1 ⟨rfl, H1, Q⟩; replace H := H1; clear H1; obtain ⟨c0, c1, c2, c3, c4, c5, c6⟩ := H.op; have hx := H.lt)
    | (go_at_call 75; refine (St.must H).mono ?_; rintro e w1 (⟨v, s1, rfl, hv, H1, Q⟩ | ⟨ch, rfl, P⟩); rotate_left; (focus (go_wp2_with fail; exact ⟨rfl, P.met⟩)); replace H := H1; clear H1; obtain ⟨c0, c1, c2, c3, c4, c5, c6⟩ := H.op; have hx := H.lt; obtain ⟨⟨u10, y10⟩, ⟨u11, y11⟩, ⟨u12, y12⟩⟩ := H.rep; have z10 := H.frozen 10; have z11 := H.frozen 11; have z12 := H.frozen 12; have fav := field_a v.1 v.2)
    | (go_at_call 81; refine (St.key (bank_any _) (H.setA _)).mono ?_; rintro e w1 ⟨rfl, H1, Q⟩; replace H := H1; clear H1; obtain ⟨c0, c1, c2, c3, c4, c5, c6⟩ := H.op; have hx := H.lt)
    | (go_at_call 80; refine (St.amount H).mono ?_; rintro e w1 (⟨a, s1, rfl, ha, H1, Q⟩ | ⟨ch, rfl, P⟩); rotate_left; (focus (go_wp2_with fail; exact ⟨rfl, P.met⟩)); replace H := H1; clear H1; obtain ⟨c0, c1, c2, c3, c4, c5, c6⟩ := H.op; have hx := H.lt; obtain ⟨⟨u10, y10⟩, ⟨u11, y11⟩, ⟨u12, y12⟩⟩ := H.rep; have z10 := H.frozen 10; have z11 := H.frozen 11; have z12 := H.frozen 12))
  have H2 := (H.setB a).drew
  go_region_held2 (fun w' => w'.cell? ⟨x, 1, none⟩ = some (.int .u32 o.who) ∧ w'.cell? ⟨x, 3, none⟩ = some (.int .u32 o.what))
    (first | exact ⟨H.op.2.1, H.op.2.2.2.1⟩ | exact ⟨H2.op.2.1, H2.op.2.2.2.1⟩ | exact ⟨(H.setC _).op.2.1, (H.setC _).op.2.2.2.1⟩ | go_keep)
    (first
      | (go_at_call 79; refine (St.key (stack_any _ _) H2).mono ?_; rintro e w1 ⟨rfl, H1, Q⟩; replace H := H1; clear H1; obtain ⟨c0, c1, c2, c3, c4, c5, c6⟩ := H.op; have hx := H.lt)
      | (go_at_call 80; refine (St.amount H).mono ?_; rintro e w1 (⟨b, s1, rfl, hb, H1, Q⟩ | ⟨ch, rfl, P⟩); rotate_left; (focus (go_wp2_with fail; exact ⟨rfl, P.met⟩)); replace H := H1; clear H1; obtain ⟨c0, c1, c2, c3, c4, c5, c6⟩ := H.op; have hx := H.lt; obtain ⟨⟨u10, y10⟩, ⟨u11, y11⟩, ⟨u12, y12⟩⟩ := H.rep; have z10 := H.frozen 10; have z11 := H.frozen 11; have z12 := H.frozen 12))
  all_goals (
    go_wp2_with fail
    go_end0
    exact (H.setC _).met rfl)

def depositT (o : OpV) : T (List Pt × Rp) :=
  (mustT (purseK o.who)).bind fun v => (amountT (bankK o.who)).bind fun b => (lessT v.1 o.n).bind fun l => (moreT b o.n).bind fun m => .done ([putP (purseK o.who) l, putP (bankK o.who) m], ⟨0, l, m, 0⟩)
def drawT (o : OpV) : T (List Pt × Rp) :=
  (mustT (purseK o.who)).bind fun v => (amountT (bankK o.who)).bind fun b => (lessT b o.n).bind fun l => (moreT v.1 o.n).bind fun m => .done ([putP (purseK o.who) m, putP (bankK o.who) l], ⟨0, m, l, 0⟩)

set_option maxRecDepth 100000 in
set_option maxHeartbeats 2000000 in
theorem deposit_st (H : St x o w0 R [] rp0 (depositT o) s w) :
    Calls Tryz.prog 55 #[.pointer (some ⟨x, 0, none⟩), .bool true] w (Mets' x o w0 R) := by
  obtain ⟨o0, o1, o2, o3, o4, on, op⟩ := H.opOk
  obtain ⟨c0, c1, c2, c3, c4, c5, c6⟩ := H.op
  have hx := H.lt
  unfold depositT at H
  go_enter Tryz.func55, Tryz.ntmps55
  go_wp2_with (first
    | (go_at_call 73; refine (St.key (purse_a _) H).mono ?_; rintro e w1 ⟨rfl, H1, Q⟩; replace H := H1; clear H1; obtain ⟨c0, c1, c2, c3, c4, c5, c6⟩ := H.op; have hx := H.lt)
    | (go_at_call 75; refine (St.must H).mono ?_; rintro e w1 (⟨v, s1, rfl, hv, H1, Q⟩ | ⟨ch, rfl, P⟩); rotate_left; (focus (go_wp2_with fail; exact ⟨rfl, P.met⟩)); replace H := H1; clear H1; obtain ⟨c0, c1, c2, c3, c4, c5, c6⟩ := H.op; have hx := H.lt; have fav := field_a v.1 v.2)
    | (go_at_call 81; refine (St.key (bank_any _) H).mono ?_; rintro e w1 ⟨rfl, H1, Q⟩; replace H := H1; clear H1; obtain ⟨c0, c1, c2, c3, c4, c5, c6⟩ := H.op; have hx := H.lt)
    | (go_at_call 80; refine (St.amount H).mono ?_; rintro e w1 (⟨b, s1, rfl, hb, H1, Q⟩ | ⟨ch, rfl, P⟩); rotate_left; (focus (go_wp2_with fail; exact ⟨rfl, P.met⟩)); replace H := H1; clear H1; obtain ⟨c0, c1, c2, c3, c4, c5, c6⟩ := H.op; have hx := H.lt)
    | (go_at_call 78; refine (St.less H hv.1 on).mono ?_; rintro e w1 (⟨l, rfl, hl, H1, Q⟩ | ⟨ch, rfl, P⟩); rotate_left; (focus (go_wp2_with fail; exact ⟨rfl, P.met⟩)); replace H := H1; clear H1; obtain ⟨c0, c1, c2, c3, c4, c5, c6⟩ := H.op; have hx := H.lt)
    | (go_at_call 77; refine (St.more H hb on).mono ?_; rintro e w1 (⟨m, rfl, hm, H1, Q⟩ | ⟨ch, rfl, P⟩); rotate_left; (focus (go_wp2_with fail; exact ⟨rfl, P.met⟩)); replace H := H1; clear H1; obtain ⟨c0, c1, c2, c3, c4, c5, c6⟩ := H.op; have hx := H.lt)
    | (go_at_call_of 74 (Value.agg #[.int .u8 1, .int .u32 (o.who), .int .u32 0]); refine (St.put H (purseK o.who) (by simp)).mono ?_; rintro e w1 ⟨rfl, H1, Q⟩; replace H := H1; clear H1; obtain ⟨c0, c1, c2, c3, c4, c5, c6⟩ := H.op; have hx := H.lt; obtain ⟨⟨u10, y10⟩, ⟨u11, y11⟩, ⟨u12, y12⟩⟩ := H.rep; have z10 := H.frozen 10; have z11 := H.frozen 11; have z12 := H.frozen 12)
    | (go_at_call_of 74 (Value.agg #[.int .u8 2, .int .u32 (o.who), .int .u32 0]); refine (St.put H (bankK o.who) (by simp)).mono ?_; rintro e w1 ⟨rfl, H1, Q⟩; replace H := H1; clear H1; obtain ⟨c0, c1, c2, c3, c4, c5, c6⟩ := H.op; have hx := H.lt; obtain ⟨⟨u10, y10⟩, ⟨u11, y11⟩, ⟨u12, y12⟩⟩ := H.rep; have z10 := H.frozen 10; have z11 := H.frozen 11; have z12 := H.frozen 12))
  go_end0
  exact ((H.setA _).setB _).met rfl

set_option maxRecDepth 100000 in
set_option maxHeartbeats 2000000 in
theorem draw_st (H : St x o w0 R [] rp0 (drawT o) s w) :
    Calls Tryz.prog 55 #[.pointer (some ⟨x, 0, none⟩), .bool false] w (Mets' x o w0 R) := by
  obtain ⟨o0, o1, o2, o3, o4, on, op⟩ := H.opOk
  obtain ⟨c0, c1, c2, c3, c4, c5, c6⟩ := H.op
  have hx := H.lt
  unfold drawT at H
  go_enter Tryz.func55, Tryz.ntmps55
  go_wp2_with (first
    | (go_at_call 73; refine (St.key (purse_a _) H).mono ?_; rintro e w1 ⟨rfl, H1, Q⟩; replace H := H1; clear H1; obtain ⟨c0, c1, c2, c3, c4, c5, c6⟩ := H.op; have hx := H.lt)
    | (go_at_call 75; refine (St.must H).mono ?_; rintro e w1 (⟨v, s1, rfl, hv, H1, Q⟩ | ⟨ch, rfl, P⟩); rotate_left; (focus (go_wp2_with fail; exact ⟨rfl, P.met⟩)); replace H := H1; clear H1; obtain ⟨c0, c1, c2, c3, c4, c5, c6⟩ := H.op; have hx := H.lt; have fav := field_a v.1 v.2)
    | (go_at_call 81; refine (St.key (bank_any _) H).mono ?_; rintro e w1 ⟨rfl, H1, Q⟩; replace H := H1; clear H1; obtain ⟨c0, c1, c2, c3, c4, c5, c6⟩ := H.op; have hx := H.lt)
    | (go_at_call 80; refine (St.amount H).mono ?_; rintro e w1 (⟨b, s1, rfl, hb, H1, Q⟩ | ⟨ch, rfl, P⟩); rotate_left; (focus (go_wp2_with fail; exact ⟨rfl, P.met⟩)); replace H := H1; clear H1; obtain ⟨c0, c1, c2, c3, c4, c5, c6⟩ := H.op; have hx := H.lt)
    | (go_at_call 78; refine (St.less H hb on).mono ?_; rintro e w1 (⟨l, rfl, hl, H1, Q⟩ | ⟨ch, rfl, P⟩); rotate_left; (focus (go_wp2_with fail; exact ⟨rfl, P.met⟩)); replace H := H1; clear H1; obtain ⟨c0, c1, c2, c3, c4, c5, c6⟩ := H.op; have hx := H.lt)
    | (go_at_call 77; refine (St.more H hv.1 on).mono ?_; rintro e w1 (⟨m, rfl, hm, H1, Q⟩ | ⟨ch, rfl, P⟩); rotate_left; (focus (go_wp2_with fail; exact ⟨rfl, P.met⟩)); replace H := H1; clear H1; obtain ⟨c0, c1, c2, c3, c4, c5, c6⟩ := H.op; have hx := H.lt)
    | (go_at_call_of 74 (Value.agg #[.int .u8 1, .int .u32 (o.who), .int .u32 0]); refine (St.put H (purseK o.who) (by simp)).mono ?_; rintro e w1 ⟨rfl, H1, Q⟩; replace H := H1; clear H1; obtain ⟨c0, c1, c2, c3, c4, c5, c6⟩ := H.op; have hx := H.lt; obtain ⟨⟨u10, y10⟩, ⟨u11, y11⟩, ⟨u12, y12⟩⟩ := H.rep; have z10 := H.frozen 10; have z11 := H.frozen 11; have z12 := H.frozen 12)
    | (go_at_call_of 74 (Value.agg #[.int .u8 2, .int .u32 (o.who), .int .u32 0]); refine (St.put H (bankK o.who) (by simp)).mono ?_; rintro e w1 ⟨rfl, H1, Q⟩; replace H := H1; clear H1; obtain ⟨c0, c1, c2, c3, c4, c5, c6⟩ := H.op; have hx := H.lt; obtain ⟨⟨u10, y10⟩, ⟨u11, y11⟩, ⟨u12, y12⟩⟩ := H.rep; have z10 := H.frozen 10; have z11 := H.frozen 11; have z12 := H.frozen 12))
  go_end0
  exact ((H.setA _).setB _).met rfl
end
end Go.Proofs.YtdbpjbmalinlbaaGreat
