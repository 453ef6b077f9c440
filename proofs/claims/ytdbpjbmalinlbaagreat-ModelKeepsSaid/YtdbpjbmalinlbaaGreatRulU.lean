/- Contracts of pair, give, sell (printed by rulgen.py). -/
import Derived.Test.YtdbpjbmalinlbaaGreatRulT
namespace Go.Proofs.YtdbpjbmalinlbaaGreat
open Go.RowKit

section
variable {x : Nat} {o : OpV} {w0 w : World} {R : Res (List Pt × Rp)} {s : List Cel}

def pairV (a b : Int) : Int := bits BinOp.or .u64 (a * 4294967296) b
set_option maxHeartbeats 400000 in
theorem pair_any (a b : Int) (w : World) (a0 : 0 ≤ a) (a1 : a ≤ 4294967295) (b0 : 0 ≤ b) (b1 : b ≤ 4294967295) : Calls Tryz.prog 86 #[.int .u32 a, .int .u32 b] w fun e w' => e = .returned (.int .u64 (pairV a b)) ∧ w = w' := by
  unfold pairV
  go_enter Tryz.func86, Tryz.ntmps86
  go_wp2
  go_ret
  exact ⟨rfl, rfl⟩
theorem Met.form {e : Ending} {w' : World} (M : Mets' x o w0 R e w') : (e = .returned (.tuple #[]) ∧ Dead x o w') ∨ ∃ ch, e = .panicked ch := by
  obtain ⟨_, ⟨_, _, _, h, H⟩ | ⟨_, _, h, _⟩ | ⟨_, _, h, _⟩⟩ := M.split
  · exact .inl ⟨h, H.dead⟩
  · exact .inr ⟨_, h⟩
  · exact .inr ⟨_, h⟩
theorem Dead.op (h : Dead x o w) : w.cell? ⟨x, 0, none⟩ = some (.int .u8 o.kind) ∧ w.cell? ⟨x, 1, none⟩ = some (.int .u32 o.who) ∧ w.cell? ⟨x, 2, none⟩ = some (.int .u32 o.whom) ∧ w.cell? ⟨x, 3, none⟩ = some (.int .u32 o.what) ∧
    w.cell? ⟨x, 4, none⟩ = some (.int .u32 o.id) ∧ w.cell? ⟨x, 5, none⟩ = some (.int .u64 o.n) ∧ w.cell? ⟨x, 6, none⟩ = some (.int .u64 o.price) := by
  obtain ⟨_, _, _, h⟩ := h; exact h.op
theorem Dead.lt (h : Dead x o w) : x < w.heap.size := by obtain ⟨_, _, _, h⟩ := h; exact h.lt

def payT (o : OpV) : T (List Pt × Rp) := (mustT (purseK o.whom)).bind fun _ => moveT o (bankK o.who) (bankK o.whom)
def giveT (o : OpV) : T (List Pt × Rp) := (mustT (purseK o.who)).bind fun _ => (mustT (purseK o.whom)).bind fun _ => moveT o (stackK o.who o.what) (stackK o.whom o.what)
def startT (o : OpV) : T (List Pt × Rp) := (mustT (purseK o.who)).bind fun _ => (mustT (purseK o.whom)).bind fun _ => (numT 4).bind fun id =>
  .done ([putP (countK 4) id, ⟨tradeK id, (pairV o.who o.whom, 0), false⟩], ⟨0, id, 0, 0⟩)

set_option maxRecDepth 100000 in
set_option maxHeartbeats 2000000 in
theorem pay_st (hk : o.kind = 8) (H : St x o w0 R [] rp0 (payT o) s w) :
    Calls Tryz.prog 56 #[.pointer (some ⟨x, 0, none⟩)] w (Mets' x o w0 R) := by
  obtain ⟨o0, o1, o2, o3, o4, on, op⟩ := H.opOk
  obtain ⟨c0, c1, c2, c3, c4, c5, c6⟩ := H.op
  have hx := H.lt
  rw [hk] at c0
  unfold payT at H
  go_enter Tryz.func56, Tryz.ntmps56
  go_wp2_with (first
    | (go_at_call 73; refine (St.key (purse_a _) H).mono ?_; rintro e w1 ⟨rfl, H1, Q⟩; replace H := H1; clear H1; obtain ⟨c0, c1, c2, c3, c4, c5, c6⟩ := H.op; have hx := H.lt)
    | (go_at_call 75; refine (St.must H).mono ?_; rintro e w1 (⟨v, s1, rfl, hv, H1, Q⟩ | ⟨ch, rfl, P⟩); rotate_left; (focus (go_wp2_with fail; exact ⟨rfl, P.met⟩)); replace H := H1; clear H1; obtain ⟨c0, c1, c2, c3, c4, c5, c6⟩ := H.op; have hx := H.lt; rw [hk] at c0; have fav := field_a v.1 v.2))
  have H := H.drew
  go_region_held2 (fun w' => w'.cell? ⟨x, 1, none⟩ = some (.int .u32 o.who) ∧ w'.cell? ⟨x, 2, none⟩ = some (.int .u32 o.whom))
    (first | exact ⟨H.op.2.1, H.op.2.2.1⟩ | exact ⟨D.op.2.1, D.op.2.2.1⟩ | go_keep)
    (first
      | (go_at_call 81; refine (St.key (bank_any _) H).mono ?_; rintro e w1 ⟨rfl, H1, Q⟩; replace H := H1; clear H1; obtain ⟨c0, c1, c2, c3, c4, c5, c6⟩ := H.op; have hx := H.lt)
      | (go_at_call 82; refine (move_st (bankK o.who) (bankK o.whom) H).mono ?_; rintro e w1 M; rcases M.form with ⟨rfl, D⟩ | ⟨ch, rfl⟩; rotate_left; (focus (go_wp2_with fail; exact ⟨rfl, M⟩)); have hx := D.lt))
  all_goals (
    go_wp2_with fail
    go_end0
    exact M)

set_option maxRecDepth 100000 in
set_option maxHeartbeats 2000000 in
theorem give_st (hk : o.kind = 9) (H : St x o w0 R [] rp0 (giveT o) s w) :
    Calls Tryz.prog 56 #[.pointer (some ⟨x, 0, none⟩)] w (Mets' x o w0 R) := by
  obtain ⟨o0, o1, o2, o3, o4, on, op⟩ := H.opOk
  obtain ⟨c0, c1, c2, c3, c4, c5, c6⟩ := H.op
  have hx := H.lt
  rw [hk] at c0
  unfold giveT at H
  go_enter Tryz.func56, Tryz.ntmps56
  go_wp2_with (first
    | (go_at_call 73; refine (St.key (purse_a _) H).mono ?_; rintro e w1 ⟨rfl, H1, Q⟩; replace H := H1; clear H1; obtain ⟨c0, c1, c2, c3, c4, c5, c6⟩ := H.op; have hx := H.lt)
    | (go_at_call 75; refine (St.must H).mono ?_; rintro e w1 (⟨v, s1, rfl, hv, H1, Q⟩ | ⟨ch, rfl, P⟩); rotate_left; (focus (go_wp2_with fail; exact ⟨rfl, P.met⟩)); replace H := H1; clear H1; obtain ⟨c0, c1, c2, c3, c4, c5, c6⟩ := H.op; have hx := H.lt; rw [hk] at c0; have fav := field_a v.1 v.2))
  have H := H.drew
  go_region_held2 (fun w' => w'.cell? ⟨x, 1, none⟩ = some (.int .u32 o.who) ∧ w'.cell? ⟨x, 2, none⟩ = some (.int .u32 o.whom) ∧ w'.cell? ⟨x, 3, none⟩ = some (.int .u32 o.what))
    (first | exact ⟨H.op.2.1, H.op.2.2.1, H.op.2.2.2.1⟩ | exact ⟨D.op.2.1, D.op.2.2.1, D.op.2.2.2.1⟩ | go_keep)
    (first
      | (go_at_call 79; refine (St.key (stack_any _ _) H).mono ?_; rintro e w1 ⟨rfl, H1, Q⟩; replace H := H1; clear H1; obtain ⟨c0, c1, c2, c3, c4, c5, c6⟩ := H.op; have hx := H.lt)
      | (go_at_call 82; refine (move_st (stackK o.who o.what) (stackK o.whom o.what) H).mono ?_; rintro e w1 M; rcases M.form with ⟨rfl, D⟩ | ⟨ch, rfl⟩; rotate_left; (focus (go_wp2_with fail; exact ⟨rfl, M⟩)); have hx := D.lt))
  all_goals (
    go_wp2_with fail
    go_end0
    exact M)

set_option maxRecDepth 100000 in
set_option maxHeartbeats 2000000 in
theorem start_st (hk : o.kind = 11) (H : St x o w0 R [] rp0 (startT o) s w) :
    Calls Tryz.prog 56 #[.pointer (some ⟨x, 0, none⟩)] w (Mets' x o w0 R) := by
  obtain ⟨o0, o1, o2, o3, o4, on, op⟩ := H.opOk
  obtain ⟨c0, c1, c2, c3, c4, c5, c6⟩ := H.op
  have hx := H.lt
  rw [hk] at c0
  unfold startT at H
  go_enter Tryz.func56, Tryz.ntmps56
  go_wp2_with (first
    | (go_at_call 73; refine (St.key (purse_a _) H).mono ?_; rintro e w1 ⟨rfl, H1, Q⟩; replace H := H1; clear H1; obtain ⟨c0, c1, c2, c3, c4, c5, c6⟩ := H.op; have hx := H.lt)
    | (go_at_call 75; refine (St.must H).mono ?_; rintro e w1 (⟨v, s1, rfl, hv, H1, Q⟩ | ⟨ch, rfl, P⟩); rotate_left; (focus (go_wp2_with fail; exact ⟨rfl, P.met⟩)); replace H := H1; clear H1; obtain ⟨c0, c1, c2, c3, c4, c5, c6⟩ := H.op; have hx := H.lt; rw [hk] at c0; have fav := field_a v.1 v.2)
    | (go_at_call 83; refine (number_st H (by simp) (by decide) (by decide)).mono ?_; rintro e w1 (⟨id, s1, rfl, hid, H1, Q⟩ | ⟨ch, rfl, P⟩); rotate_left; (focus (go_wp2_with fail; exact ⟨rfl, P.met⟩)); replace H := H1; clear H1; obtain ⟨c0, c1, c2, c3, c4, c5, c6⟩ := H.op; have hx := H.lt; obtain ⟨⟨u10, y10⟩, ⟨u11, y11⟩, ⟨u12, y12⟩⟩ := H.rep; have z10 := H.frozen 10; have z11 := H.frozen 11; have z12 := H.frozen 12))
  have H := H.drew
  go_region_held2 (fun w' => w'.cell? ⟨x, 1, none⟩ = some (.int .u32 o.who) ∧ w'.cell? ⟨x, 2, none⟩ = some (.int .u32 o.whom))
    (first | exact ⟨H.op.2.1, H.op.2.2.1⟩ | go_keep)
    (first
      | (go_at_call 85; refine (St.key (trade_any _) H).mono ?_; rintro e w1 ⟨rfl, H1, Q⟩; replace H := H1; clear H1; obtain ⟨c0, c1, c2, c3, c4, c5, c6⟩ := H.op; have hx := H.lt)
      | (go_at_call 86; refine (pair_any _ _ _ o1.1 o1.2 o2.1 o2.2).mono ?_; rintro e w1 ⟨rfl, rfl⟩)
      | (go_at_call 84; refine (St.set H (tradeK id) ((pairV o.who o.whom, 0)) (by simp)).mono ?_; rintro e w1 ⟨rfl, H1, Q⟩; replace H := H1; clear H1; obtain ⟨c0, c1, c2, c3, c4, c5, c6⟩ := H.op; have hx := H.lt; obtain ⟨⟨u10, y10⟩, ⟨u11, y11⟩, ⟨u12, y12⟩⟩ := H.rep; have z10 := H.frozen 10; have z11 := H.frozen 11; have z12 := H.frozen 12))
  all_goals (
    go_wp2_with fail
    go_end0
    exact (H.setA _).met rfl)

def sellT (o : OpV) : T (List Pt × Rp) :=
  (mustT (purseK o.who)).bind fun _ => (amountT (stackK o.who o.what)).bind fun a => (lessT a o.n).bind fun l => (numT 6).bind fun id =>
    .done ([putP (stackK o.who o.what) l, putP (countK 6) id, ⟨auctionK id, (pairV o.who o.what, o.n), false⟩, ⟨priceK id, (o.price, 0), false⟩], ⟨0, id, 0, 0⟩)

set_option maxRecDepth 100000 in
set_option maxHeartbeats 2000000 in
theorem sell_st (hx0 : x < w0.heap.size) (H : St x o w0 R [] rp0 (sellT o) s w) :
    Calls Tryz.prog 62 #[.pointer (some ⟨x, 0, none⟩)] w (Mets' x o w0 R) := by
  obtain ⟨o0, o1, o2, o3, o4, on, op⟩ := H.opOk
  obtain ⟨c0, c1, c2, c3, c4, c5, c6⟩ := H.op
  have hx := H.lt
  unfold sellT at H
  have hw0 := H.step.size
  go_enter Tryz.func62, Tryz.ntmps62
  go_wp2_with (first
    | (go_at_call 73; refine (St.key (purse_a _) H).mono ?_; rintro e w1 ⟨rfl, H1, Q⟩; replace H := H1; clear H1; obtain ⟨c0, c1, c2, c3, c4, c5, c6⟩ := H.op; have hx := H.lt)
    | (go_at_call 75; refine (St.must H).mono ?_; rintro e w1 (⟨v, s1, rfl, hv, H1, Q⟩ | ⟨ch, rfl, P⟩); rotate_left; (focus (go_wp2_with fail; exact ⟨rfl, P.met⟩)); replace H := H1; clear H1; obtain ⟨c0, c1, c2, c3, c4, c5, c6⟩ := H.op; have hx := H.lt; have hw0 := H.step.size; have fav := field_a v.1 v.2))
  go_region_held2 (fun w' => w'.cell? ⟨x, 1, none⟩ = some (.int .u32 o.who) ∧ w'.cell? ⟨x, 3, none⟩ = some (.int .u32 o.what))
    (first | exact ⟨H.op.2.1, H.op.2.2.2.1⟩ | go_keep | exact ⟨cell_past (by omega) (cell_past (by omega) (cell_past (by omega) H.op.2.1)), cell_past (by omega) (cell_past (by omega) (cell_past (by omega) H.op.2.2.2.1))⟩)
    (first
      | (go_at_call 79; first | (refine (St.key (stack_any _ _) H.drew).mono ?_; rintro e w1 ⟨rfl, H1, Q⟩; replace H := H1; clear H1; obtain ⟨c0, c1, c2, c3, c4, c5, c6⟩ := H.op; have hx := H.lt) | (refine (St.key (stack_any _ _) (H.drew.alloc (.cells #[.int .u8 0, .int .u32 0, .int .u32 0] 52))).mono ?_; rintro e w1 ⟨rfl, H2, Q⟩; have K1 := (Box.newD H (.cells #[.int .u8 0, .int .u32 0, .int .u32 0] 52)).step Q; have H1 := H2; obtain ⟨a0, a1, a2, la⟩ := K1.three; have y0 := K1.froz 0; have y1 := K1.froz 1; have y2 := K1.froz 2; replace H := H1; clear H1; obtain ⟨c0, c1, c2, c3, c4, c5, c6⟩ := H.op; have hx := H.lt)))
  all_goals (
    first
      | (have HK := St.fill3 H K1 hx0 hw0 (.int .u8 3) (.int .u32 o.who) (.int .u32 o.what)
         obtain ⟨H, K1⟩ := HK)
      | (have K1 := Box.newS H (.cells #[.int .u8 3, .int .u32 o.who, .int .u32 o.what] 52)
         have H := H.alloc (.cells #[.int .u8 3, .int .u32 o.who, .int .u32 o.what] 52))
    obtain ⟨B, hB⟩ := K1.name
    rw [← hB] at K1 ⊢
    (try rw [← hB] at H)
    clear hB
    obtain ⟨a0, a1, a2, la⟩ := K1.three
    obtain ⟨c0, c1, c2, c3, c4, c5, c6⟩ := H.op
    have hx := H.lt
    go_upto_region 2 with fail
    have H := H.drew
    have K1 := K1.drew
    go_region_held2 (fun w' => w'.cell? ⟨B, 0, none⟩ = some (.int .u8 3) ∧ w'.cell? ⟨B, 1, none⟩ = some (.int .u32 o.who) ∧ w'.cell? ⟨B, 2, none⟩ = some (.int .u32 o.what) ∧ w'.cell? ⟨x, 5, none⟩ = some (.int .u64 o.n))
      (first | exact ⟨K1.three.1, K1.three.2.1, K1.three.2.2.1, H.op.2.2.2.2.2.1⟩ | go_keep)
      (first
        | (go_at_call 80; refine (St.amount H).mono ?_; rintro e w1 (⟨a, s1, rfl, ha, H1, Q⟩ | ⟨ch, rfl, P⟩); rotate_left; (focus (go_wp2_with fail; exact ⟨rfl, P.met⟩)); replace H := H1; clear H1; obtain ⟨c0, c1, c2, c3, c4, c5, c6⟩ := H.op; have hx := H.lt; replace K1 := K1.step Q)
        | (go_at_call 78; refine (St.less H ha on).mono ?_; rintro e w1 (⟨l, rfl, hl, H1, Q⟩ | ⟨ch, rfl, P⟩); rotate_left; (focus (go_wp2_with fail; exact ⟨rfl, P.met⟩)); replace H := H1; clear H1; obtain ⟨c0, c1, c2, c3, c4, c5, c6⟩ := H.op; have hx := H.lt; replace K1 := K1.step Q)
        | (go_at_call_of 74 (Value.agg #[.int .u8 3, .int .u32 (o.who), .int .u32 (o.what)]); refine (St.put H (stackK o.who o.what) (by simp)).mono ?_; rintro e w1 ⟨rfl, H1, Q⟩; replace H := H1; clear H1; obtain ⟨c0, c1, c2, c3, c4, c5, c6⟩ := H.op; have hx := H.lt; obtain ⟨⟨u10, y10⟩, ⟨u11, y11⟩, ⟨u12, y12⟩⟩ := H.rep; have z10 := H.frozen 10; have z11 := H.frozen 11; have z12 := H.frozen 12; replace K1 := K1.step Q))
    all_goals (
      go_wp2_with (go_at_call 83; refine (number_st H (by simp) (by decide) (by decide)).mono ?_; rintro e w1 (⟨id, s1, rfl, hid, H1, Q⟩ | ⟨ch, rfl, P⟩); rotate_left; (focus (go_wp2_with fail; exact ⟨rfl, P.met⟩)); replace H := H1; clear H1; obtain ⟨c0, c1, c2, c3, c4, c5, c6⟩ := H.op; have hx := H.lt; obtain ⟨⟨u10, y10⟩, ⟨u11, y11⟩, ⟨u12, y12⟩⟩ := H.rep; have z10 := H.frozen 10; have z11 := H.frozen 11; have z12 := H.frozen 12)
      have H := H.drew
      go_region_held2 (fun w' => w'.cell? ⟨x, 1, none⟩ = some (.int .u32 o.who) ∧ w'.cell? ⟨x, 3, none⟩ = some (.int .u32 o.what) ∧ w'.cell? ⟨x, 5, none⟩ = some (.int .u64 o.n))
        (first | exact ⟨H.op.2.1, H.op.2.2.2.1, H.op.2.2.2.2.2.1⟩ | go_keep)
        (first
          | (go_at_call 92; refine (St.key (auction_any _) H).mono ?_; rintro e w1 ⟨rfl, H1, Q⟩; replace H := H1; clear H1; obtain ⟨c0, c1, c2, c3, c4, c5, c6⟩ := H.op; have hx := H.lt)
          | (go_at_call 86; refine (pair_any _ _ _ o1.1 o1.2 o3.1 o3.2).mono ?_; rintro e w1 ⟨rfl, rfl⟩)
          | (go_at_call 84; refine (St.set H (auctionK id) ((pairV o.who o.what, o.n)) (by simp)).mono ?_; rintro e w1 ⟨rfl, H1, Q⟩; replace H := H1; clear H1; obtain ⟨c0, c1, c2, c3, c4, c5, c6⟩ := H.op; have hx := H.lt; obtain ⟨⟨u10, y10⟩, ⟨u11, y11⟩, ⟨u12, y12⟩⟩ := H.rep; have z10 := H.frozen 10; have z11 := H.frozen 11; have z12 := H.frozen 12))
      all_goals (
        go_upto_region 5 with fail
        have H := H.drew
        go_region_held2 (fun w' => w'.cell? ⟨x, 6, none⟩ = some (.int .u64 o.price))
          (first | exact H.op.2.2.2.2.2.2 | go_keep)
          (first
            | (go_at_call 93; refine (St.key (price_any _) H).mono ?_; rintro e w1 ⟨rfl, H1, Q⟩; replace H := H1; clear H1; obtain ⟨c0, c1, c2, c3, c4, c5, c6⟩ := H.op; have hx := H.lt)
            | (go_at_call 84; refine (St.set H (priceK id) ((o.price, 0)) (by simp)).mono ?_; rintro e w1 ⟨rfl, H1, Q⟩; replace H := H1; clear H1; obtain ⟨c0, c1, c2, c3, c4, c5, c6⟩ := H.op; have hx := H.lt; obtain ⟨⟨u10, y10⟩, ⟨u11, y11⟩, ⟨u12, y12⟩⟩ := H.rep; have z10 := H.frozen 10; have z11 := H.frozen 11; have z12 := H.frozen 12))
        all_goals (
          go_wp2_with fail
          go_end0
          exact (H.setA _).met rfl))))
end
end Go.Proofs.YtdbpjbmalinlbaaGreat
