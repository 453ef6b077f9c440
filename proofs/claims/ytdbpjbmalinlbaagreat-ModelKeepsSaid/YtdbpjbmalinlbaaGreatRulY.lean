/- Contracts of agree (printed by rulgen.py). -/
import Derived.Test.YtdbpjbmalinlbaaGreatRulX
namespace Go.Proofs.YtdbpjbmalinlbaaGreat
open Go.RowKit

section
variable {x : Nat} {o : OpV} {w0 w : World} {R : Res (List Pt × Rp)} {s : List Cel}

def agreeT (o : OpV) : T (List Pt × Rp) :=
  (partyT o).bind fun d => if (bits BinOp.and .u64 d.1.2 (bits BinOp.xor .u64 (if d.2 = 0 then 1 else 2) 3) == 0) = true then .done ([⟨tradeK o.id, (d.1.1, bits BinOp.or .u64 d.1.2 (if d.2 = 0 then 1 else 2)), false⟩], rp0)
    else endT o (d.1.1 % 4294967296) (d.1.1 / 4294967296 % 4294967296)
def breakT (o : OpV) : T (List Pt × Rp) := (partyT o).bind fun d => endT o (d.1.1 / 4294967296 % 4294967296) (d.1.1 % 4294967296)

set_option maxRecDepth 100000 in
set_option maxHeartbeats 2000000 in
theorem agree_st (hx0 : x < w0.heap.size) (H : St x o w0 R [] rp0 (agreeT o) s w) :
    Calls Tryz.prog 59 #[.pointer (some ⟨x, 0, none⟩)] w (Mets' x o w0 R) := by
  obtain ⟨o0, o1, o2, o3, o4, on, op⟩ := H.opOk
  obtain ⟨c0, c1, c2, c3, c4, c5, c6⟩ := H.op
  have hx := H.lt
  unfold agreeT at H
  go_enter Tryz.func59, Tryz.ntmps59
  go_upto_region 1 with (first
    | (go_at_call 61; refine (party_st hx0 H).mono ?_; rintro e w1 (⟨v, sd, s1, rfl, hv, hsd, H1, Q⟩ | ⟨ch, rfl, P⟩); rotate_left; (focus (go_wp2_with fail; exact ⟨rfl, P.met⟩)); replace H := H1; clear H1; obtain ⟨c0, c1, c2, c3, c4, c5, c6⟩ := H.op; have hx := H.lt))
  have KB := Box.newS H (.cells #[.int .u64 v.1, .int .u64 v.2, .int .u32 (v.1 / 4294967296 % 4294967296), .int .u32 (v.1 % 4294967296), .int .u32 sd] 119)
  replace H := H.alloc (.cells #[.int .u64 v.1, .int .u64 v.2, .int .u32 (v.1 / 4294967296 % 4294967296), .int .u32 (v.1 % 4294967296), .int .u32 sd] 119)
  obtain ⟨BB, hBB⟩ := KB.name
  rw [← hBB] at KB ⊢
  clear hBB
  rcases hsd with rfl | rfl
  · replace H : St x o w0 R [] rp0 (if (bits BinOp.and .u64 v.2 (bits BinOp.xor .u64 1 3) == 0) = true then .done ([⟨tradeK o.id, (v.1, bits BinOp.or .u64 v.2 1), false⟩], rp0) else endT o (v.1 % 4294967296) (v.1 / 4294967296 % 4294967296)) s1 _ := H
    have m0 := KB.cell 0
    have m1 := KB.cell 1
    have m2 := KB.cell 2
    have m3 := KB.cell 3
    have m4 := KB.cell 4
    have lB := KB.lt
    obtain ⟨c0, c1, c2, c3, c4, c5, c6⟩ := H.op
    have hx := H.lt
    cases hb : (bits BinOp.and .u64 v.2 (bits BinOp.xor .u64 1 3) == 0)
    · rw [hb, if_neg (by decide)] at H
      go_wp2_with (first
        | (go_at_call 60; refine (end_st _ _ hx0 H).mono ?_; rintro e w1 M; rcases M.form with ⟨rfl, D⟩ | ⟨ch, rfl⟩; rotate_left; (focus (go_wp2_with fail; exact ⟨rfl, M⟩)); have hx := D.lt))
      go_end0
      exact M
    · rw [hb, if_pos rfl] at H
      go_upto_region 4 with fail
      have H := H.drew
      have KB := KB.drew
      go_region_held2 (fun w' => w'.cell? ⟨BB, 0, none⟩ = some (.int .u64 v.1) ∧ w'.cell? ⟨BB, 1, none⟩ = some (.int .u64 v.2) ∧ w'.cell? ⟨x, 4, none⟩ = some (.int .u32 o.id))
        (first | exact ⟨KB.cell 0, KB.cell 1, H.op.2.2.2.2.1⟩ | exact ⟨m0, m1, c4⟩ | go_keep)
        (first
          | (go_at_call 85; refine (St.key (trade_any _) H).mono ?_; rintro e w1 ⟨rfl, H1, Q⟩; replace H := H1; clear H1; obtain ⟨c0, c1, c2, c3, c4, c5, c6⟩ := H.op; have hx := H.lt; replace KB := KB.step Q; have m0 : w1.cell? ⟨BB, 0, none⟩ = some (.int .u64 v.1) := KB.cell 0; have m1 : w1.cell? ⟨BB, 1, none⟩ = some (.int .u64 v.2) := KB.cell 1)
          | (go_at_call 84; refine (St.set H (tradeK o.id) ((v.1, bits BinOp.or .u64 v.2 1)) (by simp)).mono ?_; rintro e w1 ⟨rfl, H1, Q⟩; replace H := H1; clear H1; obtain ⟨c0, c1, c2, c3, c4, c5, c6⟩ := H.op; have hx := H.lt; obtain ⟨⟨u10, y10⟩, ⟨u11, y11⟩, ⟨u12, y12⟩⟩ := H.rep; have z10 := H.frozen 10; have z11 := H.frozen 11; have z12 := H.frozen 12; replace KB := KB.step Q; have m0 : w1.cell? ⟨BB, 0, none⟩ = some (.int .u64 v.1) := KB.cell 0; have m1 : w1.cell? ⟨BB, 1, none⟩ = some (.int .u64 v.2) := KB.cell 1))
      all_goals (
        go_wp2_with fail
        exact bodyPost_ret (v := .tuple #[]) (by simp [results, Tryz.results59, go_sem]) rfl (H.met rfl))
  · replace H : St x o w0 R [] rp0 (if (bits BinOp.and .u64 v.2 (bits BinOp.xor .u64 2 3) == 0) = true then .done ([⟨tradeK o.id, (v.1, bits BinOp.or .u64 v.2 2), false⟩], rp0) else endT o (v.1 % 4294967296) (v.1 / 4294967296 % 4294967296)) s1 _ := H
    have m0 := KB.cell 0
    have m1 := KB.cell 1
    have m2 := KB.cell 2
    have m3 := KB.cell 3
    have m4 := KB.cell 4
    have lB := KB.lt
    obtain ⟨c0, c1, c2, c3, c4, c5, c6⟩ := H.op
    have hx := H.lt
    cases hb : (bits BinOp.and .u64 v.2 (bits BinOp.xor .u64 2 3) == 0)
    · rw [hb, if_neg (by decide)] at H
      go_wp2_with (first
        | (go_at_call 60; refine (end_st _ _ hx0 H).mono ?_; rintro e w1 M; rcases M.form with ⟨rfl, D⟩ | ⟨ch, rfl⟩; rotate_left; (focus (go_wp2_with fail; exact ⟨rfl, M⟩)); have hx := D.lt))
      go_end0
      exact M
    · rw [hb, if_pos rfl] at H
      go_upto_region 4 with fail
      have H := H.drew
      have KB := KB.drew
      go_region_held2 (fun w' => w'.cell? ⟨BB, 0, none⟩ = some (.int .u64 v.1) ∧ w'.cell? ⟨BB, 1, none⟩ = some (.int .u64 v.2) ∧ w'.cell? ⟨x, 4, none⟩ = some (.int .u32 o.id))
        (first | exact ⟨KB.cell 0, KB.cell 1, H.op.2.2.2.2.1⟩ | exact ⟨m0, m1, c4⟩ | go_keep)
        (first
          | (go_at_call 85; refine (St.key (trade_any _) H).mono ?_; rintro e w1 ⟨rfl, H1, Q⟩; replace H := H1; clear H1; obtain ⟨c0, c1, c2, c3, c4, c5, c6⟩ := H.op; have hx := H.lt; replace KB := KB.step Q; have m0 : w1.cell? ⟨BB, 0, none⟩ = some (.int .u64 v.1) := KB.cell 0; have m1 : w1.cell? ⟨BB, 1, none⟩ = some (.int .u64 v.2) := KB.cell 1)
          | (go_at_call 84; refine (St.set H (tradeK o.id) ((v.1, bits BinOp.or .u64 v.2 2)) (by simp)).mono ?_; rintro e w1 ⟨rfl, H1, Q⟩; replace H := H1; clear H1; obtain ⟨c0, c1, c2, c3, c4, c5, c6⟩ := H.op; have hx := H.lt; obtain ⟨⟨u10, y10⟩, ⟨u11, y11⟩, ⟨u12, y12⟩⟩ := H.rep; have z10 := H.frozen 10; have z11 := H.frozen 11; have z12 := H.frozen 12; replace KB := KB.step Q; have m0 : w1.cell? ⟨BB, 0, none⟩ = some (.int .u64 v.1) := KB.cell 0; have m1 : w1.cell? ⟨BB, 1, none⟩ = some (.int .u64 v.2) := KB.cell 1))
      all_goals (
        go_wp2_with fail
        exact bodyPost_ret (v := .tuple #[]) (by simp [results, Tryz.results59, go_sem]) rfl (H.met rfl))
end
end Go.Proofs.YtdbpjbmalinlbaaGreat
