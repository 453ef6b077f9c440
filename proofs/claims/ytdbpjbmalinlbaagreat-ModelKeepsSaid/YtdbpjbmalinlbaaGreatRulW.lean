/- Contracts of party (printed by rulgen.py). -/
import Derived.Test.YtdbpjbmalinlbaaGreatRulV
namespace Go.Proofs.YtdbpjbmalinlbaaGreat
open Go.RowKit

section
variable {x : Nat} {o : OpV} {w0 w : World} {R : Res (List Pt × Rp)} {s : List Cel}

theorem Box.cell {B : Nat} {cs : Array Value} {ty : TypeId} (h : Box x B (.cells cs ty) w) (i : Nat) : w.cell? ⟨B, i, none⟩ = cs[i]? := cell_of_heap h.2 i

theorem St.fill5 {B : Nat} {a b c d e : Value} {ty : TypeId} {p : List Pt} {r : Rp} {t : T (List Pt × Rp)} {w1 : World} (h : St x o w0 R p r t s w) (z : Step x w1 w) (k : Box x B (.cells #[a, b, c, d, e] ty) w) (hx : x < w0.heap.size) (hx1 : x < w1.heap.size) (hB : w0.heap.size ≤ B) (hB1 : w1.heap.size ≤ B) (a' b' c' d' e' : Value) :
    St x o w0 R p r t s (((((w.setCell ⟨B, 0, none⟩ a').setCell ⟨B, 1, none⟩ b').setCell ⟨B, 2, none⟩ c').setCell ⟨B, 3, none⟩ d').setCell ⟨B, 4, none⟩ e') ∧ Step x w1 (((((w.setCell ⟨B, 0, none⟩ a').setCell ⟨B, 1, none⟩ b').setCell ⟨B, 2, none⟩ c').setCell ⟨B, 3, none⟩ d').setCell ⟨B, 4, none⟩ e') := by
  have k1 := k.put (i := 0) a'
  have k2 := k1.put (i := 1) b'
  have k3 := k2.put (i := 2) c'
  have k4 := k3.put (i := 3) d'
  exact ⟨((((h.setFar (q := ⟨B, 0, none⟩) hx k.1 hB a').setFar (q := ⟨B, 1, none⟩) hx k1.1 hB b').setFar (q := ⟨B, 2, none⟩) hx k2.1 hB c').setFar (q := ⟨B, 3, none⟩) hx k3.1 hB d').setFar (q := ⟨B, 4, none⟩) hx k4.1 hB e',
    ((((z.setNew (p := ⟨B, 0, none⟩) hx1 hB1 a').setNew (p := ⟨B, 1, none⟩) hx1 hB1 b').setNew (p := ⟨B, 2, none⟩) hx1 hB1 c').setNew (p := ⟨B, 3, none⟩) hx1 hB1 d').setNew (p := ⟨B, 4, none⟩) hx1 hB1 e'⟩

def partyT (o : OpV) : T (Vl × Int) :=
  (mustT (tradeK o.id)).bind fun v => if (v.1 / 4294967296 % 4294967296 != o.who) = true then (checkT (v.1 % 4294967296 == o.who) 213).bind fun _ => .done (v, 1) else (checkT (v.1 / 4294967296 % 4294967296 == o.who) 213).bind fun _ => .done (v, 0)

set_option maxRecDepth 100000 in
set_option maxHeartbeats 2000000 in
theorem party_st {g : Vl × Int → T (List Pt × Rp)} {p : List Pt} {r : Rp} (hx0 : x < w0.heap.size) (H : St x o w0 R p r ((partyT o).bind g) s w) :
    Calls Tryz.prog 61 #[.pointer (some ⟨x, 0, none⟩)] w fun e w' =>
      (∃ (v : Vl) (sd : Int) (s' : List Cel), e = .returned (.agg #[.int .u64 v.1, .int .u64 v.2, .int .u32 (v.1 / 4294967296 % 4294967296), .int .u32 (v.1 % 4294967296), .int .u32 sd]) ∧ VlOk v ∧ (sd = 0 ∨ sd = 1) ∧ St x o w0 R p r (g (v, sd)) s' w' ∧ Step x w w') ∨ (∃ ch, e = .panicked ch ∧ Pan x o w0 R ch w') := by
  obtain ⟨o0, o1, o2, o3, o4, on, op⟩ := H.opOk
  obtain ⟨c0, c1, c2, c3, c4, c5, c6⟩ := H.op
  have hx := H.lt
  unfold partyT at H
  have Z := Step.refl x w
  have hw0 := H.step.size
  have KR := Box.newS H (.cells #[.int .u64 0, .int .u64 0, .int .u32 0, .int .u32 0, .int .u32 0] 119)
  have H := H.alloc (.cells #[.int .u64 0, .int .u64 0, .int .u32 0, .int .u32 0, .int .u32 0] 119)
  have Z := Z.alloc hx (.cells #[.int .u64 0, .int .u64 0, .int .u32 0, .int .u32 0, .int .u32 0] 119)
  go_enter Tryz.func61, Tryz.ntmps61
  go_upto_region 3 with (first
    | (go_at_call 85; refine (St.key (trade_any _) H).mono ?_; rintro e w1 ⟨rfl, H1, Q⟩; replace H := H1; clear H1; obtain ⟨c0, c1, c2, c3, c4, c5, c6⟩ := H.op; have hx := H.lt; replace Z := Z.trans Q; replace KR := KR.step Q)
    | (go_at_call 75; refine (St.must H.assoc).mono ?_; rintro e w1 (⟨v, s1, rfl, hv, H1, Q⟩ | ⟨ch, rfl, P⟩); rotate_left; (focus (go_wp2_with fail; exact ⟨rfl, .inr ⟨_, rfl, P⟩⟩)); replace H := H1; clear H1; obtain ⟨c0, c1, c2, c3, c4, c5, c6⟩ := H.op; have hx := H.lt; replace Z := Z.trans Q; replace KR := KR.step Q; have fav := field_a v.1 v.2))
  have hxr := H.lt
  have hKR := KR.lt
  have H1 := H.alloc (.cells #[.int .u64 v.1, .int .u64 v.2] 48)
  have K2 := (Box.new H1.hand (.cells #[.int .u64 v.1, .int .u64 v.2, .int .u32 (v.1 / 4294967296 % 4294967296), .int .u32 (v.1 % 4294967296), .int .u32 0] 119) (World.size_alloc _ _)).drew
  have Z := (((Z.alloc hxr (.cells #[.int .u64 v.1, .int .u64 v.2] 48)).alloc H1.lt (.cells #[.int .u64 v.1, .int .u64 v.2, .int .u32 (v.1 / 4294967296 % 4294967296), .int .u32 (v.1 % 4294967296), .int .u32 0] 119))).drew
  have KR := (((KR.step ((Step.refl x _).alloc hxr (.cells #[.int .u64 v.1, .int .u64 v.2] 48))).step ((Step.refl x _).alloc H1.lt (.cells #[.int .u64 v.1, .int .u64 v.2, .int .u32 (v.1 / 4294967296 % 4294967296), .int .u32 (v.1 % 4294967296), .int .u32 0] 119)))).drew
  have H := (H1.alloc (.cells #[.int .u64 v.1, .int .u64 v.2, .int .u32 (v.1 / 4294967296 % 4294967296), .int .u32 (v.1 % 4294967296), .int .u32 0] 119)).drew
  clear H1
  obtain ⟨B2, hB2⟩ := K2.name
  rw [← hB2] at K2 ⊢
  have lB2 : w0.heap.size ≤ B2 := by have := Z.size; omega
  have lB3 : w.heap.size < B2 := by omega
  clear hB2
  have hxw : x < w.heap.size := by have := H.lt; omega
  obtain ⟨A1, hA1⟩ : ∃ a, a = v.1 / 4294967296 % 4294967296 := ⟨_, rfl⟩
  obtain ⟨A2, hA2⟩ : ∃ a, a = v.1 % 4294967296 := ⟨_, rfl⟩
  rw [← hA1, ← hA2] at H
  simp only [← hA1, ← hA2] at H K2 KR Z ⊢
  have HA1 := Lib.hid hA1
  have HA2 := Lib.hid hA2
  clear hA1 hA2
  cases hh : (A1 != o.who)
  · rw [hh, if_neg (by decide)] at H
    go_region_held2 (fun w' => w'.cell? ⟨B2, 2, none⟩ = some (.int .u32 A1) ∧ w'.cell? ⟨x, 1, none⟩ = some (.int .u32 o.who))
      (first | exact ⟨K2.cell 2, H.op.2.1⟩ | go_keep)
      (first
        | fail)
    all_goals (
      go_upto_region 5 with fail
      have H := H.drew
      have Z := Z.drew
      have KR := KR.drew
      have K2 := K2.drew
      go_region_held2 (fun w' => w'.cell? ⟨B2, 2, none⟩ = some (.int .u32 A1) ∧ w'.cell? ⟨B2, 4, none⟩ = some (.int .u32 0) ∧ w'.cell? ⟨x, 1, none⟩ = some (.int .u32 o.who))
        (first | exact ⟨K2.cell 2, K2.cell 4, H.op.2.1⟩ | go_keep)
        (first
          | (go_at_call 69; refine (St.check H.assoc).mono ?_; rintro e w1 (⟨rfl, hc, H1, Q⟩ | ⟨ch, rfl, P⟩); rotate_left; (focus (go_wp2_with fail; exact ⟨rfl, .inr ⟨_, rfl, P⟩⟩)); replace H := H1; clear H1; obtain ⟨c0, c1, c2, c3, c4, c5, c6⟩ := H.op; have hx := H.lt; replace Z := Z.trans Q; replace KR := KR.step Q; replace K2 := K2.step Q))
      all_goals (
        have r0 := KR.cell 0
        have z0 := KR.froz 0
        have m0 := K2.cell 0
        have r1 := KR.cell 1
        have z1 := KR.froz 1
        have m1 := K2.cell 1
        have r2 := KR.cell 2
        have z2 := KR.froz 2
        have m2 := K2.cell 2
        have r3 := KR.cell 3
        have z3 := KR.froz 3
        have m3 := K2.cell 3
        have r4 := KR.cell 4
        have z4 := KR.froz 4
        have m4 := K2.cell 4
        have lR := KR.lt
        go_wp2_with fail
        obtain ⟨HH, ZZ⟩ := H.fill5 Z KR hx0 hxw hw0 (Nat.le_refl _) (.int .u64 v.1) (.int .u64 v.2) (.int .u32 A1) (.int .u32 A2) (.int .u32 0)
        refine bodyPost_ret (v := .agg #[.int .u64 v.1, .int .u64 v.2, .int .u32 A1, .int .u32 A2, .int .u32 0]) (by simp [results, Tryz.results61, go_sem, r0, r1, r2, r3, r4]) rfl (.inl ⟨v, 0, _, ?_, hv, ?_, HH, ZZ⟩)
        · rw [HA1.out, HA2.out]
        · simp))
  · rw [hh, if_pos rfl] at H
    go_region_held2 (fun w' => w'.cell? ⟨B2, 2, none⟩ = some (.int .u32 A1) ∧ w'.cell? ⟨x, 1, none⟩ = some (.int .u32 o.who))
      (first | exact ⟨K2.cell 2, H.op.2.1⟩ | go_keep)
      (first
        | fail)
    all_goals (
      have y4 := K2.froz 4
      have x4 := K2.cell 4
      go_upto_region 5 with fail
      have H := H.setFar (q := ⟨B2, 4, none⟩) hx0 K2.1 lB2 (.int .u32 1)
      have Z := Z.setNew (p := ⟨B2, 4, none⟩) hxw (by show w.heap.size ≤ B2; omega) (.int .u32 1)
      have KR := KR.other (q := ⟨B2, 4, none⟩) (by show B2 ≠ w.heap.size; omega) K2.1.2.1 (.int .u32 1)
      have K2 := K2.put (i := 4) (.int .u32 1)
      simp only [List.setIfInBounds_toArray, List.set_cons_succ, List.set_cons_zero] at K2
      have H := H.drew
      have Z := Z.drew
      have KR := KR.drew
      have K2 := K2.drew
      go_region_held2 (fun w' => w'.cell? ⟨B2, 3, none⟩ = some (.int .u32 A2) ∧ w'.cell? ⟨B2, 4, none⟩ = some (.int .u32 1) ∧ w'.cell? ⟨x, 1, none⟩ = some (.int .u32 o.who))
        (first | exact ⟨K2.cell 3, K2.cell 4, H.op.2.1⟩ | go_keep)
        (first
          | (go_at_call 69; refine (St.check H.assoc).mono ?_; rintro e w1 (⟨rfl, hc, H1, Q⟩ | ⟨ch, rfl, P⟩); rotate_left; (focus (go_wp2_with fail; exact ⟨rfl, .inr ⟨_, rfl, P⟩⟩)); replace H := H1; clear H1; obtain ⟨c0, c1, c2, c3, c4, c5, c6⟩ := H.op; have hx := H.lt; replace Z := Z.trans Q; replace KR := KR.step Q; replace K2 := K2.step Q))
      all_goals (
        have r0 := KR.cell 0
        have z0 := KR.froz 0
        have m0 := K2.cell 0
        have r1 := KR.cell 1
        have z1 := KR.froz 1
        have m1 := K2.cell 1
        have r2 := KR.cell 2
        have z2 := KR.froz 2
        have m2 := K2.cell 2
        have r3 := KR.cell 3
        have z3 := KR.froz 3
        have m3 := K2.cell 3
        have r4 := KR.cell 4
        have z4 := KR.froz 4
        have m4 := K2.cell 4
        have lR := KR.lt
        go_wp2_with fail
        obtain ⟨HH, ZZ⟩ := H.fill5 Z KR hx0 hxw hw0 (Nat.le_refl _) (.int .u64 v.1) (.int .u64 v.2) (.int .u32 A1) (.int .u32 A2) (.int .u32 1)
        refine bodyPost_ret (v := .agg #[.int .u64 v.1, .int .u64 v.2, .int .u32 A1, .int .u32 A2, .int .u32 1]) (by simp [results, Tryz.results61, go_sem, r0, r1, r2, r3, r4]) rfl (.inl ⟨v, 1, _, ?_, hv, ?_, HH, ZZ⟩)
        · rw [HA1.out, HA2.out]
        · simp))
end
end Go.Proofs.YtdbpjbmalinlbaaGreat
