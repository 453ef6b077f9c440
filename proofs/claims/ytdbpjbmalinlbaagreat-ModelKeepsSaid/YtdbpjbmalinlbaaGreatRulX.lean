/- Contracts of thing, end (printed by rulgen.py). -/
import Derived.Test.YtdbpjbmalinlbaaGreatRulW
namespace Go.Proofs.YtdbpjbmalinlbaaGreat
open Go.RowKit

section
variable {x : Nat} {o : OpV} {w0 w : World} {R : Res (List Pt × Rp)} {s : List Cel}

def thingK (who what : Int) : Ky := if what = 0 then (1, who, 0) else (3, who, what % 4294967296)
set_option maxHeartbeats 400000 in
theorem thing_any (who what : Int) (w : World) : Calls Tryz.prog 91 #[.int .u32 who, .int .u64 what] w fun e w' => e = .returned (.agg #[.int .u8 (thingK who what).1, .int .u32 (thingK who what).2.1, .int .u32 (thingK who what).2.2]) ∧ Below w.heap.size w w' := by
  by_cases h : what = 0
  · have hk : thingK who what = (1, who, 0) := by unfold thingK; rw [if_pos h]
    rw [hk]
    clear hk
    subst h
    go_enter Tryz.func91, Tryz.ntmps91
    go_wp2_with (refine (purse_a _ _).mono ?_; rintro e w' ⟨rfl, rfl⟩)
    exact bodyPost_ret (v := .agg #[.int .u8 1, .int .u32 who, .int .u32 0]) (by simp [results, Tryz.results91, go_sem]) rfl ⟨rfl, (below_alloc _ _).alloc (by simp) _⟩
  · have hk : thingK who what = (3, who, what % 4294967296) := by unfold thingK; rw [if_neg h]
    rw [hk]
    clear hk
    go_enter Tryz.func91, Tryz.ntmps91
    go_wp2_with (refine (stack_any _ _ _).mono ?_; rintro e w' ⟨rfl, rfl⟩)
    exact bodyPost_ret (v := .agg #[.int .u8 3, .int .u32 who, .int .u32 (what % 4294967296)]) (by simp [results, Tryz.results91, go_sem]) rfl ⟨rfl, (below_alloc _ _).alloc (by simp) _⟩

theorem St.set21 {BV BI i j : Nat} {cv ci : Array Value} {tv ti : TypeId} {p : List Pt} {r : Rp} {t : T (List Pt × Rp)} (h : St x o w0 R p r t s w) (kv : Box x BV (.cells cv tv) w) (ki : Box x BI (.cells ci ti) w) (hx : x < w0.heap.size) (hV : w0.heap.size ≤ BV) (hI : w0.heap.size ≤ BI) (hne : BV ≠ BI) (u1 u2 u3 : Value) :
    St x o w0 R p r t s (((w.setCell ⟨BV, i, none⟩ u1).setCell ⟨BV, i + 1, none⟩ u2).setCell ⟨BI, j, none⟩ u3) ∧ Box x BV (.cells ((cv.setIfInBounds i u1).setIfInBounds (i + 1) u2) tv) (((w.setCell ⟨BV, i, none⟩ u1).setCell ⟨BV, i + 1, none⟩ u2).setCell ⟨BI, j, none⟩ u3) ∧
      Box x BI (.cells (ci.setIfInBounds j u3) ti) (((w.setCell ⟨BV, i, none⟩ u1).setCell ⟨BV, i + 1, none⟩ u2).setCell ⟨BI, j, none⟩ u3) ∧
      ∀ B ob, B ≠ BV → B ≠ BI → Box x B ob w → Box x B ob (((w.setCell ⟨BV, i, none⟩ u1).setCell ⟨BV, i + 1, none⟩ u2).setCell ⟨BI, j, none⟩ u3) := by
  have v1 := kv.put (i := i) u1
  have v2 := v1.put (i := i + 1) u2
  have i1 := ki.other (q := ⟨BV, i, none⟩) hne kv.1.2.1 u1
  have i2 := i1.other (q := ⟨BV, i + 1, none⟩) hne kv.1.2.1 u2
  exact ⟨((h.setFar (q := ⟨BV, i, none⟩) hx kv.1 hV u1).setFar (q := ⟨BV, i + 1, none⟩) hx v1.1 hV u2).setFar (q := ⟨BI, j, none⟩) hx i2.1 hI u3, v2.other (q := ⟨BI, j, none⟩) (Ne.symm hne) ki.1.2.1 u3, i2.put u3,
    fun B ob n1 n2 k => ((k.other (q := ⟨BV, i, none⟩) (Ne.symm n1) kv.1.2.1 u1).other (q := ⟨BV, i + 1, none⟩) (Ne.symm n1) kv.1.2.1 u2).other (q := ⟨BI, j, none⟩) (Ne.symm n2) ki.1.2.1 u3⟩

def partT (q : List Pt) (v : Option Vl) (who : Int) : T (List Pt) :=
  match v with
  | none => .done q
  | some v => (amountT (thingK who v.2)).bind fun c => (moreT c v.1).bind fun m => .done (q ++ [putP (thingK who v.2) m])
def goneL (q : List Pt) (v : Option Vl) (k : Ky) : List Pt := if v.isSome then q ++ [goneP k] else q
def endT4 (o : OpV) (v0 v1 : Option Vl) (q1 : List Pt) : T (List Pt × Rp) := .done (goneL (goneL q1 v0 (offerK o.id 0)) v1 (offerK o.id 1) ++ [goneP (tradeK o.id)], ⟨0, 1, 0, 0⟩)
def endT3 (o : OpV) (b : Int) (v0 v1 : Option Vl) (q0 : List Pt) : T (List Pt × Rp) := (partT q0 v1 b).bind fun q1 => endT4 o v0 v1 q1
def endT2 (o : OpV) (a b : Int) (v0 v1 : Option Vl) : T (List Pt × Rp) := (partT [] v0 a).bind fun q0 => endT3 o b v0 v1 q0
def endT1 (o : OpV) (a b : Int) (v0 : Option Vl) : T (List Pt × Rp) := (seeT (offerK o.id 1)).bind fun v1 => endT2 o a b v0 v1
def endT (o : OpV) (a b : Int) : T (List Pt × Rp) := (seeT (offerK o.id 0)).bind fun v0 => endT1 o a b v0
theorem index_0 (a b : Int) : ∀ w : World, (Instr.index 117 (.agg #[.int .u32 a, .int .u32 b]) (.int .i64 0)).run Tryz.prog w = .ok (.int .u32 a) w := fun _ => by kernel_rfl
theorem index_1 (a b : Int) : ∀ w : World, (Instr.index 117 (.agg #[.int .u32 a, .int .u32 b]) (.int .i64 1)).run Tryz.prog w = .ok (.int .u32 b) w := fun _ => by kernel_rfl
theorem goneL_len (q : List Pt) (v : Option Vl) (k : Ky) : (goneL q v k).length ≤ q.length + 1 := by unfold goneL; split <;> simp
/-- The three boxes: to whom; what was offered; whether it was. -/
def Ends (x BA BV BI : Nat) (a b : Int) (v0 v1 : Option Vl) (i0 i1 : Bool) (w : World) : Prop :=
  Box x BA (.cells #[.int .u32 a, .int .u32 b] 117) w ∧ Box x BV (.cells #[.int .u64 (v0.getD (0, 0)).1, .int .u64 (v0.getD (0, 0)).2, .int .u64 (v1.getD (0, 0)).1, .int .u64 (v1.getD (0, 0)).2] 147) w ∧ Box x BI (.cells #[.bool i0, .bool i1] 148) w
theorem Ends.step {x BA BV BI : Nat} {a b : Int} {v0 v1 : Option Vl} {i0 i1 : Bool} {w w' : World} (h : Ends x BA BV BI a b v0 v1 i0 i1 w) (S : Step x w w') : Ends x BA BV BI a b v0 v1 i0 i1 w' := ⟨h.1.step S, h.2.1.step S, h.2.2.step S⟩
theorem Ends.facts {x BA BV BI : Nat} {a b : Int} {v0 v1 : Option Vl} {i0 i1 : Bool} {w : World} (h : Ends x BA BV BI a b v0 v1 i0 i1 w) :
    (w.cell? ⟨BA, 0, none⟩ = some (.int .u32 a) ∧ w.cell? ⟨BA, 1, none⟩ = some (.int .u32 b)) ∧
    (w.cell? ⟨BV, 0, none⟩ = some (.int .u64 (v0.getD (0, 0)).1) ∧ w.cell? ⟨BV, 1, none⟩ = some (.int .u64 (v0.getD (0, 0)).2) ∧ w.cell? ⟨BV, 2, none⟩ = some (.int .u64 (v1.getD (0, 0)).1) ∧ w.cell? ⟨BV, 3, none⟩ = some (.int .u64 (v1.getD (0, 0)).2)) ∧
    (w.cell? ⟨BI, 0, none⟩ = some (.bool i0) ∧ w.cell? ⟨BI, 1, none⟩ = some (.bool i1)) ∧
    (w.frozen? ⟨BV, 0, none⟩ = false ∧ w.frozen? ⟨BV, 1, none⟩ = false ∧ w.frozen? ⟨BV, 2, none⟩ = false ∧ w.frozen? ⟨BV, 3, none⟩ = false) ∧ (w.frozen? ⟨BI, 0, none⟩ = false ∧ w.frozen? ⟨BI, 1, none⟩ = false) ∧ BA < w.heap.size ∧ BV < w.heap.size ∧ BI < w.heap.size :=
  ⟨⟨h.1.cell 0, h.1.cell 1⟩, ⟨h.2.1.cell 0, h.2.1.cell 1, h.2.1.cell 2, h.2.1.cell 3⟩, ⟨h.2.2.cell 0, h.2.2.cell 1⟩, ⟨h.2.1.froz 0, h.2.1.froz 1, h.2.1.froz 2, h.2.1.froz 3⟩, ⟨h.2.2.froz 0, h.2.2.froz 1⟩, h.1.lt, h.2.1.lt, h.2.2.lt⟩

set_option maxRecDepth 100000 in
set_option maxHeartbeats 4000000 in
theorem end_st (a b : Int) (hx0 : x < w0.heap.size) (H : St x o w0 R [] rp0 (endT o a b) s w) :
    Calls Tryz.prog 60 #[.pointer (some ⟨x, 0, none⟩), .agg #[.int .u32 a, .int .u32 b]] w (Mets' x o w0 R) := by
  obtain ⟨o0, o1, o2, o3, o4, on, op⟩ := H.opOk
  obtain ⟨c0, c1, c2, c3, c4, c5, c6⟩ := H.op
  have hx := H.lt
  have hw0 := H.step.size
  have ix0 := index_0 a b
  have ix1 := index_1 a b
  have KA := Box.newS H (.cells #[.int .u32 a, .int .u32 b] 117)
  have H1 := H.alloc (.cells #[.int .u32 a, .int .u32 b] 117)
  have KV := Box.new H1.hand (.cells #[.int .u64 0, .int .u64 0, .int .u64 0, .int .u64 0] 147) (World.size_alloc _ _)
  have KA := KA.alloc (ob' := .cells #[.int .u64 0, .int .u64 0, .int .u64 0, .int .u64 0] 147) H1.lt
  have H2 := H1.alloc (.cells #[.int .u64 0, .int .u64 0, .int .u64 0, .int .u64 0] 147)
  have KI := Box.new H2.hand (.cells #[.bool false, .bool false] 148) ((World.size_alloc _ _).trans (congrArg (· + 1) (World.size_alloc _ _)))
  have KA := KA.alloc (ob' := .cells #[.bool false, .bool false] 148) H2.lt
  have KV := KV.alloc (ob' := .cells #[.bool false, .bool false] 148) H2.lt
  have H := H2.alloc (.cells #[.bool false, .bool false] 148)
  clear H1 H2
  go_enter Tryz.func60, Tryz.ntmps60
  go_wp2_with fail
  obtain ⟨BI, hBI⟩ := KI.name
  obtain ⟨BV, hBV⟩ := KV.name
  obtain ⟨BA, hBA⟩ := KA.name
  rw [← hBI] at KI ⊢
  rw [← hBV] at KV ⊢
  rw [← hBA] at KA ⊢
  have l0 : w0.heap.size ≤ BA := by omega
  have l1 : BA < BV := by omega
  have l2 : BV < BI := by omega
  clear hBI hBV hBA
  have E : Ends x BA BV BI a b none none false false _ := ⟨KA, KV, KI⟩
  clear KA KV KI
  go_loopw [11] (fun i wr => (i = .int .i64 0 ∧ ∃ s', St x o w0 R [] rp0 (endT o a b) s' wr ∧ Ends x BA BV BI a b none none false false wr) ∨
      (i = .int .i64 1 ∧ ∃ v0 s', VlOk (v0.getD (0, 0)) ∧ St x o w0 R [] rp0 (endT1 o a b v0) s' wr ∧ Ends x BA BV BI a b v0 none v0.isSome false wr) ∨
      (i = .int .i64 2 ∧ ∃ v0 v1 s', VlOk (v0.getD (0, 0)) ∧ VlOk (v1.getD (0, 0)) ∧ St x o w0 R [] rp0 (endT2 o a b v0 v1) s' wr ∧ Ends x BA BV BI a b v0 v1 v0.isSome v1.isSome wr)) (fun i _ => 2 - (intOf i).toNat)
  case atStart => exact .inl ⟨rfl, _, H, E⟩
  case round =>
    rcases hrel with ⟨rfl, s', H, E⟩ | ⟨rfl, v0, s', hv0, H, E⟩ | ⟨rfl, v0, v1, s', hv0, hv1, H, E⟩
    · unfold endT at H
      obtain ⟨⟨ea0, ea1⟩, ⟨ev0, ev1, ev2, ev3⟩, ⟨ei0, ei1⟩, ⟨fv0, fv1, fv2, fv3⟩, ⟨fi0, fi1⟩, lA, lV, lI⟩ := E.facts
      obtain ⟨c0, c1, c2, c3, c4, c5, c6⟩ := H.op
      have hx := H.lt
      go_wp2_with (first
        | (go_at_call 88; refine (St.key (offerk_any _ _) H).mono ?_; rintro e w1 ⟨rfl, H1, Q⟩; replace H := H1; clear H1; obtain ⟨c0, c1, c2, c3, c4, c5, c6⟩ := H.op; have hx := H.lt; replace E := E.step Q; obtain ⟨⟨ea0, ea1⟩, ⟨ev0, ev1, ev2, ev3⟩, ⟨ei0, ei1⟩, ⟨fv0, fv1, fv2, fv3⟩, ⟨fi0, fi1⟩, lA, lV, lI⟩ := E.facts)
        | (go_at_call 72; refine (St.see H).mono ?_; rintro e w1 (⟨v0, s1, rfl, hv0, H1, Q⟩ | ⟨ch, rfl, P⟩); rotate_left; (focus (go_wp2_with fail; exact ⟨rfl, P.met⟩)); replace H := H1; clear H1; obtain ⟨c0, c1, c2, c3, c4, c5, c6⟩ := H.op; have hx := H.lt; replace E := E.step Q; obtain ⟨⟨ea0, ea1⟩, ⟨ev0, ev1, ev2, ev3⟩, ⟨ei0, ei1⟩, ⟨fv0, fv1, fv2, fv3⟩, ⟨fi0, fi1⟩, lA, lV, lI⟩ := E.facts))
      obtain ⟨HH, kv, ki, oth⟩ := H.set21 (i := 0) (j := 0) E.2.1 E.2.2 hx0 (by omega) (by omega) (by omega) (.int .u64 (v0.getD (0, 0)).1) (.int .u64 (v0.getD (0, 0)).2) (.bool v0.isSome)
      have EE : Ends x BA BV BI a b v0 none v0.isSome false _ := ⟨oth BA _ (by omega) (by omega) E.1, by simpa using kv, by simpa using ki⟩
      go_roundw
      case rel => exact .inr (.inl ⟨rfl, v0, _, hv0, HH, EE⟩)
      case measure => simp [intOf]
    · unfold endT1 at H
      obtain ⟨⟨ea0, ea1⟩, ⟨ev0, ev1, ev2, ev3⟩, ⟨ei0, ei1⟩, ⟨fv0, fv1, fv2, fv3⟩, ⟨fi0, fi1⟩, lA, lV, lI⟩ := E.facts
      obtain ⟨c0, c1, c2, c3, c4, c5, c6⟩ := H.op
      have hx := H.lt
      go_wp2_with (first
        | (go_at_call 88; refine (St.key (offerk_any _ _) H).mono ?_; rintro e w1 ⟨rfl, H1, Q⟩; replace H := H1; clear H1; obtain ⟨c0, c1, c2, c3, c4, c5, c6⟩ := H.op; have hx := H.lt; replace E := E.step Q; obtain ⟨⟨ea0, ea1⟩, ⟨ev0, ev1, ev2, ev3⟩, ⟨ei0, ei1⟩, ⟨fv0, fv1, fv2, fv3⟩, ⟨fi0, fi1⟩, lA, lV, lI⟩ := E.facts)
        | (go_at_call 72; refine (St.see H).mono ?_; rintro e w1 (⟨v1, s1, rfl, hv1, H1, Q⟩ | ⟨ch, rfl, P⟩); rotate_left; (focus (go_wp2_with fail; exact ⟨rfl, P.met⟩)); replace H := H1; clear H1; obtain ⟨c0, c1, c2, c3, c4, c5, c6⟩ := H.op; have hx := H.lt; replace E := E.step Q; obtain ⟨⟨ea0, ea1⟩, ⟨ev0, ev1, ev2, ev3⟩, ⟨ei0, ei1⟩, ⟨fv0, fv1, fv2, fv3⟩, ⟨fi0, fi1⟩, lA, lV, lI⟩ := E.facts))
      obtain ⟨HH, kv, ki, oth⟩ := H.set21 (i := 2) (j := 1) E.2.1 E.2.2 hx0 (by omega) (by omega) (by omega) (.int .u64 (v1.getD (0, 0)).1) (.int .u64 (v1.getD (0, 0)).2) (.bool v1.isSome)
      have EE : Ends x BA BV BI a b v0 v1 v0.isSome v1.isSome _ := ⟨oth BA _ (by omega) (by omega) E.1, by simpa using kv, by simpa using ki⟩
      go_roundw
      case rel => exact .inr (.inr ⟨rfl, v0, v1, _, hv0, hv1, HH, EE⟩)
      case measure => simp [intOf]
    · obtain ⟨⟨ea0, ea1⟩, ⟨ev0, ev1, ev2, ev3⟩, ⟨ei0, ei1⟩, ⟨fv0, fv1, fv2, fv3⟩, ⟨fi0, fi1⟩, lA, lV, lI⟩ := E.facts
      obtain ⟨c0, c1, c2, c3, c4, c5, c6⟩ := H.op
      have hx := H.lt
      go_wp2_with fail
      go_loopw [33] (fun i wr => (i = .int .i64 0 ∧ ∃ s', St x o w0 R [] rp0 (endT2 o a b v0 v1) s' wr ∧ Ends x BA BV BI a b v0 v1 v0.isSome v1.isSome wr) ∨
          (i = .int .i64 1 ∧ ∃ q0 s', q0.length ≤ 1 ∧ St x o w0 R q0 rp0 (endT3 o b v0 v1 q0) s' wr ∧ Ends x BA BV BI a b v0 v1 v0.isSome v1.isSome wr) ∨
          (i = .int .i64 2 ∧ ∃ q1 s', q1.length ≤ 2 ∧ St x o w0 R q1 rp0 (endT4 o v0 v1 q1) s' wr ∧ Ends x BA BV BI a b v0 v1 v0.isSome v1.isSome wr)) (fun i _ => 2 - (intOf i).toNat)
      case atStart => exact .inl ⟨rfl, _, H, E⟩
      case round =>
        rcases hrel with ⟨rfl, s', H, E⟩ | ⟨rfl, q0, s', hq, H, E⟩ | ⟨rfl, q1, s', hq, H, E⟩
        · rcases v0 with _ | v
          · dsimp only [Option.getD, Option.isSome] at E
            obtain ⟨⟨ea0, ea1⟩, ⟨ev0, ev1, ev2, ev3⟩, ⟨ei0, ei1⟩, ⟨fv0, fv1, fv2, fv3⟩, ⟨fi0, fi1⟩, lA, lV, lI⟩ := E.facts
            obtain ⟨c0, c1, c2, c3, c4, c5, c6⟩ := H.op
            have hx := H.lt
            have H : St x o w0 R [] rp0 (endT3 o b none v1 []) s' wr := H
            go_wp2_with fail
            go_roundw
            case rel => exact .inr (.inl ⟨rfl, [], _, by first | simp | (simp; omega), H, E⟩)
            case measure => simp [intOf]
          · dsimp only [Option.getD, Option.isSome] at E
            obtain ⟨⟨ea0, ea1⟩, ⟨ev0, ev1, ev2, ev3⟩, ⟨ei0, ei1⟩, ⟨fv0, fv1, fv2, fv3⟩, ⟨fi0, fi1⟩, lA, lV, lI⟩ := E.facts
            obtain ⟨c0, c1, c2, c3, c4, c5, c6⟩ := H.op
            have hx := H.lt
            have hv : VlOk v := hv0
            have H : St x o w0 R [] rp0 ((amountT (thingK a v.2)).bind fun c => ((moreT c v.1).bind fun m => .done ([] ++ [putP (thingK a v.2) m])).bind fun q0 => endT3 o b (some v) v1 q0) s' wr := St.assoc (f := fun c => (moreT c v.1).bind fun m => .done ([] ++ [putP (thingK a v.2) m])) H
            go_upto_region 13 with (first
              | (go_at_call 91; refine (thing_any _ _ _).mono ?_; rintro e w1 ⟨rfl, B⟩; have Q := Step.ofBelow H.lt B; have H1 := H.below B; replace H := H1; clear H1; obtain ⟨c0, c1, c2, c3, c4, c5, c6⟩ := H.op; have hx := H.lt; replace E := E.step Q; obtain ⟨⟨ea0, ea1⟩, ⟨ev0, ev1, ev2, ev3⟩, ⟨ei0, ei1⟩, ⟨fv0, fv1, fv2, fv3⟩, ⟨fi0, fi1⟩, lA, lV, lI⟩ := E.facts))
            have E := (E.step ((Step.refl x _).alloc hx (.cells #[.int .u8 (thingK a v.2).1, .int .u32 (thingK a v.2).2.1, .int .u32 (thingK a v.2).2.2] 52))).step (Step.refl x _).drew
            have K9 := Box.newS H (.cells #[.int .u8 (thingK a v.2).1, .int .u32 (thingK a v.2).2.1, .int .u32 (thingK a v.2).2.2] 52)
            replace H := H.alloc (.cells #[.int .u8 (thingK a v.2).1, .int .u32 (thingK a v.2).2.1, .int .u32 (thingK a v.2).2.2] 52)
            obtain ⟨B9, hB9⟩ := K9.name
            rw [← hB9] at K9 ⊢
            clear hB9
            have K9 := K9.drew
            have H := H.drew
            go_region_held2 (fun w' => w'.cell? ⟨B9, 0, none⟩ = some (.int .u8 (thingK a v.2).1) ∧ w'.cell? ⟨B9, 1, none⟩ = some (.int .u32 (thingK a v.2).2.1) ∧ w'.cell? ⟨B9, 2, none⟩ = some (.int .u32 (thingK a v.2).2.2) ∧ w'.cell? ⟨BV, 0, none⟩ = some (.int .u64 v.1))
              (first | exact ⟨K9.three.1, K9.three.2.1, K9.three.2.2.1, E.2.1.cell 0⟩ | go_keep)
              (first
                | (go_at_call 80; refine (St.amount H).mono ?_; rintro e w1 (⟨c, s1, rfl, hc, H1, Q⟩ | ⟨ch, rfl, P⟩); rotate_left; (focus (go_wp2_with fail; exact ⟨rfl, P.met⟩)); replace H := H1; clear H1; obtain ⟨c0, c1, c2, c3, c4, c5, c6⟩ := H.op; have hx := H.lt; replace E := E.step Q; replace K9 := K9.step Q)
                | (go_at_call 77; refine (St.more H.assoc hc hv.1).mono ?_; rintro e w1 (⟨m, rfl, hm, H1, Q⟩ | ⟨ch, rfl, P⟩); rotate_left; (focus (go_wp2_with fail; exact ⟨rfl, P.met⟩)); replace H := H1; clear H1; obtain ⟨c0, c1, c2, c3, c4, c5, c6⟩ := H.op; have hx := H.lt; replace E := E.step Q; replace K9 := K9.step Q)
                | (go_at_call 74; refine (St.put H (thingK a v.2) (by first | omega | simp)).mono ?_; rintro e w1 ⟨rfl, H1, Q⟩; replace H := H1; clear H1; obtain ⟨c0, c1, c2, c3, c4, c5, c6⟩ := H.op; have hx := H.lt; replace E := E.step Q; replace K9 := K9.step Q))
            all_goals (
              go_wp2_with fail
              go_roundw
              case rel => exact .inr (.inl ⟨rfl, _, _, by first | simp | (simp; omega), H, E⟩)
              case measure => simp [intOf])
        · rcases v1 with _ | v
          · dsimp only [Option.getD, Option.isSome] at E
            obtain ⟨⟨ea0, ea1⟩, ⟨ev0, ev1, ev2, ev3⟩, ⟨ei0, ei1⟩, ⟨fv0, fv1, fv2, fv3⟩, ⟨fi0, fi1⟩, lA, lV, lI⟩ := E.facts
            obtain ⟨c0, c1, c2, c3, c4, c5, c6⟩ := H.op
            have hx := H.lt
            have H : St x o w0 R q0 rp0 (endT4 o v0 none q0) s' wr := H
            go_wp2_with fail
            go_roundw
            case rel => exact .inr (.inr ⟨rfl, q0, _, by first | omega | (simp; omega), H, E⟩)
            case measure => simp [intOf]
          · dsimp only [Option.getD, Option.isSome] at E
            obtain ⟨⟨ea0, ea1⟩, ⟨ev0, ev1, ev2, ev3⟩, ⟨ei0, ei1⟩, ⟨fv0, fv1, fv2, fv3⟩, ⟨fi0, fi1⟩, lA, lV, lI⟩ := E.facts
            obtain ⟨c0, c1, c2, c3, c4, c5, c6⟩ := H.op
            have hx := H.lt
            have hv : VlOk v := hv1
            have H : St x o w0 R q0 rp0 ((amountT (thingK b v.2)).bind fun c => ((moreT c v.1).bind fun m => .done (q0 ++ [putP (thingK b v.2) m])).bind fun q0 => endT4 o v0 (some v) q0) s' wr := St.assoc (f := fun c => (moreT c v.1).bind fun m => .done (q0 ++ [putP (thingK b v.2) m])) H
            go_upto_region 13 with (first
              | (go_at_call 91; refine (thing_any _ _ _).mono ?_; rintro e w1 ⟨rfl, B⟩; have Q := Step.ofBelow H.lt B; have H1 := H.below B; replace H := H1; clear H1; obtain ⟨c0, c1, c2, c3, c4, c5, c6⟩ := H.op; have hx := H.lt; replace E := E.step Q; obtain ⟨⟨ea0, ea1⟩, ⟨ev0, ev1, ev2, ev3⟩, ⟨ei0, ei1⟩, ⟨fv0, fv1, fv2, fv3⟩, ⟨fi0, fi1⟩, lA, lV, lI⟩ := E.facts))
            have E := (E.step ((Step.refl x _).alloc hx (.cells #[.int .u8 (thingK b v.2).1, .int .u32 (thingK b v.2).2.1, .int .u32 (thingK b v.2).2.2] 52))).step (Step.refl x _).drew
            have K9 := Box.newS H (.cells #[.int .u8 (thingK b v.2).1, .int .u32 (thingK b v.2).2.1, .int .u32 (thingK b v.2).2.2] 52)
            replace H := H.alloc (.cells #[.int .u8 (thingK b v.2).1, .int .u32 (thingK b v.2).2.1, .int .u32 (thingK b v.2).2.2] 52)
            obtain ⟨B9, hB9⟩ := K9.name
            rw [← hB9] at K9 ⊢
            clear hB9
            have K9 := K9.drew
            have H := H.drew
            go_region_held2 (fun w' => w'.cell? ⟨B9, 0, none⟩ = some (.int .u8 (thingK b v.2).1) ∧ w'.cell? ⟨B9, 1, none⟩ = some (.int .u32 (thingK b v.2).2.1) ∧ w'.cell? ⟨B9, 2, none⟩ = some (.int .u32 (thingK b v.2).2.2) ∧ w'.cell? ⟨BV, 2, none⟩ = some (.int .u64 v.1))
              (first | exact ⟨K9.three.1, K9.three.2.1, K9.three.2.2.1, E.2.1.cell 2⟩ | go_keep)
              (first
                | (go_at_call 80; refine (St.amount H).mono ?_; rintro e w1 (⟨c, s1, rfl, hc, H1, Q⟩ | ⟨ch, rfl, P⟩); rotate_left; (focus (go_wp2_with fail; exact ⟨rfl, P.met⟩)); replace H := H1; clear H1; obtain ⟨c0, c1, c2, c3, c4, c5, c6⟩ := H.op; have hx := H.lt; replace E := E.step Q; replace K9 := K9.step Q)
                | (go_at_call 77; refine (St.more H.assoc hc hv.1).mono ?_; rintro e w1 (⟨m, rfl, hm, H1, Q⟩ | ⟨ch, rfl, P⟩); rotate_left; (focus (go_wp2_with fail; exact ⟨rfl, P.met⟩)); replace H := H1; clear H1; obtain ⟨c0, c1, c2, c3, c4, c5, c6⟩ := H.op; have hx := H.lt; replace E := E.step Q; replace K9 := K9.step Q)
                | (go_at_call 74; refine (St.put H (thingK b v.2) (by first | omega | simp)).mono ?_; rintro e w1 ⟨rfl, H1, Q⟩; replace H := H1; clear H1; obtain ⟨c0, c1, c2, c3, c4, c5, c6⟩ := H.op; have hx := H.lt; replace E := E.step Q; replace K9 := K9.step Q))
            all_goals (
              go_wp2_with fail
              go_roundw
              case rel => exact .inr (.inr ⟨rfl, _, _, by first | omega | (simp; omega), H, E⟩)
              case measure => simp [intOf])
        · obtain ⟨⟨ea0, ea1⟩, ⟨ev0, ev1, ev2, ev3⟩, ⟨ei0, ei1⟩, ⟨fv0, fv1, fv2, fv3⟩, ⟨fi0, fi1⟩, lA, lV, lI⟩ := E.facts
          obtain ⟨c0, c1, c2, c3, c4, c5, c6⟩ := H.op
          have hx := H.lt
          go_wp2_with fail
          go_loopw [58] (fun i wr => (i = .int .i64 0 ∧ ∃ s', St x o w0 R q1 rp0 (endT4 o v0 v1 q1) s' wr ∧ Ends x BA BV BI a b v0 v1 v0.isSome v1.isSome wr) ∨
              (i = .int .i64 1 ∧ ∃ s', St x o w0 R (goneL q1 v0 (offerK o.id 0)) rp0 (endT4 o v0 v1 q1) s' wr ∧ Ends x BA BV BI a b v0 v1 v0.isSome v1.isSome wr) ∨
              (i = .int .i64 2 ∧ ∃ s', St x o w0 R (goneL (goneL q1 v0 (offerK o.id 0)) v1 (offerK o.id 1)) rp0 (endT4 o v0 v1 q1) s' wr ∧ Ends x BA BV BI a b v0 v1 v0.isSome v1.isSome wr)) (fun i _ => 2 - (intOf i).toNat)
          case atStart => exact .inl ⟨rfl, _, H, E⟩
          case round =>
            have g1 := goneL_len q1 v0 (offerK o.id 0)
            have g2 := goneL_len (goneL q1 v0 (offerK o.id 0)) v1 (offerK o.id 1)
            rcases hrel with ⟨rfl, s', H, E⟩ | ⟨rfl, s', H, E⟩ | ⟨rfl, s', H, E⟩
            · rcases v0 with _ | v
              · dsimp only [Option.getD, Option.isSome] at E
                obtain ⟨⟨ea0, ea1⟩, ⟨ev0, ev1, ev2, ev3⟩, ⟨ei0, ei1⟩, ⟨fv0, fv1, fv2, fv3⟩, ⟨fi0, fi1⟩, lA, lV, lI⟩ := E.facts
                obtain ⟨c0, c1, c2, c3, c4, c5, c6⟩ := H.op
                have hx := H.lt
                go_wp2_with fail
                go_roundw
                case rel => exact .inr (.inl ⟨rfl, _, H, E⟩)
                case measure => simp [intOf]
              · dsimp only [Option.getD, Option.isSome] at E
                obtain ⟨⟨ea0, ea1⟩, ⟨ev0, ev1, ev2, ev3⟩, ⟨ei0, ei1⟩, ⟨fv0, fv1, fv2, fv3⟩, ⟨fi0, fi1⟩, lA, lV, lI⟩ := E.facts
                obtain ⟨c0, c1, c2, c3, c4, c5, c6⟩ := H.op
                have hx := H.lt
                go_wp2_with (first
                  | (go_at_call 88; refine (St.key (offerk_any _ _) H).mono ?_; rintro e w1 ⟨rfl, H1, Q⟩; replace H := H1; clear H1; obtain ⟨c0, c1, c2, c3, c4, c5, c6⟩ := H.op; have hx := H.lt; replace E := E.step Q; obtain ⟨⟨ea0, ea1⟩, ⟨ev0, ev1, ev2, ev3⟩, ⟨ei0, ei1⟩, ⟨fv0, fv1, fv2, fv3⟩, ⟨fi0, fi1⟩, lA, lV, lI⟩ := E.facts)
                  | (go_at_call 90; refine (St.gone H (offerK o.id 0) (by omega) _ _ rfl).mono ?_; rintro e w1 ⟨rfl, H1, Q⟩; replace H := H1; clear H1; obtain ⟨c0, c1, c2, c3, c4, c5, c6⟩ := H.op; have hx := H.lt; obtain ⟨⟨u10, y10⟩, ⟨u11, y11⟩, ⟨u12, y12⟩⟩ := H.rep; have z10 := H.frozen 10; have z11 := H.frozen 11; have z12 := H.frozen 12; replace E := E.step Q; obtain ⟨⟨ea0, ea1⟩, ⟨ev0, ev1, ev2, ev3⟩, ⟨ei0, ei1⟩, ⟨fv0, fv1, fv2, fv3⟩, ⟨fi0, fi1⟩, lA, lV, lI⟩ := E.facts))
                go_roundw
                case rel => exact .inr (.inl ⟨rfl, _, H, E⟩)
                case measure => simp [intOf]
            · rcases v1 with _ | v
              · dsimp only [Option.getD, Option.isSome] at E
                obtain ⟨⟨ea0, ea1⟩, ⟨ev0, ev1, ev2, ev3⟩, ⟨ei0, ei1⟩, ⟨fv0, fv1, fv2, fv3⟩, ⟨fi0, fi1⟩, lA, lV, lI⟩ := E.facts
                obtain ⟨c0, c1, c2, c3, c4, c5, c6⟩ := H.op
                have hx := H.lt
                go_wp2_with fail
                go_roundw
                case rel => exact .inr (.inr ⟨rfl, _, H, E⟩)
                case measure => simp [intOf]
              · dsimp only [Option.getD, Option.isSome] at E
                obtain ⟨⟨ea0, ea1⟩, ⟨ev0, ev1, ev2, ev3⟩, ⟨ei0, ei1⟩, ⟨fv0, fv1, fv2, fv3⟩, ⟨fi0, fi1⟩, lA, lV, lI⟩ := E.facts
                obtain ⟨c0, c1, c2, c3, c4, c5, c6⟩ := H.op
                have hx := H.lt
                go_wp2_with (first
                  | (go_at_call 88; refine (St.key (offerk_any _ _) H).mono ?_; rintro e w1 ⟨rfl, H1, Q⟩; replace H := H1; clear H1; obtain ⟨c0, c1, c2, c3, c4, c5, c6⟩ := H.op; have hx := H.lt; replace E := E.step Q; obtain ⟨⟨ea0, ea1⟩, ⟨ev0, ev1, ev2, ev3⟩, ⟨ei0, ei1⟩, ⟨fv0, fv1, fv2, fv3⟩, ⟨fi0, fi1⟩, lA, lV, lI⟩ := E.facts)
                  | (go_at_call 90; refine (St.gone H (offerK o.id 1) (by omega) _ _ rfl).mono ?_; rintro e w1 ⟨rfl, H1, Q⟩; replace H := H1; clear H1; obtain ⟨c0, c1, c2, c3, c4, c5, c6⟩ := H.op; have hx := H.lt; obtain ⟨⟨u10, y10⟩, ⟨u11, y11⟩, ⟨u12, y12⟩⟩ := H.rep; have z10 := H.frozen 10; have z11 := H.frozen 11; have z12 := H.frozen 12; replace E := E.step Q; obtain ⟨⟨ea0, ea1⟩, ⟨ev0, ev1, ev2, ev3⟩, ⟨ei0, ei1⟩, ⟨fv0, fv1, fv2, fv3⟩, ⟨fi0, fi1⟩, lA, lV, lI⟩ := E.facts))
                go_roundw
                case rel => exact .inr (.inr ⟨rfl, _, H, E⟩)
                case measure => simp [intOf]
            · obtain ⟨c0, c1, c2, c3, c4, c5, c6⟩ := H.op
              have hx := H.lt
              go_wp2_with (first
                | (go_at_call 85; refine (St.key (trade_any _) H).mono ?_; rintro e w1 ⟨rfl, H1, Q⟩; replace H := H1; clear H1; obtain ⟨c0, c1, c2, c3, c4, c5, c6⟩ := H.op; have hx := H.lt)
                | (go_at_call 90; refine (St.gone H (tradeK o.id) (by omega) _ _ rfl).mono ?_; rintro e w1 ⟨rfl, H1, Q⟩; replace H := H1; clear H1; obtain ⟨c0, c1, c2, c3, c4, c5, c6⟩ := H.op; have hx := H.lt; obtain ⟨⟨u10, y10⟩, ⟨u11, y11⟩, ⟨u12, y12⟩⟩ := H.rep; have z10 := H.frozen 10; have z11 := H.frozen 11; have z12 := H.frozen 12))
              go_end0
              exact (H.setA 1).met rfl
end
end Go.Proofs.YtdbpjbmalinlbaaGreat
