/- The walk of RuleErrs. -/
import Derived.Test.YtdbpjbmalinlbaaRulP
import Derived.Deep.DeepCutAuto
namespace Go.Proofs.Ytdbpjbmalinlbaa
open Go.RowKit

theorem next_stop {o : OpV} (ho : OpOk o) (hb : beginE o ≠ 0) (w : World) :
    Calls Try.prog 31 #[opV o, .slice none 0 0] w fun e w' => e = .returned (.tuple #[.agg #[.int .u8 0, .int .u32 0, .int .u32 0], .bool false]) ∧ Below w.heap.size w w' :=
  (next_any (seen_nil w) (by simp) ho (by simp) (run_stop hb)).mono fun e w' ⟨h1, h2⟩ => ⟨h2, h1⟩
theorem do_stop {o : OpV} {s : List Cel} {sv : Value} {w : World} {c : Int} (ho : OpOk o) (hc : beginE o = c) (h0 : c ≠ 0) (hs : SeenIn w sv s) (hl : s.length ≤ 40) :
    Calls Try.prog 29 #[opV o, sv] w fun e w' => ∃ a cap, e = .returned (.tuple #[.slice a 0 cap, .agg #[.int .u16 c, .int .u64 0, .int .u64 0, .int .u64 0]]) ∧ Below w.heap.size w w' := by
  subst hc
  refine (do_any hs.1 (by omega) ho hs.2 (run_stop h0)).mono ?_
  rintro e w' ⟨B, v, rfl, hown⟩
  rcases hown.2 with ⟨rfl, _⟩ | ⟨g, cap, cur, rfl, _⟩
  · exact ⟨none, 0, rfl, B⟩
  · exact ⟨_, cap, rfl, B⟩

/-- The law's five operations. -/
def errOps (o : OpV) : List OpV :=
  [{ o with who := 0 }, { o with kind := 0 }, { o with kind := 19 + o.kind % 200 }, { o with who := max o.who 1, whom := max o.who 1, kind := 11 }, { o with who := max o.who 1, kind := 2, n := 0 }]
theorem errOps_ok {o : OpV} (ho : OpOk o) : ∀ q ∈ errOps o, OpOk q := by
  obtain ⟨h1, h2, h3, h4, h5, h6, h7⟩ := ho
  intro q hq
  simp only [errOps, List.mem_cons, List.not_mem_nil, or_false] at hq
  rcases hq with rfl | rfl | rfl | rfl | rfl <;> (refine ⟨?_, ?_, ?_, ?_, ?_, ?_, ?_⟩ <;> simp only <;> omega)
theorem errOps_begin {o : OpV} (ho : OpOk o) (k : Nat) (q : OpV) (hq : (errOps o)[k]? = some q) : beginE q = if k = 3 then 212 else 1 := by
  obtain ⟨h1, h2, h3, h4, h5, h6, h7⟩ := ho
  match k, hq with
  | 0, hq =>
    simp [errOps] at hq; subst hq
    have : soundB { o with who := 0 } = false := by unfold soundB; repeat' split <;> simp
    simp [beginE, this]
  | 1, hq =>
    simp [errOps] at hq; subst hq
    simp [beginE, soundB]
  | 2, hq =>
    simp [errOps] at hq; subst hq
    have : soundB { o with kind := 19 + o.kind % 200 } = false := by
      unfold soundB
      simp only
      have hk : 19 ≤ 19 + o.kind % 200 := by omega
      repeat' rw [if_neg (by omega)]
    simp [beginE, this]
  | 3, hq =>
    simp [errOps] at hq; subst hq
    have hm : 0 < max o.who 1 := by omega
    simp [beginE, soundB, hm]
  | 4, hq =>
    simp [errOps] at hq; subst hq
    simp [beginE, soundB]
  | k + 5, hq => simp [errOps] at hq

theorem SeenIn.below {w w' : World} {sv : Value} {s : List Cel} (h : SeenIn w sv s) (B : Below w.heap.size w w') : SeenIn w' sv s :=
  ⟨(h.1.keep fun b hb => B.block b hb).mono B.size, h.2⟩

/-- The five operations lie in block L. -/
def ErrAt (o : OpV) (L : Nat) (w : World) : Prop := ∀ (k : Nat) (q : OpV), (errOps o)[k]? = some q →
  w.cell? ⟨L, k * 7, none⟩ = some (.int .u8 q.kind) ∧ w.cell? ⟨L, k * 7 + 1, none⟩ = some (.int .u32 q.who) ∧ w.cell? ⟨L, k * 7 + 2, none⟩ = some (.int .u32 q.whom) ∧ w.cell? ⟨L, k * 7 + 3, none⟩ = some (.int .u32 q.what) ∧
    w.cell? ⟨L, k * 7 + 4, none⟩ = some (.int .u32 q.id) ∧ w.cell? ⟨L, k * 7 + 5, none⟩ = some (.int .u64 q.n) ∧ w.cell? ⟨L, k * 7 + 6, none⟩ = some (.int .u64 q.price)
theorem ErrAt.keep {o : OpV} {L : Nat} {w w' : World} (h : ErrAt o L w) (hL : L < w.heap.size) (B : Below w.heap.size w w') : ErrAt o L w' := by
  intro k q hq
  obtain ⟨e0, e1, e2, e3, e4, e5, e6⟩ := h k q hq
  exact ⟨(B.cell hL).trans e0, (B.cell hL).trans e1, (B.cell hL).trans e2, (B.cell hL).trans e3, (B.cell hL).trans e4, (B.cell hL).trans e5, (B.cell hL).trans e6⟩
theorem errAt_new {o : OpV} {w : World} {L : Nat} {t : TypeId} (hL : w.heap.size = L) : ErrAt o L (w.alloc (.cells #[.int .u8 o.kind, .int .u32 0, .int .u32 o.whom, .int .u32 o.what, .int .u32 o.id, .int .u64 o.n, .int .u64 o.price,
    .int .u8 0, .int .u32 o.who, .int .u32 o.whom, .int .u32 o.what, .int .u32 o.id, .int .u64 o.n, .int .u64 o.price,
    .int .u8 (19 + o.kind % 200), .int .u32 o.who, .int .u32 o.whom, .int .u32 o.what, .int .u32 o.id, .int .u64 o.n, .int .u64 o.price,
    .int .u8 11, .int .u32 (max o.who 1), .int .u32 (max o.who 1), .int .u32 o.what, .int .u32 o.id, .int .u64 o.n, .int .u64 o.price,
    .int .u8 2, .int .u32 (max o.who 1), .int .u32 o.whom, .int .u32 o.what, .int .u32 o.id, .int .u64 0, .int .u64 o.price] t)) := by
  subst hL
  intro k q hq
  simp only [cell_of_heap (heap_alloc_new w _)]
  match k, hq with
  | 0, hq => simp [errOps] at hq; subst hq; simp
  | 1, hq => simp [errOps] at hq; subst hq; simp
  | 2, hq => simp [errOps] at hq; subst hq; simp
  | 3, hq => simp [errOps] at hq; subst hq; simp
  | 4, hq => simp [errOps] at hq; subst hq; simp
  | k + 5, hq => simp [errOps] at hq

theorem op_kept {w w1 : World} {a b c d e f g : Value} {t : TypeId} (B : Below (w.alloc (.cells #[a, b, c, d, e, f, g] t)).heap.size (w.alloc (.cells #[a, b, c, d, e, f, g] t)) w1) :
    w1.cell? ⟨w.heap.size, 0, none⟩ = some a ∧ w1.cell? ⟨w.heap.size, 1, none⟩ = some b ∧ w1.cell? ⟨w.heap.size, 2, none⟩ = some c ∧ w1.cell? ⟨w.heap.size, 3, none⟩ = some d ∧ w1.cell? ⟨w.heap.size, 4, none⟩ = some e ∧ w1.cell? ⟨w.heap.size, 5, none⟩ = some f ∧ w1.cell? ⟨w.heap.size, 6, none⟩ = some g ∧ w.heap.size < w1.heap.size ∧ Below w.heap.size w w1 := by
  have hs := B.size
  simp at hs
  refine ⟨?_, ?_, ?_, ?_, ?_, ?_, ?_, by omega, below_trans (below_alloc _ _) B⟩ <;>
    (rw [B.cell (by simp), cell_of_heap (heap_alloc_new w _)]; rfl)

set_option maxRecDepth 100000 in
set_option maxHeartbeats 4000000 in
theorem ruleErrs_walk (w : World) (o : OpV) (ho : OpOk o) (s : List Cel) (sv : Value) (hs : SeenIn w sv s) :
    Calls Try.prog 6 #[.agg #[.int .u8 o.kind, .int .u32 o.who, .int .u32 o.whom, .int .u32 o.what, .int .u32 o.id, .int .u64 o.n, .int .u64 o.price], sv] w fun e w' => e = .returned (.bool true) ∧ Below w.heap.size w w' := by
  obtain ⟨a, cap, rfl, hcap, hcells⟩ := id hs.1
  obtain ⟨h1, h2, h3, h4, h5, h6, h7⟩ := id ho
  have HS := Lib.hid hs
  have HO := Lib.hid ho
  clear hs hcells ho
  by_cases hl : (40 : Int) < (s.length : Int)
  · go_enter Try.func6, Try.ntmps6
    go_wp2_with (go_at_call 25; refine (ruleKnown_any _).mono ?_; rintro e w1 ⟨rfl, B1⟩)
    go_ret
    exact ⟨rfl, below_trans (below_alloc _ _) B1⟩
  · have hl' : s.length ≤ 40 := by omega
    go_enter Try.func6, Try.ntmps6
    go_wp2_with (go_at_call 25; refine (ruleKnown_any _).mono ?_; rintro e w1 ⟨rfl, B1⟩; obtain ⟨q0, q1, q2, q3, q4, q5, q6, hw1, BB⟩ := op_kept B1; have b1 : w.heap.size < w1.heap.size + 1 := (by omega); have b2 : w.heap.size < w1.heap.size + 1 + 1 := (by omega); have b3 : w.heap.size < w1.heap.size + 1 + 1 + 1 := (by omega); have b4 : w.heap.size < w1.heap.size + 1 + 1 + 1 + 1 := (by omega))
    go_loopw [11] (fun i wr => ∃ k : Nat, k ≤ 5 ∧ i = .int .i64 (k : Int) ∧ Below w.heap.size w wr ∧ w1.heap.size + 1 + 1 + 1 + 1 + 1 < wr.heap.size ∧ Hid (ErrAt o (w1.heap.size + 1 + 1 + 1 + 1 + 1) wr)) (fun i _ => 5 - (intOf i).toNat)
    case atStart =>
      refine ⟨0, by omega, rfl, ?_, by simp, Lib.hid (errAt_new (by simp))⟩
      have hb := BB.size
      exact (((((BB.alloc BB.size _).alloc (by simp; omega) _).alloc (by simp; omega) _).alloc (by simp; omega) _).alloc (by simp; omega) _).alloc (by simp; omega) _
    case round =>
      obtain ⟨k, hk, rfl, B, hL, E⟩ := hrel
      by_cases hlt : k < 5
      · obtain ⟨q, hq⟩ : ∃ q, (errOps o)[k]? = some q := ⟨_, List.getElem?_eq_getElem (by simpa [errOps] using hlt)⟩
        obtain ⟨e0, e1, e2, e3, e4, e5, e6⟩ := E.out k q hq
        have hqo := errOps_ok HO.out q (List.mem_of_getElem? hq)
        have hqb := errOps_begin HO.out k q hq
        have HQ := Lib.hid hqo
        by_cases h3 : k = 3
        · subst h3
          rw [if_pos rfl] at hqb
          have HB := Lib.hid hqb
          have HQQ := Lib.hid hq
          clear hqb hq hqo
          go_wp2_with (first
            | (go_at_call 31; refine (next_stop HQ.out (by rw [HB.out]; decide) _).mono ?_; rintro e w2 ⟨rfl, B2⟩; have hw2 := B2.size; obtain ⟨g0, g1, g2, g3, g4, g5, g6⟩ := (ErrAt.keep E.out hL B2) _ q HQQ.out; have hL2 : w1.heap.size + 1 + 1 + 1 + 1 + 1 < w2.heap.size := (by omega))
            | (go_at_call 29; refine (do_stop (sv := .slice a s.length cap) HQ.out HB.out (by decide) (HS.out.below ((below_trans B B2).alloc (below_trans B B2).size _)) hl').mono ?_; rintro e w3 ⟨a', cap', rfl, B3⟩))
          have E3 := ((E.out.keep hL B2).keep hL2 (below_alloc _ _)).keep (by simp; omega) B3
          have B4 := below_trans ((below_trans B B2).alloc (below_trans B B2).size _) B3
          have hw3 := B3.size
          simp at hw3
          go_roundw
          case rel => exact ⟨4, by omega, by go_num, B4.alloc B4.size _, by simp; omega, Lib.hid (E3.keep (by omega) (below_alloc _ _))⟩
          case measure => simp [intOf]
        · rw [if_neg h3] at hqb
          have h3' : ¬ (k : Int) = 3 := by omega
          have HB := Lib.hid hqb
          have HQQ := Lib.hid hq
          clear hqb hq hqo
          go_wp2_with (first
            | (go_at_call 31; refine (next_stop HQ.out (by rw [HB.out]; decide) _).mono ?_; rintro e w2 ⟨rfl, B2⟩; have hw2 := B2.size; obtain ⟨g0, g1, g2, g3, g4, g5, g6⟩ := (ErrAt.keep E.out hL B2) _ q HQQ.out; have hL2 : w1.heap.size + 1 + 1 + 1 + 1 + 1 < w2.heap.size := (by omega))
            | (go_at_call 29; refine (do_stop (sv := .slice a s.length cap) HQ.out HB.out (by decide) (HS.out.below ((below_trans B B2).alloc (below_trans B B2).size _)) hl').mono ?_; rintro e w3 ⟨a', cap', rfl, B3⟩))
          have E3 := ((E.out.keep hL B2).keep hL2 (below_alloc _ _)).keep (by simp; omega) B3
          have B4 := below_trans ((below_trans B B2).alloc (below_trans B B2).size _) B3
          have hw3 := B3.size
          simp at hw3
          go_roundw
          case rel => exact ⟨k + 1, by omega, by go_num, B4.alloc B4.size _, by simp; omega, Lib.hid (E3.keep (by omega) (below_alloc _ _))⟩
          case measure => simp [intOf]; omega
      · obtain rfl : k = 5 := by omega
        go_wp2_with fail
        go_ret
        exact ⟨rfl, B⟩
end Go.Proofs.Ytdbpjbmalinlbaa
