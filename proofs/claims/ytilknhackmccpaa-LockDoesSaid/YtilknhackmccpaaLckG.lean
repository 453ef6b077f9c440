/- Package lock: append of a want; give. -/
import Derived.Test.YtilknhackmccpaaLckF
set_option linter.unusedVariables false
set_option linter.unusedSimpArgs false
namespace Go.Proofs.Ytilknhackmccpaa
open Go.RowKit Go.Sort Go.Lib

theorem getD_eq (l : List (Int × Int)) {i : Nat} (h : i < l.length) : l.getD i (0, 0) = l[i] := by simp [List.getD_eq_getElem?_getD, List.getElem?_eq_getElem h]
theorem owns_of_own {w : World} {base : Nat} {v : Value} {l : List (Int × Int)} (h : OwnL w base v l) : w.ownsRow base 77 2 v l.length (wAll l) := by
  refine ⟨wAll_length l, ?_⟩
  rcases h with ⟨rfl, rfl⟩ | ⟨g, cap, rfl, hb, hn, hc, cur, hg, hs, hn2, hcc⟩
  · exact .inl ⟨rfl, rfl⟩
  · refine .inr ⟨g, cap, cur, rfl, hb, hg, hn, hc, hs, ?_⟩
    apply List.ext_getElem?
    intro j
    by_cases hj : j < l.length * 2
    · rw [List.getElem?_take_of_lt hj, Array.getElem?_toList]
      obtain ⟨h1, h2⟩ := wAll_at l (j / 2) (by omega)
      obtain ⟨c1, c2⟩ := hcc (j / 2) (by omega)
      rcases Nat.mod_two_eq_zero_or_one j with h4 | h4
      · obtain e : j = j / 2 * 2 := by omega
        rw [e, c1, h1]
      · obtain e : j = j / 2 * 2 + 1 := by omega
        rw [e, c2, h2]
    · rw [List.getElem?_eq_none (by rw [List.length_take]; omega), List.getElem?_eq_none (by rw [wAll_length]; omega)]
theorem wAll_append (a b : List (Int × Int)) : wAll (a ++ b) = wAll a ++ wAll b := by simp [wAll]
theorem run_append_w (w : World) (base : Nat) (v : Value) (l1 : List (Int × Int)) (hO : OwnL w base v l1) (g o n c : Nat) (l2 : List (Int × Int)) (hn : l2.length = n) (hc : ∀ j u, (wAll l2)[j]? = some u → w.cell? ⟨g, o + j, none⟩ = some u) (hb : l1.length + n < 10000000) (hbase : base ≤ w.heap.size) (ty : TypeId) :
    ∃ v' w', (Builtin.append_ #[78, 78] ty #[v, .slice (some ⟨g, o, none⟩) n c]).run Try.prog w = .ok v' w' ∧ OwnL w' base v' (l1 ++ l2) ∧ w.grownBy w' v.ownBlock := by
  obtain ⟨i0, hi0, hz0, hz1, hz2⟩ := info_parts info_w
  obtain ⟨v', w', r1, r2, r3, _, _⟩ := run_append_own_at (P := Try.prog) w base 78 ty 77 i0 (.agg #[.int .u32 0, .int .u8 0]) 2 8 Try.underlying78 hi0 hz0 hz1 hz2 rfl (by decide) v l1.length (wAll l1) (owns_of_own hO) ⟨g, o, none⟩ n c (wAll l2)
    (by rw [wAll_length, hn]) (fun j u hu => by rw [Addr.add_lit]; exact hc j u hu) (wAll_one l2) (by unfold maxLen; omega) (by omega) hbase
  refine ⟨v', w', r1, own_of_owns ?_, r3⟩
  rw [wAll_append, List.length_append, hn]
  exact r2
/-- A lock in a block of its own. -/
def LockB (w : World) (LB : Nat) (a b : Value) : Prop := w.heap[LB]? = some (.cells #[a, b] 80)
theorem LockB.lt {w : World} {LB : Nat} {a b : Value} (h : LockB w LB a b) : LB < w.heap.size := (Array.getElem?_eq_some_iff.1 h).1
theorem LockB.c0 {w : World} {LB : Nat} {a b : Value} (h : LockB w LB a b) : w.cell? ⟨LB, 0, none⟩ = some a := by rw [cell_of_heap h]; rfl
theorem LockB.c1 {w : World} {LB : Nat} {a b : Value} (h : LockB w LB a b) : w.cell? ⟨LB, 1, none⟩ = some b := by rw [cell_of_heap h]; rfl
theorem LockB.set0 {w : World} {LB : Nat} {a b : Value} (h : LockB w LB a b) (v : Value) : LockB (w.setCell ⟨LB, 0, none⟩ v) LB v b := by
  simp [LockB, World.setCell, Array.getElem?_modify, show w.heap[LB]? = _ from h]
theorem LockB.set1 {w : World} {LB : Nat} {a b : Value} (h : LockB w LB a b) (v : Value) : LockB (w.setCell ⟨LB, 1, none⟩ v) LB a v := by
  simp [LockB, World.setCell, Array.getElem?_modify, show w.heap[LB]? = _ from h]
theorem LockB.kept {w w' : World} {LB : Nat} {a b : Value} (h : LockB w LB a b) {row : Option Nat} (hg : w.grownBy w' row) (hne : some LB ≠ row) : LockB w' LB a b := (hg.block LB h.lt hne).trans h
theorem LockB.below {w w' : World} {LB : Nat} {a b : Value} {B : Nat} (h : LockB w LB a b) (hg : RowKit.Below B w w') (hB : LB < B) : LockB w' LB a b := (hg.block LB hB).trans h

/-- An append of one want that lies in a block of its own. -/
theorem wp_append_w1 {w : World} {o : Oper} {a : Act} {K : Act → World → Prop} {Q : Exit → Act → World → Prop} (s x : Operand)
    (ho : o.op = .call { callee := .builtin .append, args := #[s, x], argTypes := #[78, 78] })
    (base : Nat) (v : Value) (l1 : List (Int × Int)) (hs : a.eval s = v) (hO : OwnL w base v l1) (g : Nat) (hx : a.eval x = .slice (some ⟨g, 0, none⟩) 1 1) (y : Int × Int) {ty : TypeId} {fr : Nat × Nat} (hg : w.heap[g]? = some (.cells #[.int .u32 y.1, .int .u8 y.2] ty fr)) (hb : l1.length < 1000000) (hbase : base ≤ w.heap.size)
    (h : ∀ v' w', OwnL w' base v' (l1 ++ [y]) → w.grownBy w' v.ownBlock → K (a.put o.dst v') w') : o.wp Try.prog a w K Q := by
  obtain ⟨v', w', hr, h2, h3⟩ := run_append_w w base v l1 hO g 0 1 1 [y] rfl (fun j u hj => by
    rw [cell_of_heap hg, Nat.zero_add]
    match j, hj with
    | 0, hj => simpa [wAll, wCells] using hj
    | 1, hj => simpa [wAll, wCells] using hj
    | j + 2, hj => simp [wAll, wCells] at hj) (by omega) hbase o.type
  exact wp_append_run w s x _ ho v _ hs hx hr (h v' w' h2 h3)

theorem OwnL.rowge {w : World} {base : Nat} {v : Value} {l : List (Int × Int)} (h : OwnL w base v l) : ∀ g, v.ownBlock = some g → base ≤ g ∧ g < w.heap.size := by
  intro g hg
  rcases h with ⟨rfl, _⟩ | ⟨g', cap, rfl, hb, _, _, hR⟩
  · cases hg
  · obtain rfl : g' = g := Option.some.inj hg
    exact ⟨hb, hR.lt⟩
theorem OwnL.keep {w w' : World} {base B : Nat} {v : Value} {l : List (Int × Int)} (h : OwnL w base v l) (hb : RowKit.Below B w w') (hB : w.heap.size ≤ B) : OwnL w' base v l :=
  h.kept (row := none) ⟨hb.os, hb.tape, hb.output, hb.size, fun i hi _ => hb.block i (by omega)⟩ (by cases v.ownBlock <;> simp)
theorem OwnL.shape {w : World} {base : Nat} {v : Value} {l : List (Int × Int)} (h : OwnL w base v l) : ∃ a cap, v = .slice a l.length cap := by
  rcases h with ⟨rfl, rfl⟩ | ⟨g', cap, rfl, _⟩
  · exact ⟨none, 0, rfl⟩
  · exact ⟨_, cap, rfl⟩
theorem LockB.froz {w : World} {LB : Nat} {a b : Value} (h : LockB w LB a b) (i : Nat) : w.frozen? ⟨LB, i, none⟩ = false := by simp [World.frozen?, show w.heap[LB]? = _ from h]
theorem give_end {w w1 w3 : World} {LB cc : Nat} {a : Option Addr} {l : List (Int × Int)} {x : Int × Int} {va vb : Value} (b1 : RowKit.Below w.heap.size w w1) (b4 : RowKit.Below w1.heap.size w1 w3)
    (o3 : OwnL w3 w1.heap.size (.slice a (notL l x.1 ++ [x]).length cc) (notL l x.1 ++ [x])) (L3 : LockB w3 LB va vb) (hLN : LB < w.heap.size) :
    ∃ v', Ending.returned (.tuple #[]) = .returned (.tuple #[]) ∧ OwnL (w3.setCell ⟨LB, 0, none⟩ (.slice a ((notL l x.1).length + 1) cc)) w.heap.size v' (notL l x.1 ++ [x]) ∧ LockB (w3.setCell ⟨LB, 0, none⟩ (.slice a ((notL l x.1).length + 1) cc)) LB v' vb ∧ w.grownBy (w3.setCell ⟨LB, 0, none⟩ (.slice a ((notL l x.1).length + 1) cc)) (some LB) := by
  rw [List.length_append, List.length_singleton] at o3
  have hs := b1.size
  refine ⟨_, rfl, (o3.kept (grown_set w3 LB 0 _) (.inr fun e => ?_)).low hs, L3.set0 _, ((grew b1).but _).trans (((grew b4).but _).trans (grown_set w3 LB 0 _))⟩
  have := (o3.rowge LB e).1
  omega
set_option maxRecDepth 100000 in
set_option maxHeartbeats 4000000 in
theorem give_u (LB : Nat) (va vb : Value) (l : List (Int × Int)) (x : Int × Int) (w : World) (hL : LockB w LB va vb) (hv : Wants w va l) (hl : l.length < 900000) :
    Calls Try.prog 46 #[.pointer (some ⟨LB, 0, none⟩), .agg #[.int .u32 x.1, .int .u8 x.2]] w fun e w' => ∃ v', e = .returned (.tuple #[]) ∧ OwnL w' w.heap.size v' (notL l x.1 ++ [x]) ∧ LockB w' LB v' vb ∧ w.grownBy w' (some LB) := by
  obtain ⟨x1, x2⟩ := x
  have b1 := below_alloc w (.cells #[.int .u32 x1, .int .u8 x2] 77)
  have k1 := heap_alloc_new w (.cells #[.int .u32 x1, .int .u8 x2] 77)
  have hW1 := hv.keep b1 (Nat.le_refl _)
  have hL1 : LockB (w.alloc (.cells #[.int .u32 x1, .int .u8 x2] 77)) LB va vb := hL.below b1 hL.lt
  obtain ⟨N, hN⟩ : ∃ N, w.heap.size = N := ⟨_, rfl⟩
  obtain ⟨w1, hw1⟩ : ∃ y, w.alloc (.cells #[.int .u32 x1, .int .u8 x2] 77) = y := ⟨_, rfl⟩
  have hs1 : w1.heap.size = N + 1 := by rw [← hw1, ← hN]; simp
  rw [hw1, hN] at k1
  rw [hw1] at hW1 hL1 b1
  have c0 : w1.cell? ⟨N, 0, none⟩ = some (.int .u32 x1) := by rw [cell_of_heap k1]; rfl
  have c1 : w1.cell? ⟨N, 1, none⟩ = some (.int .u8 x2) := by rw [cell_of_heap k1]; rfl
  have hLN : LB < N := by rw [← hN]; exact hL.lt
  have lLB : LB < w1.heap.size := by omega
  have lN : N < w1.heap.size := by omega
  have d0 := hL1.c0
  have hnl := notL_length l x1
  clear hL hv
  go_enter Try.func46, Try.ntmps46
  have hnew : Hid ((w1.alloc (.cells #[.int .u32 x1, .int .u8 x2] 77)).heap[N + 1]? = some (.cells #[.int .u32 x1, .int .u8 x2] 77)) := Lib.hid (by have := heap_alloc_new w1 (.cells #[.int .u32 x1, .int .u8 x2] 77); rwa [hs1] at this)
  have hcall : Hid (∀ wx, RowKit.Below w1.heap.size w1 wx → Calls Try.prog 49 #[va, .int .u32 x1] wx fun e w' => ∃ v', e = .returned v' ∧ OwnL w' w1.heap.size v' (notL l x1) ∧ RowKit.Below w1.heap.size w1 w' ∧ RowKit.Below wx.heap.size wx w') :=
    Lib.hid fun wx h => (without_u va l x1 wx (hW1.keep h (Nat.le_refl _)) (by omega)).mono fun e w' ⟨v', h1, h2, h3⟩ => ⟨v', h1, h2.low h.size, h.trans (h3.mono h.size), h3⟩
  go_wp2
  go_region_law (first
      | (go_simp; go_at_call 49; refine Calls.mono (hcall.out _ (by first | exact (RowKit.Below.refl _ _).drew | exact (RowKit.Below.alloc (RowKit.Below.refl _ _) (Nat.le_refl _) _).drew)) ?_; rintro e w2 ⟨v2, rfl, o2, b3, b2⟩; have e0 := (b3.cell (p := ⟨N, 0, none⟩) lN).trans c0; have e1 := (b3.cell (p := ⟨N, 1, none⟩) lN).trans c1)
      | (refine step_of_wp (by rfl) (wp_append_w1 (.tmp 11) (.tmp 13) (by rfl) w1.heap.size v2 (notL l x1) (by rfl) (by first | exact o2 | exact (o2.keep (below_alloc _ _) (Nat.le_refl _))) _ (by rfl) (x1, x2) (by first | exact heap_alloc_new _ _ | exact (b2.block _ (by simp [hs1])).trans hnew.out) (by omega) (by first | exact b3.size | exact (b3.alloc b3.size _).size) ?_); intro v3 w3 o3 g3; have b4 : RowKit.Below w1.heap.size w1 w3 := RowKit.Below.trans (by first | exact b3 | exact b3.alloc b3.size _) (below_of_grown g3 (fun g hg => (o2.rowge g hg).1) (by first | exact b3.size | exact (b3.alloc b3.size _).size)); have L3 := hL1.below b4 lLB; have z3 := L3.froz 0; have f3 := L3.c0; obtain ⟨a3, cc3, hv3⟩ := o3.shape; rw [hv3]))
  all_goals (
    go_end0
    exact give_end (x := (x1, x2)) (l := l) b1 b4 (hv3 ▸ o3) L3 (by omega))
end Go.Proofs.Ytilknhackmccpaa
