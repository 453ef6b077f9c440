/- The fixed example of the laws on rings; are words alike, is there an edge. -/
import Derived.Test.YtilknhackmccpaaKntJ
set_option linter.unusedVariables false
set_option linter.unusedSimpArgs false
namespace Go.Proofs.Ytilknhackmccpaa
open Go.RowKit Go.Sort Go.Maps Go.ChangeMaps Go.MapKept Go.ChangeShapes

def exL : List (Int × Int) := [(1, 3), (1, 2), (2, 1), (3, 1)]
theorem exU : UE exL := by
  intro p hp
  simp only [exL, List.mem_cons, List.not_mem_nil, or_false] at hp
  rcases hp with rfl | rfl | rfl | rfl <;> exact ⟨by unfold U; omega, by unfold U; omega⟩
theorem ex1 : cyc exL 1 = [1, 2] := by
  have e1 : nx exL 1 = [2, 3] := by decide
  have e2 : nx exL 2 = [1] := by decide
  have e3 : (tos exL).length + 2 = 3 + 1 + 1 := by decide
  rw [cyc, e3, cyc_step (k := 0) (by rw [e1]; decide) (by rw [e1]; decide) (by
    rw [e1]
    exact ⟨by decide, .here (by rw [show ([2, 3] : List Int).getD 0 0 = 2 from rfl, e2]; decide)⟩) (fun i hi => absurd hi (Nat.not_lt_zero _)), e1]
  exact cyc_here (by rw [show ([2, 3] : List Int).getD 0 0 = 2 from rfl, e2]; decide)
theorem ex2 : cyc exL 4 = [] := by
  have e1 : nx exL 4 = [] := by decide
  have e3 : (tos exL).length + 2 = 3 + 1 + 1 := by decide
  rw [cyc, e3]
  exact cyc_none (by rw [e1]; simp) (fun i hi => by rw [e1] at hi; simp at hi)
theorem ex3 : cyc [(5, 5)] 5 = [5] := by
  have e1 : nx [(5, 5)] 5 = [5] := by decide
  have e3 : (tos [(5, 5)]).length + 2 = 1 + 1 + 1 := by decide
  rw [cyc, e3]
  exact cyc_here (by rw [e1]; simp)
/-- Edges that lie in a block of their own. -/
theorem edg_block {w : World} {B : Nat} {cs : Array Value} {ty : TypeId} {fr : Nat × Nat} {l : List (Int × Int)} (h : w.heap[B]? = some (.cells cs ty fr))
    (hc : ∀ i, i < l.length → cs[i * 2]? = some (.int .u32 (l.getD i (0, 0)).1) ∧ cs[i * 2 + 1]? = some (.int .u32 (l.getD i (0, 0)).2)) : Edg w (some ⟨B, 0, none⟩) l := by
  intro _
  refine ⟨B, 0, rfl, (Array.getElem?_eq_some_iff.1 h).1, fun i hi => ?_⟩
  obtain ⟨h1, h2⟩ := hc i hi
  rw [cell_of_row w B _ _ ty fr h, cell_of_row w B _ _ ty fr h, Nat.zero_add]
  exact ⟨h1, h2⟩
theorem Edg.keep {w w' : World} {a : Option Addr} {l : List (Int × Int)} {B : Nat} (h : Edg w a l) (hb : Below B w w') (hB : w.heap.size ≤ B) : Edg w' a l := by
  intro hne
  obtain ⟨eb, off, h1, h2, h3⟩ := h hne
  exact ⟨eb, off, h1, Nat.lt_of_lt_of_le h2 hb.size, fun i hi => ⟨(hb.cell (Nat.lt_of_lt_of_le h2 hB)).trans (h3 i hi).1, (hb.cell (Nat.lt_of_lt_of_le h2 hB)).trans (h3 i hi).2⟩⟩
theorem Nums.keep {w w' : World} {a : Option Addr} {l : List Int} {B : Nat} (h : Nums w a l) (hb : Below B w w') (hB : w.heap.size ≤ B) : Nums w' a l := by
  intro hne
  obtain ⟨eb, off, h1, h2, h3⟩ := h hne
  exact ⟨eb, off, h1, Nat.lt_of_lt_of_le h2 hb.size, fun i hi => (hb.cell (Nat.lt_of_lt_of_le h2 hB)).trans (h3 i hi)⟩

theorem grew {w w' : World} (b : Below w.heap.size w w') : w.grownBy w' none := ⟨b.os, b.tape, b.output, b.size, fun i hi _ => b.block i hi⟩
theorem own_keep {w w' : World} {base : Nat} {v : Value} {zs : List Int} (h : w.ownsInts base 23 .u32 v zs) (b : Below w.heap.size w w') : w'.ownsInts base 23 .u32 v zs := h.kept (grew b) (by cases v.ownBlock <;> simp)
set_option maxRecDepth 100000 in
set_option maxHeartbeats 4000000 in
theorem known_u (w : World) : Calls Try.prog 14 #[] w fun e w' => e = .returned (.bool true) ∧ Below w.heap.size w w' := by
  obtain ⟨N, hN⟩ : ∃ N, w.heap.size = N := ⟨_, rfl⟩
  have k1 := heap_at w (.cells #[.int .u32 1, .int .u32 3, .int .u32 1, .int .u32 2, .int .u32 2, .int .u32 1, .int .u32 3, .int .u32 1] 35) hN.symm
  have b1 := below_alloc w (.cells #[.int .u32 1, .int .u32 3, .int .u32 1, .int .u32 2, .int .u32 2, .int .u32 1, .int .u32 3, .int .u32 1] 35)
  obtain ⟨w1, hw1⟩ : ∃ x, w.alloc (.cells #[.int .u32 1, .int .u32 3, .int .u32 1, .int .u32 2, .int .u32 2, .int .u32 1, .int .u32 3, .int .u32 1] 35) = x := ⟨_, rfl⟩
  have hE : Edg w1 (some ⟨N, 0, none⟩) exL := by
    rw [hw1] at k1
    refine edg_block k1 fun i hi => ?_
    have : i = 0 ∨ i = 1 ∨ i = 2 ∨ i = 3 := by simp [exL] at hi; omega
    rcases this with rfl | rfl | rfl | rfl <;> exact ⟨rfl, rfl⟩
  rw [hw1] at b1 k1
  have C1 := cycle_u (some ⟨N, 0, none⟩) 4 4 exL 1 w1 hE exU rfl (by omega) (by unfold U; omega)
  rw [ex1] at C1
  go_enter Try.func14, Try.ntmps14
  go_upto_region 3 with (go_at_call 15; refine C1.mono ?_; rintro e w2 ⟨va, rfl, ho2, b2⟩)
  have C2 := cycle_u (some ⟨N, 0, none⟩) 4 4 exL 4 w2 (hE.keep b2 (Nat.le_refl _)) exU rfl (by omega) (by unfold U; omega)
  rw [ex2] at C2
  clear C1
  go_upto_region 4 with (go_at_call 15; refine C2.mono ?_; rintro e w3 ⟨vb, rfl, ho3, b3⟩)
  clear C2
  have k4 := heap_alloc_new w3 (.cells #[.int .u32 5, .int .u32 5] 35)
  have b4 := below_alloc w3 (.cells #[.int .u32 5, .int .u32 5] 35)
  obtain ⟨w4, hw4⟩ : ∃ x, w3.alloc (.cells #[.int .u32 5, .int .u32 5] 35) = x := ⟨_, rfl⟩
  rw [hw4] at k4 b4
  have hE4 : Edg w4 (some ⟨w3.heap.size, 0, none⟩) [(5, 5)] := edg_block k4 fun i hi => by
    have : i = 0 := by simpa using hi
    subst this
    exact ⟨rfl, rfl⟩
  have C3 := cycle_u (some ⟨w3.heap.size, 0, none⟩) 1 1 [(5, 5)] 5 w4 hE4 (by intro p hp; simp at hp; subst hp; exact ⟨by unfold U; omega, by unfold U; omega⟩) rfl (by omega) (by unfold U; omega)
  rw [ex3] at C3
  go_upto_region 5 with (go_at_call 15; refine C3.mono ?_; rintro e w5 ⟨vc, rfl, ho5, b5⟩)
  have oa := own_keep (own_keep (own_keep ho2 b3) b4) b5
  have ob := own_keep (own_keep ho3 b4) b5
  have bw : Below N w w5 := by
    rw [hN] at b1
    have s1 := b1.size
    have s2 := b2.size
    have s3 := b3.size
    have s4 := b4.size
    exact (((b1.trans (b2.mono (by omega))).trans (b3.mono (by omega))).trans (b4.mono (by omega))).trans (b5.mono (by omega))
  obtain ⟨aa, ca, rfl, hna⟩ := own_nums oa
  obtain ⟨eb, off, rfl, _, hcl⟩ := hna (by simp)
  have c0 : w5.cell? ⟨eb, off, none⟩ = some (.int .u32 1) := hcl 0 (by simp)
  have c1 : w5.cell? ⟨eb, off + 1, none⟩ = some (.int .u32 2) := hcl 1 (by simp)
  obtain ⟨ab, cb, rfl, _⟩ := own_nums ob
  obtain ⟨ac, cc, rfl, _⟩ := own_nums ho5
  have hV := victim_u (some ⟨eb, off, none⟩) 2 ca [1, 2] w5 (fun _ => ⟨eb, off, rfl, by assumption, hcl⟩) rfl (by omega) (by intro z hz; simp at hz; unfold U; omega)
  rw [show maxL [1, 2] = 2 from rfl] at hV
  clear hcl hna C3
  replace hN := Lib.hid hN
  go_wp2_with (go_at_call 17; refine hV.mono ?_; intro e w' h; rw [h.1, h.2]; clear h w' e)
  go_ret
  exact ⟨rfl, by rw [hN.out]; exact bw⟩
end Go.Proofs.Ytilknhackmccpaa
