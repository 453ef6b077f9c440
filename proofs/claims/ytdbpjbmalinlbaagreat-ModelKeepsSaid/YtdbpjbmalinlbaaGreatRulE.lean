/- Contracts of set. -/
import Derived.Test.YtdbpjbmalinlbaaGreatRulD
import Derived.StillTactics
import Derived.Laws.Pointers
import Derived.Deep.RegionLaw
import Derived.Deep.DeepCutAuto
import Derived.Deep.AppendLies
namespace Go.Proofs.YtdbpjbmalinlbaaGreat
open Go.RowKit

theorem Tryz.infoPut : (Tryz.prog.info? 66).map (fun i => (i.zero, i.size, i.bytes)) = some (some (.agg #[.int .u8 0, .int .u32 0, .int .u32 0, .int .u64 0, .int .u64 0, .bool false]), 6, 40) := by kernel_rfl

section
variable {x : Nat} {o : OpV} {s : List Cel} {p : List Pt} {r : Rp} {w w' : World}

/-- Behind an append to what is put: the hand holds the new row. -/
theorem put_end {g cap n : Nat} {pv : Value} {q : Pt} {W w1 : World} (h : Hand x o s p r W) (h8 : W.cell? ⟨x, 8, none⟩ = some pv) (hgrow : W.grownBy w1 pv.ownBlock)
    (hown : w1.ownsRow (x + 1) 66 6 (.slice (some ⟨g, 0, none⟩) n cap) n (ptCells p ++ ptRow q)) (hn : n = p.length + 1) (hat : pv.ownBlock = some g ∨ g = W.heap.size) (hp : p.length + 1 ≤ 1000) :
    Step x W (w1.setCell ⟨x, 8, none⟩ (.slice (some ⟨g, 0, none⟩) n cap)) ∧ Hand x o s (p ++ [q]) r (w1.setCell ⟨x, 8, none⟩ (.slice (some ⟨g, 0, none⟩) n cap)) := by
  have hx := h.lt
  obtain ⟨sv, pv', h1, h2, h3, h4⟩ := h
  have e : pv' = pv := by
    have := h8
    rw [cell_of_heap h1] at this
    simpa [handCells] using this
  subst e
  have hsz := hgrow.size
  have hlt := fun b hb => (owns_lt (b := b) h3 hb)
  have hne : some x ≠ pv'.ownBlock := fun hq => by have := (hlt x hq.symm).1; omega
  have hx1 : w1.heap[x]? = W.heap[x]? := hgrow.block x hx hne
  have hxg : x ≠ g := by
    have hh := (owns_lt (b := g) hown rfl).1
    omega
  refine ⟨⟨?_, fun b hb => ⟨?_, hb.2.1, ?_⟩, fun b hb => ?_⟩, ⟨sv, .slice (some ⟨g, 0, none⟩) n cap, ?_, ?_, ?_, ?_⟩⟩
  · exact ((Below.refl x W).grown hgrow (by omega) (fun k hk => by have := (hlt k hk).1; omega)).setCell (p := ⟨x, 8, none⟩) (Nat.le_refl _) _
  · have := hb.1; simp [World.setCell]; omega
  · intro cs t fr qv h5 h6 h7
    simp only [World.setCell, Array.getElem?_modify, if_pos, hx1, h1] at h5
    simp [handCells] at h5
    obtain ⟨rfl, rfl, rfl⟩ := h5
    simp at h6
    subst h6
    simp [Value.ownBlock] at h7
    subst h7
    rcases hat with hat | hat
    · exact hb.2.2 _ _ _ pv' h1 rfl hat
    · have := hb.1; omega
  · rw [Below.heap_setCell _ _ _ _ hb.2.1]
    exact hgrow.block b hb.1 (fun hq => hb.2.2 _ _ _ pv' h1 rfl hq.symm)
  · simp [World.setCell, Array.getElem?_modify, hx1, h1, handCells]
  · refine h2.keep fun b hb => ?_
    rw [Below.heap_setCell _ _ _ _ (by show b ≠ x; omega)]
    exact hgrow.block b (by omega) (fun hq => by have := (hlt b hq.symm).1; omega)
  · have hl : (p ++ [q]).length = n := by simp [hn]
    rw [hl, ptCells_app]
    have : ptCells [q] = ptRow q := by simp [ptCells]
    rw [this]
    exact owns_keep hown fun b hb => Below.heap_setCell _ _ _ _ (by simp [Value.ownBlock] at hb; show b ≠ x; omega)
  · exact ⟨⟨by simp; omega, h4.1.2⟩, h4.2⟩

set_option maxRecDepth 100000 in
set_option maxHeartbeats 400000 in
theorem set_any (k : Ky) (v : Vl) (h : Hand x o s p r w) (hp : p.length + 1 ≤ 1000) :
    Calls Tryz.prog 84 #[.pointer (some ⟨x, 0, none⟩), .agg #[.int .u8 k.1, .int .u32 k.2.1, .int .u32 k.2.2], .agg #[.int .u64 v.1, .int .u64 v.2]] w fun e w' => e = .returned (.tuple #[]) ∧ Step x w w' ∧ Hand x o s (p ++ [⟨k, v, false⟩]) r w' := by
  obtain ⟨i0, hi, hz0, hz1, hz2⟩ := info_parts Tryz.infoPut
  have hx := h.lt
  have h' := Lib.hid h
  have f8 := h.frozen 8
  obtain ⟨sv, pv, h1, h2, h3, h4⟩ := h
  have c8 : w.cell? ⟨x, 8, none⟩ = some pv := by simp [cell_of_heap h1, handCells]
  have H1 := Lib.hid h1
  have H3 := Lib.hid h3
  clear h1 h2 h3 h4
  have hx1 : x < w.heap.size + 1 := by omega
  have hx2 : x < w.heap.size + 1 + 1 := by omega
  have hx3 : x < w.heap.size + 1 + 1 + 1 := by omega
  have hne : some x ≠ pv.ownBlock := fun hq => by have := (owns_lt H3.out hq.symm).1; omega
  have hnew : Hid ((((w.alloc (.cells #[.int .u8 k.1, .int .u32 k.2.1, .int .u32 k.2.2] 52)).alloc (.cells #[.int .u64 v.1, .int .u64 v.2] 48)).alloc (.cells #[.int .u8 k.1, .int .u32 k.2.1, .int .u32 k.2.2, .int .u64 v.1, .int .u64 v.2, .bool false] 66)).drew.heap[w.heap.size + 1 + 1]? = some (.cells #[.int .u8 k.1, .int .u32 k.2.1, .int .u32 k.2.2, .int .u64 v.1, .int .u64 v.2, .bool false] 66 (0, 0))) := by
    have := heap_alloc_new ((w.alloc (.cells #[.int .u8 k.1, .int .u32 k.2.1, .int .u32 k.2.2] 52)).alloc (.cells #[.int .u64 v.1, .int .u64 v.2] 48)) (.cells #[.int .u8 k.1, .int .u32 k.2.1, .int .u32 k.2.2, .int .u64 v.1, .int .u64 v.2, .bool false] 66)
    rw [World.size_alloc, World.size_alloc] at this
    exact Lib.hid this
  go_enter Tryz.func84, Tryz.ntmps84
  go_upto_region 1 with fail
  go_region_law (first
    | (refine step_append_lies _ (by rfl) _ _ _ (by rfl) (x + 1) 66 i0 _ 6 40 Tryz.underlying62 hi hz0 hz1 hz2 rfl (by omega) pv p.length (ptCells p) (by rfl) ((((H3.out.alloc _).alloc _).alloc _).drew)
            ⟨w.heap.size + 1 + 1, 0, none⟩ 1 1 (ptRow ⟨k, v, false⟩) (by rfl) (by rfl) (World.news_of_block hnew.out) (by simp [Value.oneCell', ptRow])
            (by omega) (by unfold maxLen; omega) (by omega) (by simp; omega) (w.heap.size + 1 + 1 + 1) (by simp) ?_
       intro gg gcap w1 hown' hgrow hat hlt'
       have g8 : w1.cell? ⟨x, 8, none⟩ = some pv := (hgrow.cell_far _ (by simp; omega) hne).trans ((Below.cell ((((Below.refl w.heap.size w).alloc (Nat.le_refl _) _).alloc (by simp) _).alloc (by simp; omega) _).drew hx).trans c8)
       have gf : w1.frozen? ⟨x, 8, none⟩ = false := (hgrow.frozen_far _ (by simp; omega) hne).trans ((Below.frozen ((((Below.refl w.heap.size w).alloc (Nat.le_refl _) _).alloc (by simp) _).alloc (by simp; omega) _).drew hx).trans f8)))
  all_goals (
    go_wp2_with fail
    go_end0
    obtain ⟨S, HH⟩ := put_end (((h'.out.alloc _).alloc _).alloc _).drew (by first | exact (Below.cell ((((Below.refl w.heap.size w).alloc (Nat.le_refl _) _).alloc (by simp) _).alloc (by simp; omega) _).drew hx).trans c8) hgrow hown' rfl (by simpa using hat) hp
    exact ⟨rfl, (((((Step.refl x w).alloc hx _).alloc (by simp; omega) _).alloc (by simp; omega) _).drew).trans S, HH⟩)
end
end Go.Proofs.YtdbpjbmalinlbaaGreat
