/- The chapter's example in the statement. -/
import Derived.Test.YtdbpjbmalinlbaaRulM
import Derived.Deep.RegionHeld2
namespace Go.Proofs.Ytdbpjbmalinlbaa
open Go.RowKit

theorem keepA {w : World} {a : Addr} {v : Value} {ob : Obj} (h : w.cell? a = some v) : (w.alloc ob).cell? a = some v := by
  rw [World.cell?_of_block (w := w) (Below.heap_alloc _ _ _ (World.block_lt_of_cell? _ _ h))]; exact h
theorem keepD {w : World} {a : Addr} {v : Value} (h : w.cell? a = some v) : w.drew.cell? a = some v := h

/-- No cell is to be seen. -/
theorem seen_nil (w : World) : SeenAt w.heap.size w (.slice none 0 0) [] := ⟨none, 0, rfl, Nat.le_refl _, .inl rfl⟩
/-- One cell, in a new block. -/
theorem seen_one (w : World) (c : Cel) (t : TypeId) : SeenAt (w.heap.size + 1) (w.alloc (.cells #[.int .u8 c.k.1, .int .u32 c.k.2.1, .int .u32 c.k.2.2, .int .u64 c.v.1, .int .u64 c.v.2, .bool c.is] t)) (.slice (some ⟨w.heap.size, 0, none⟩) 1 1) [c] := by
  refine ⟨_, 1, rfl, Nat.le_refl _, .inr ⟨w.heap.size, 0, rfl, by omega, ?_⟩⟩
  intro i d hd j v hv
  match i, hd with
  | 0, hd =>
    simp at hd; subst hd
    rw [cell_of_heap (heap_alloc_new w _)]
    simp only [celRow] at hv
    simpa using hv
  | i + 1, hd => simp at hd

theorem ex_next_calls (w : World) : Calls Try.prog 31 #[.agg #[.int .u8 2, .int .u32 1, .int .u32 0, .int .u32 0, .int .u32 0, .int .u64 3, .int .u64 0], .slice none 0 0] w fun e w' => e = .returned (.tuple #[.agg #[.int .u8 1, .int .u32 1, .int .u32 0], .bool true]) ∧ Below w.heap.size w w' :=
  (next_any (o := exO) (seen_nil w) (by simp) exO_ok (by simp) ex_runs).mono fun e w' ⟨h1, h2⟩ => ⟨h2, h1⟩
theorem ex_do_calls (w : World) (N : Nat) (hN : w.heap.size = N) : Calls Try.prog 29 #[.agg #[.int .u8 2, .int .u32 1, .int .u32 0, .int .u32 0, .int .u32 0, .int .u64 3, .int .u64 0], .slice (some ⟨N, 0, none⟩) 1 1] (w.alloc (.cells #[.int .u8 0, .int .u32 0, .int .u32 0, .int .u64 5, .int .u64 0, .bool true] 49))
    fun e w' => ∃ g cap, e = .returned (.tuple #[.slice (some ⟨g, 0, none⟩) 1 cap, .agg #[.int .u16 0, .int .u64 8, .int .u64 0, .int .u64 0]]) ∧ Below w.heap.size w w' ∧ w'.cell? ⟨g, 0, none⟩ = some (.int .u8 1) ∧ w'.cell? ⟨g, 1, none⟩ = some (.int .u32 1) ∧ w'.cell? ⟨g, 2, none⟩ = some (.int .u32 0) ∧ w'.cell? ⟨g, 3, none⟩ = some (.int .u64 8) ∧ w'.cell? ⟨g, 4, none⟩ = some (.int .u64 0) ∧ w'.cell? ⟨g, 5, none⟩ = some (.bool false) := by
  subst hN
  have hs := seen_one w ⟨(0, 0, 0), (5, 0), true⟩ 49
  rw [← World.size_alloc w (.cells #[.int .u8 0, .int .u32 0, .int .u32 0, .int .u64 5, .int .u64 0, .bool true] 49)] at hs
  refine (do_any (o := exO) hs (by simp) exO_ok (by intro c hc; simp at hc; subst hc; unfold VlOk; decide) ex_runs).mono ?_
  rintro e w' ⟨B, v, rfl, hown⟩
  rw [ex_do] at hown ⊢
  rcases hown.2 with ⟨_, h2⟩ | ⟨g, cap, cur, rfl, h2, h3, h4, h5, h6, h7⟩
  · simp [doR] at h2
  · refine ⟨g, cap, rfl, ((Below.refl _ _).alloc (Nat.le_refl _) _).trans (B.mono (by simp)), ?_⟩
    simp only [doR, List.length_cons, List.length_nil] at h7 h6 h4
    have hg : ∀ i v, (ptCells [⟨(1, 1, 0), (8, 0), false⟩])[i]? = some v → w'.cell? ⟨g, i, none⟩ = some v := by
      intro i v hv
      rw [cell_of_heap h3, ← Array.getElem?_toList]
      rw [← h7, List.getElem?_take] at hv
      split at hv
      · exact hv
      · cases hv
    exact ⟨hg 0 _ rfl, hg 1 _ rfl, hg 2 _ rfl, hg 3 _ rfl, hg 4 _ rfl, hg 5 _ rfl⟩

set_option maxRecDepth 100000 in
set_option maxHeartbeats 1000000 in
theorem ruleKnown_any (w : World) : Calls Try.prog 25 #[] w fun e w' => e = .returned (.bool true) ∧ Below w.heap.size w w' := by
  go_enter Try.func25, Try.ntmps25
  go_wp2_with fail
  refine (ex_next_calls _).mono ?_
  rintro e w1 ⟨rfl, B1⟩
  have hl1 := B1.size
  simp at hl1
  have c0 := (B1.cell (p := ⟨w.heap.size, 0, none⟩) (by simp)).trans (by simp [go_sem] : _ = some (.int .u8 2))
  have c1 := (B1.cell (p := ⟨w.heap.size, 1, none⟩) (by simp)).trans (by simp [go_sem] : _ = some (.int .u32 1))
  have c2 := (B1.cell (p := ⟨w.heap.size, 2, none⟩) (by simp)).trans (by simp [go_sem] : _ = some (.int .u32 0))
  have c3 := (B1.cell (p := ⟨w.heap.size, 3, none⟩) (by simp)).trans (by simp [go_sem] : _ = some (.int .u32 0))
  have c4 := (B1.cell (p := ⟨w.heap.size, 4, none⟩) (by simp)).trans (by simp [go_sem] : _ = some (.int .u32 0))
  have c5 := (B1.cell (p := ⟨w.heap.size, 5, none⟩) (by simp)).trans (by simp [go_sem] : _ = some (.int .u64 3))
  have c6 := (B1.cell (p := ⟨w.heap.size, 6, none⟩) (by simp)).trans (by simp [go_sem] : _ = some (.int .u64 0))
  have hh : w.heap.size < w1.heap.size := by omega
  go_wp2_with fail
  refine (ex_do_calls _ _ (by simp)).mono ?_
  rintro e w2 ⟨g, cap, rfl, B2, g0, g1, g2, g3, g4, g5⟩
  have lg : g < w2.heap.size := World.block_lt_of_cell? _ _ g0
  have hl2 := B2.size
  simp at hl2
  have k0 := (B2.cell (p := ⟨w1.heap.size, 0, none⟩) (by simp)).trans (by simp [go_sem] : _ = some (.int .u8 1))
  have k1 := (B2.cell (p := ⟨w1.heap.size, 1, none⟩) (by simp)).trans (by simp [go_sem] : _ = some (.int .u32 1))
  have k2 := (B2.cell (p := ⟨w1.heap.size, 2, none⟩) (by simp)).trans (by simp [go_sem] : _ = some (.int .u32 0))
  have hh2 : w1.heap.size < w2.heap.size := by omega
  have B3 : Below w.heap.size w w2 := below_trans (below_trans ((Below.refl _ _).alloc (Nat.le_refl _) _) B1) (below_trans ((Below.refl _ _).alloc (Nat.le_refl _) _) B2)
  clear B1 B2
  have m1 : w1.heap.size < w2.heap.size + 1 := by omega
  have m2 : w1.heap.size < w2.heap.size + 1 + 1 := by omega
  have m3 : g < w2.heap.size + 1 := by omega
  have m4 : g < w2.heap.size + 1 + 1 := by omega
  have r0 : (w2.alloc (.cells #[.int .u16 0, .int .u64 8, .int .u64 0, .int .u64 0] 41)).cell? ⟨w2.heap.size, 0, none⟩ = some (.int .u16 0) := by simp [go_sem]
  have r1 : (w2.alloc (.cells #[.int .u16 0, .int .u64 8, .int .u64 0, .int .u64 0] 41)).cell? ⟨w2.heap.size, 1, none⟩ = some (.int .u64 8) := by simp [go_sem]
  have r2 : (w2.alloc (.cells #[.int .u16 0, .int .u64 8, .int .u64 0, .int .u64 0] 41)).cell? ⟨w2.heap.size, 2, none⟩ = some (.int .u64 0) := by simp [go_sem]
  have r3 : (w2.alloc (.cells #[.int .u16 0, .int .u64 8, .int .u64 0, .int .u64 0] 41)).cell? ⟨w2.heap.size, 3, none⟩ = some (.int .u64 0) := by simp [go_sem]
  go_upto_region 4 with fail
  go_region_held2 (fun w' => w'.cell? ⟨w1.heap.size, 0, none⟩ = some (.int .u8 1) ∧ w'.cell? ⟨w1.heap.size, 1, none⟩ = some (.int .u32 1) ∧ w'.cell? ⟨w1.heap.size, 2, none⟩ = some (.int .u32 0) ∧ w'.cell? ⟨g, 0, none⟩ = some (.int .u8 1) ∧ w'.cell? ⟨g, 1, none⟩ = some (.int .u32 1) ∧ w'.cell? ⟨g, 2, none⟩ = some (.int .u32 0) ∧ w'.cell? ⟨g, 3, none⟩ = some (.int .u64 8) ∧ w'.cell? ⟨g, 4, none⟩ = some (.int .u64 0) ∧ w'.cell? ⟨g, 5, none⟩ = some (.bool false) ∧ w'.cell? ⟨w2.heap.size, 0, none⟩ = some (.int .u16 0) ∧ w'.cell? ⟨w2.heap.size, 1, none⟩ = some (.int .u64 8) ∧ w'.cell? ⟨w2.heap.size, 2, none⟩ = some (.int .u64 0) ∧ w'.cell? ⟨w2.heap.size, 3, none⟩ = some (.int .u64 0)) (((try dsimp only); (repeat' apply And.intro) <;> (repeat first | assumption | apply keepD | apply keepA)))
    ((go_at_call 9; refine (purse_a _ _).mono ?_; rintro e w3 ⟨rfl, rfl⟩))
  all_goals (
    go_wp2_with fail
    go_ret
    exact ⟨rfl, (((B3.alloc B3.size _).alloc (by have := B3.size; simp; omega) _).alloc (by have := B3.size; simp; omega) _).drew⟩)

set_option maxHeartbeats 400000 in
theorem rpurse_any (who : Int) (w : World) : Calls Try.prog 10 #[.int .u32 who] w fun x w' => x = .returned (.agg #[.int .u8 1, .int .u32 who, .int .u32 0]) ∧ Below w.heap.size w w' := by
  go_enter Try.func10, Try.ntmps10
  go_wp2
  exact bodyPost_ret (v := .agg #[.int .u8 1, .int .u32 who, .int .u32 0]) (by simp [results, Try.results10, go_sem]) rfl ⟨rfl, by first | exact Below.refl _ _ | exact below_alloc _ _⟩

set_option maxHeartbeats 400000 in
theorem rbank_any (who : Int) (w : World) : Calls Try.prog 12 #[.int .u32 who] w fun x w' => x = .returned (.agg #[.int .u8 2, .int .u32 who, .int .u32 0]) ∧ Below w.heap.size w w' := by
  go_enter Try.func12, Try.ntmps12
  go_wp2
  exact bodyPost_ret (v := .agg #[.int .u8 2, .int .u32 who, .int .u32 0]) (by simp [results, Try.results12, go_sem]) rfl ⟨rfl, by first | exact Below.refl _ _ | exact below_alloc _ _⟩

set_option maxHeartbeats 400000 in
theorem rtrade_any (who : Int) (w : World) : Calls Try.prog 16 #[.int .u32 who] w fun x w' => x = .returned (.agg #[.int .u8 4, .int .u32 who, .int .u32 0]) ∧ Below w.heap.size w w' := by
  go_enter Try.func16, Try.ntmps16
  go_wp2
  exact bodyPost_ret (v := .agg #[.int .u8 4, .int .u32 who, .int .u32 0]) (by simp [results, Try.results16, go_sem]) rfl ⟨rfl, by first | exact Below.refl _ _ | exact below_alloc _ _⟩

set_option maxHeartbeats 400000 in
theorem rauction_any (who : Int) (w : World) : Calls Try.prog 20 #[.int .u32 who] w fun x w' => x = .returned (.agg #[.int .u8 6, .int .u32 who, .int .u32 0]) ∧ Below w.heap.size w w' := by
  go_enter Try.func20, Try.ntmps20
  go_wp2
  exact bodyPost_ret (v := .agg #[.int .u8 6, .int .u32 who, .int .u32 0]) (by simp [results, Try.results20, go_sem]) rfl ⟨rfl, by first | exact Below.refl _ _ | exact below_alloc _ _⟩

set_option maxHeartbeats 400000 in
theorem rbid_any (who : Int) (w : World) : Calls Try.prog 22 #[.int .u32 who] w fun x w' => x = .returned (.agg #[.int .u8 7, .int .u32 who, .int .u32 0]) ∧ Below w.heap.size w w' := by
  go_enter Try.func22, Try.ntmps22
  go_wp2
  exact bodyPost_ret (v := .agg #[.int .u8 7, .int .u32 who, .int .u32 0]) (by simp [results, Try.results22, go_sem]) rfl ⟨rfl, by first | exact Below.refl _ _ | exact below_alloc _ _⟩

set_option maxHeartbeats 400000 in
theorem rprice_any (who : Int) (w : World) : Calls Try.prog 24 #[.int .u32 who] w fun x w' => x = .returned (.agg #[.int .u8 7, .int .u32 who, .int .u32 1]) ∧ Below w.heap.size w w' := by
  go_enter Try.func24, Try.ntmps24
  go_wp2
  exact bodyPost_ret (v := .agg #[.int .u8 7, .int .u32 who, .int .u32 1]) (by simp [results, Try.results24, go_sem]) rfl ⟨rfl, by first | exact Below.refl _ _ | exact below_alloc _ _⟩

set_option maxHeartbeats 400000 in
theorem rstack_any (who what : Int) (w : World) : Calls Try.prog 14 #[.int .u32 who, .int .u32 what] w fun x w' => x = .returned (.agg #[.int .u8 3, .int .u32 who, .int .u32 what]) ∧ Below w.heap.size w w' := by
  go_enter Try.func14, Try.ntmps14
  go_wp2
  exact bodyPost_ret (v := .agg #[.int .u8 3, .int .u32 who, .int .u32 what]) (by simp [results, Try.results14, go_sem]) rfl ⟨rfl, by first | exact Below.refl _ _ | exact below_alloc _ _⟩

set_option maxHeartbeats 400000 in
theorem roffer_any (who what : Int) (w : World) : Calls Try.prog 18 #[.int .u32 who, .int .u32 what] w fun x w' => x = .returned (.agg #[.int .u8 5, .int .u32 who, .int .u32 what]) ∧ Below w.heap.size w w' := by
  go_enter Try.func18, Try.ntmps18
  go_wp2
  exact bodyPost_ret (v := .agg #[.int .u8 5, .int .u32 who, .int .u32 what]) (by simp [results, Try.results18, go_sem]) rfl ⟨rfl, by first | exact Below.refl _ _ | exact below_alloc _ _⟩

set_option maxHeartbeats 400000 in
theorem rcount_any (kind : Int) (w : World) (h0 : 0 ≤ kind) (h1 : kind ≤ 255) : Calls Try.prog 27 #[.int .u8 kind] w fun x w' => x = .returned (.agg #[.int .u8 8, .int .u32 kind, .int .u32 0]) ∧ Below w.heap.size w w' := by
  have s1 : IntKind.u32.wrap kind = kind := IntWalk.u32_in _ (by omega)
  go_enter Try.func27, Try.ntmps27
  go_wp2
  exact bodyPost_ret (v := .agg #[.int .u8 8, .int .u32 kind, .int .u32 0]) (by simp [results, Try.results27, go_sem]) rfl ⟨rfl, by first | exact Below.refl _ _ | exact below_alloc _ _⟩
end Go.Proofs.Ytdbpjbmalinlbaa
