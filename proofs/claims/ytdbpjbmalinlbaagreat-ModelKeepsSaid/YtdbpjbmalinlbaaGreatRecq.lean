/- The document's recipes: contracts of line, stacks, Needs, count, Change. -/
import Derived.Test.YtdbpjbmalinlbaaGreatModL
import Derived.StillTactics
import Derived.Laws.Pointers
import Derived.Deep.RegionHeld3
import Derived.Deep.AppendLies
import Derived.Outline
namespace Go.Proofs.YtdbpjbmalinlbaaGreat
open Go.RowKit

set_option maxRecDepth 100000 in
set_option maxHeartbeats 400000 in
theorem stacks_any (b : Nat) (off : Nat) (zs : List Int) (cap : Nat) (n : Int) (k : Nat) (w : World) (hk : zs.length = 2 * k) (hr : RowU w (some ⟨b, off, none⟩) zs) (hz : ∀ x ∈ zs, x ≤ 1000) (n0 : 0 ≤ n) (n1 : n ≤ 1000) (hkm : k ≤ 1000) :
    Calls Tryz.prog 45 #[.slice (some ⟨b, off, none⟩) zs.length cap, .int .u64 n] w fun e w' => ∃ v, e = .returned v ∧ w'.ownsRow w.heap.size 107 2 v k (stkCells (prs zs n k)) ∧ Below w.heap.size w w' := by
  obtain ⟨i0, hi, hz0, hz1, hz2⟩ := info_parts Tryz.info41
  have HR := Lib.hid hr
  have HZ := Lib.hid hz
  have HK := Lib.hid hk
  have hkl : (zs.length : Int) ≤ 2000 := by omega
  clear hr hz hk
  go_enter Tryz.func45, Tryz.ntmps45
  go_wp2_with fail
  go_loopw [5, 6] (fun v i wr => ∃ j m : Nat, j ≤ k ∧ i = .int .i64 (m : Int) ∧ m = 2 * j ∧ wr.ownsRow w.heap.size 107 2 v j (stkCells (prs zs n j)) ∧ Below w.heap.size w wr) (fun _ i _ => zs.length - (intOf i).toNat)
  case atStart => exact ⟨0, 0, Nat.zero_le _, rfl, rfl, ⟨rfl, .inl ⟨rfl, rfl⟩⟩, Below.refl _ _⟩
  case round =>
    obtain ⟨j, m, hj, rfl, hm, hown, B⟩ := hrel
    have HM := Lib.hid hm
    clear hm
    by_cases hlt : j < k
    · have h1 : m < zs.length := by have := HK.out; have := HM.out; omega
      have h2 : m + 1 < zs.length := by have := HK.out; have := HM.out; omega
      obtain ⟨x, hx⟩ : ∃ x, zs[m]?.getD 0 = x := ⟨_, rfl⟩
      obtain ⟨y, hy⟩ : ∃ y, zs[m + 1]?.getD 0 = y := ⟨_, rfl⟩
      have x0 : 0 ≤ x := by rw [← hx]; exact (HR.out.1 _ (getD_mem zs _ h1)).1
      have y0 : 0 ≤ y := by rw [← hy]; exact (HR.out.1 _ (getD_mem zs _ h2)).1
      have x1 : x ≤ 1000 := by rw [← hx]; exact HZ.out _ (getD_mem zs _ h1)
      have y1 : y ≤ 1000 := by rw [← hy]; exact HZ.out _ (getD_mem zs _ h2)
      have yn0 : 0 ≤ y * n := Int.mul_nonneg y0 n0
      have yn1 : y * n ≤ 1000 * 1000 := Int.mul_le_mul y1 n1 n0 (by omega)
      have cx : wr.cell? ⟨b, off + m, none⟩ = some (.int .u64 x) := by
        rcases HR.out.2 with h | ⟨b', off', ha, hc⟩
        · rw [h] at h1; simp at h1
        · cases ha; rw [B.cell (World.block_lt_of_cell? _ _ (hc _ h1)), hc _ h1, List.getD_eq_getElem?_getD, hx]
      have cy : wr.cell? ⟨b, off + (m + 1), none⟩ = some (.int .u64 y) := by
        rcases HR.out.2 with h | ⟨b', off', ha, hc⟩
        · rw [h] at h1; simp at h1
        · cases ha; rw [B.cell (World.block_lt_of_cell? _ _ (hc _ h2)), hc _ h2, List.getD_eq_getElem?_getD, hy]
      have HX := Lib.hid hx
      have HY := Lib.hid hy
      have l1 : (m : Int) < (zs.length : Int) := by omega
      have l2 : (m : Int) + 1 < (zs.length : Int) := by omega
      clear hx hy
      have s1 : IntKind.i64.wrap ((m : Int) + 1) = (m : Int) + 1 := IntWalk.i64_in _ (by omega)
      have s2 : 0 ≤ (m : Int) + 1 := by omega
      have s3 : ((m : Int) + 1).toNat = m + 1 := by omega
      have s4 : IntKind.u32.wrap x = x := IntWalk.u32_in _ (by omega)
      have s5 : IntKind.u64.wrap (y * n) = y * n := IntWalk.u64_in _ (by omega)
      go_upto_region 5 with fail
      have lb : b < wr.heap.size := World.block_lt_of_cell? _ _ cx
      have ob : u5.ownBlock ≠ some b := fun h => by
        have h3 := (hown.lt _ h).1
        rcases HR.out.2 with h' | ⟨b', off', ha, hc⟩
        · rw [h'] at h1; simp at h1
        · cases ha; have := World.block_lt_of_cell? _ _ (hc _ h1); simp at this; omega
      have hbase : w.heap.size ≤ wr.heap.size := B.size
      go_region_held3 (fun w' => w'.cell? ⟨b, off + m, none⟩ = some (.int .u64 x) ∧ w'.cell? ⟨b, off + (m + 1), none⟩ = some (.int .u64 y))
        (first
          | go_keep
          | (go_split_ands
             refine ⟨?_, ?_⟩
             · (rw [hgrow.cell_far _ (by simp; omega) (Ne.symm ob)]; assumption)
             · (rw [hgrow.cell_far _ (by simp; omega) (Ne.symm ob)]; assumption)))
        ((refine step_append_lies _ (by rfl) _ _ _ (by rfl) w.heap.size 107 i0 _ 2 16 Tryz.underlying80 hi hz0 hz1 hz2 rfl (by omega) u5 j (stkCells (prs zs n j)) (by rfl) ((hown.alloc _).drew)
            ⟨wr.heap.size, 0, none⟩ 1 1 [.int .u32 x, .int .u64 (y * n)] (by rfl) (by rfl) (World.news_of_block (cs := #[.int .u32 x, .int .u64 (y * n)]) (t := 107) (fr := (0, 0)) (heap_alloc_new wr _)) (by simp [Value.oneCell'])
            (by omega) (by unfold maxLen; omega) (by omega) (by simp; omega) (wr.heap.size + 1) (by simp) ?_; intro gg gcap w1 hown' hgrow hat hlt'))
      have hlt2 := hown.lt
      have B3 : Below w.heap.size w w1 := ((B.alloc hbase _).drew).grown hgrow (by simp; omega) fun k hk => (hlt2 k hk).1
      have e : stkCells (prs zs n j) ++ [.int .u32 x, .int .u64 (y * n)] = stkCells (prs zs n (j + 1)) := by
        rw [prs_succ, stkCells_app]
        have hm := HM.out
        simp only [stkCells, prAt, List.getD_eq_getElem?_getD, ← hm, HX.out, HY.out, List.flatMap_cons, List.flatMap_nil, List.append_nil]
      rw [e] at hown'
      clear hgrow hown B e hlt2 cx cy hat hlt'
      go_wp2_with fail
      go_roundw
      case rel => exact ⟨j + 1, m + 2, by omega, by go_num, by have := HM.out; omega, hown', B3⟩
      case measure => simp [intOf]; omega
    · obtain rfl : j = k := by omega
      have hm : Hid (m = zs.length) := Lib.hid (by have := HM.out; have := HK.out; omega)
      obtain rfl := hm.out
      go_wp2_with fail
      go_ret
      exact ⟨_, rfl, hown, B⟩

/-- A row of u64 in a new block. -/
theorem rowU_new (w : World) (zs : List Int) (h : ∀ x ∈ zs, 0 ≤ x ∧ x ≤ 18446744073709551615) (x : Nat) (fr : Nat × Nat) (t : TypeId) (hb : w.heap[x]? = some (.cells (zs.map (Value.int .u64)).toArray t fr)) : RowU w (some ⟨x, 0, none⟩) zs := by
  refine ⟨h, .inr ⟨x, 0, rfl, fun i hi => ?_⟩⟩
  rw [Nat.zero_add]
  rw [cell_of_row w x i _ t fr hb]
  simp [List.getElem?_eq_getElem hi]

def LineTold (id : Int) (w : World) (e : Ending) (w' : World) : Prop :=
  Below w.heap.size w w' ∧ ((inL id = [] ∧ outL id = [] ∧ e = .returned (.tuple #[.slice none 0 0, .slice none 0 0])) ∨
    inL id ≠ [] ∧ ∃ x y, e = .returned (.tuple #[.slice (some ⟨x, 0, none⟩) (flat (inL id)).length (flat (inL id)).length, .slice (some ⟨y, 0, none⟩) (flat (outL id)).length (flat (outL id)).length]) ∧
      RowU w' (some ⟨x, 0, none⟩) (flat (inL id)) ∧ RowU w' (some ⟨y, 0, none⟩) (flat (outL id)))

theorem line_of (id : Int) (w : World) (h0 : inL id ≠ []) (h1 : ∀ x ∈ flat (inL id), 0 ≤ x ∧ x ≤ 18446744073709551615) (h2 : ∀ x ∈ flat (outL id), 0 ≤ x ∧ x ≤ 18446744073709551615) :
    LineTold id w (.returned (.tuple #[.slice (some ⟨w.heap.size, 0, none⟩) (flat (inL id)).length (flat (inL id)).length, .slice (some ⟨w.heap.size + 1, 0, none⟩) (flat (outL id)).length (flat (outL id)).length]))
      ((w.alloc (.cells ((flat (inL id)).map (Value.int .u64)).toArray 27)).alloc (.cells ((flat (outL id)).map (Value.int .u64)).toArray 27)) := by
  refine ⟨((Below.refl _ _).alloc (Nat.le_refl _) _).alloc (by simp) _, .inr ⟨h0, _, _, rfl, rowU_new _ _ h1 _ (0, 0) 27 ?_, rowU_new _ _ h2 _ (0, 0) 27 ?_⟩⟩
  · rw [Below.heap_alloc _ _ _ (by simp)]
    show (w.heap.push _)[_]? = _
    rw [Array.getElem?_push, if_pos rfl]
  · show ((w.alloc _).heap.push _)[_]? = _
    rw [Array.getElem?_push, if_pos (by simp)]

set_option maxRecDepth 100000 in
set_option maxHeartbeats 400000 in
theorem line_1 (w : World) : Calls Tryz.prog 44 #[.int .u32 1] w (LineTold 1 w) := by
  go_enter Tryz.func44, Tryz.ntmps44
  go_wp2_with fail
  go_ret2
  exact line_of 1 w (by decide) (by decide) (by decide)

set_option maxRecDepth 100000 in
set_option maxHeartbeats 400000 in
theorem line_2 (w : World) : Calls Tryz.prog 44 #[.int .u32 2] w (LineTold 2 w) := by
  go_enter Tryz.func44, Tryz.ntmps44
  go_wp2_with fail
  go_ret2
  exact line_of 2 w (by decide) (by decide) (by decide)

set_option maxRecDepth 100000 in
set_option maxHeartbeats 400000 in
theorem line_3 (w : World) : Calls Tryz.prog 44 #[.int .u32 3] w (LineTold 3 w) := by
  go_enter Tryz.func44, Tryz.ntmps44
  go_wp2_with fail
  go_ret2
  exact line_of 3 w (by decide) (by decide) (by decide)

set_option maxRecDepth 100000 in
set_option maxHeartbeats 400000 in
theorem line_4 (w : World) : Calls Tryz.prog 44 #[.int .u32 4] w (LineTold 4 w) := by
  go_enter Tryz.func44, Tryz.ntmps44
  go_wp2_with fail
  go_ret2
  exact line_of 4 w (by decide) (by decide) (by decide)

set_option maxRecDepth 100000 in
set_option maxHeartbeats 400000 in
theorem line_5 (w : World) : Calls Tryz.prog 44 #[.int .u32 5] w (LineTold 5 w) := by
  go_enter Tryz.func44, Tryz.ntmps44
  go_wp2_with fail
  go_ret2
  exact line_of 5 w (by decide) (by decide) (by decide)

set_option maxRecDepth 100000 in
set_option maxHeartbeats 400000 in
theorem line_6 (w : World) : Calls Tryz.prog 44 #[.int .u32 6] w (LineTold 6 w) := by
  go_enter Tryz.func44, Tryz.ntmps44
  go_wp2_with fail
  go_ret2
  exact line_of 6 w (by decide) (by decide) (by decide)

set_option maxRecDepth 100000 in
set_option maxHeartbeats 400000 in
theorem line_none (id : Int) (w : World) (h : id < 1 ∨ 6 < id) : Calls Tryz.prog 44 #[.int .u32 id] w (LineTold id w) := by
  have e1 : (id == 1) = false := by simp; omega
  have e2 : (id == 2) = false := by simp; omega
  have e3 : (id == 3) = false := by simp; omega
  have e4 : (id == 4) = false := by simp; omega
  have e5 : (id == 5) = false := by simp; omega
  have e6 : (id == 6) = false := by simp; omega
  have hi : Hid (inL id = [] ∧ outL id = []) := Lib.hid (by
    unfold inL outL
    simp only [beq_eq_false_iff_ne] at e1 e2 e3 e4 e5 e6
    simp [e1, e2, e3, e4, e5, e6])
  clear h
  go_enter Tryz.func44, Tryz.ntmps44
  go_wp2_with fail
  go_ret2
  exact ⟨Below.refl _ _, .inl ⟨hi.out.1, hi.out.2, rfl⟩⟩

theorem line_any (id : Int) (w : World) : Calls Tryz.prog 44 #[.int .u32 id] w (LineTold id w) := by
  by_cases h : id < 1 ∨ 6 < id
  · exact line_none id w h
  · rcases (show id = 1 ∨ id = 2 ∨ id = 3 ∨ id = 4 ∨ id = 5 ∨ id = 6 by omega) with rfl | rfl | rfl | rfl | rfl | rfl
    · exact line_1 w
    · exact line_2 w
    · exact line_3 w
    · exact line_4 w
    · exact line_5 w
    · exact line_6 w

theorem stacks_row (b : Nat) (l : List (Int × Int)) (cap : Nat) (n : Int) (w : World) (hr : RowU w (some ⟨b, 0, none⟩) (flat l)) (hz : ∀ x ∈ flat l, x ≤ 1000) (n0 : 0 ≤ n) (n1 : n ≤ 1000) (hl : l.length ≤ 1000) :
    Calls Tryz.prog 45 #[.slice (some ⟨b, 0, none⟩) (flat l).length cap, .int .u64 n] w fun e w' => ∃ v, e = .returned v ∧ Stks w' w.heap.size v (mulL n l) ∧ Below w.heap.size w w' := by
  refine (stacks_any b 0 (flat l) cap n l.length w (flat_len l) hr hz n0 n1 hl).mono ?_
  rintro e w' ⟨v, rfl, h, hb⟩
  rw [prs_flat] at h
  exact ⟨v, rfl, by unfold Stks; rw [mulL_len]; exact h, hb⟩

set_option maxRecDepth 100000 in
set_option maxHeartbeats 400000 in
theorem refNeeds_ok (id n : Int) (w : World) (h : inL id ≠ []) (n1 : 1 ≤ n) (n2 : n ≤ 1000) : Calls Tryz.prog 27 #[.int .u32 id, .int .u64 n] w (SomeTwo (.int .i64 0) (mulL n (inL id)) (mulL n (outL id)) w) := by
  obtain ⟨s1, s2, s3, s4⟩ := rows_small id
  have hl : (inL id).length ≠ 0 := by simpa using h
  have hp : ((flat (inL id)).length == 0) = false := by rw [beq_eq_false_iff_ne, flat_len]; omega
  have hp2 : (((flat (inL id)).length : Int) == 0) = false := by rw [beq_eq_false_iff_ne]; rw [flat_len]; omega
  go_enter Tryz.func27, Tryz.ntmps27
  go_wp2_with fail
  refine (line_any _ _).mono ?_
  rintro e w1 ⟨b1, ⟨h1, h2, rfl⟩ | ⟨hne, x, y, rfl, r1, r2⟩⟩
  · exact absurd h1 h
  · clear h hne
    go_wp2_with fail
    refine (stacks_row _ _ _ _ _ r1 s1 (by omega) (by omega) (by omega)).mono ?_
    rintro e w2 ⟨vi, rfl, k1, b2⟩
    obtain ⟨ai, ci, rfl⟩ := k1.shape
    have r2' := r2.below b2
    go_wp2_with fail
    refine (stacks_row _ _ _ _ _ r2' s2 (by omega) (by omega) (by omega)).mono ?_
    rintro e w3 ⟨vo, rfl, k2, b3⟩
    obtain ⟨ao, co, rfl⟩ := k2.shape
    have B := below_trans b1 (below_trans b2 b3)
    obtain ⟨c0, c1, f0, f1, hs⟩ := kept_two _ _ _ _ _ B
    have hb1 := b1.size
    have hb2 := b2.size
    rw [World.size_alloc] at hb1
    go_wp2_with fail
    refine bodyPost_ret (v := .tuple #[.agg #[.slice ai (mulL n (inL id)).length ci, .slice ao (mulL n (outL id)).length co], .int .i64 0]) (by simp [results, Tryz.results27, go_sem, c0, c1]) rfl ⟨_, rfl, ?_, _, _, rfl, ?_, ?_⟩
    · exact ((((Below.refl _ _).alloc (Nat.le_refl _) _).trans (B.mono (by simp))).setCell (Nat.le_refl _) _).setCell (Nat.le_refl _) _
    · exact (((k1.below b3).setCell (p := ⟨w.heap.size, 0, none⟩) (show w.heap.size < w1.heap.size by omega) _).setCell (p := ⟨w.heap.size, 1, none⟩) (show w.heap.size < w1.heap.size by omega) _).mono (by omega)
    · exact ((k2.setCell (p := ⟨w.heap.size, 0, none⟩) (show w.heap.size < w2.heap.size by omega) _).setCell (p := ⟨w.heap.size, 1, none⟩) (show w.heap.size < w2.heap.size by omega) _).mono (by omega)

set_option maxRecDepth 100000 in
set_option maxHeartbeats 400000 in
theorem refNeeds_arg (id n : Int) (w : World) (h : inL id ≠ []) (hn : n < 1 ∨ 1000 < n) : Calls Tryz.prog 27 #[.int .u32 id, .int .u64 n] w (SomeTwo (.int .i64 1) [] [] w) := by
  have hl : (inL id).length ≠ 0 := by simpa using h
  have hp : ((flat (inL id)).length == 0) = false := by rw [beq_eq_false_iff_ne, flat_len]; omega
  have hp2 : (((flat (inL id)).length : Int) == 0) = false := by rw [beq_eq_false_iff_ne]; rw [flat_len]; omega
  rcases hn with hn | hn
  all_goals
    go_enter Tryz.func27, Tryz.ntmps27
    go_wp2_with fail
    refine (line_any _ _).mono ?_
    rintro e w1 ⟨b1, ⟨h1, h2, rfl⟩ | ⟨hne, x, y, rfl, r1, r2⟩⟩
    · exact absurd h1 h
    · obtain ⟨c0, c1, f0, f1, hs⟩ := kept_two _ _ _ _ _ b1
      have hm : ¬ 1000 < n ∨ 1 ≤ n := by omega
      go_wp2_with fail
      refine bodyPost_ret (v := .tuple #[.agg #[.slice none 0 0, .slice none 0 0], .int .i64 1]) (by simp [results, Tryz.results27, go_sem, c0, c1]) rfl ⟨_, rfl, ?_, _, _, rfl, Stks.nil _ _, Stks.nil _ _⟩
      exact ((((Below.refl _ _).alloc (Nat.le_refl _) _).trans (b1.mono (by simp))).setCell (Nat.le_refl _) _).setCell (Nat.le_refl _) _

set_option maxRecDepth 100000 in
set_option maxHeartbeats 400000 in
theorem refNeeds_none (id n : Int) (w : World) (h : inL id = []) : Calls Tryz.prog 27 #[.int .u32 id, .int .u64 n] w (SomeTwo (.int .i64 40) [] [] w) := by
  have H := Lib.hid h
  clear h
  go_enter Tryz.func27, Tryz.ntmps27
  go_wp2_with fail
  refine (line_any _ _).mono ?_
  rintro e w1 ⟨b1, ⟨h1, h2, rfl⟩ | ⟨hne, x, y, rfl, r1, r2⟩⟩
  · clear h1 h2
    obtain ⟨c0, c1, f0, f1, hs⟩ := kept_two _ _ _ _ _ b1
    go_wp2_with fail
    refine bodyPost_ret (v := .tuple #[.agg #[.slice none 0 0, .slice none 0 0], .int .i64 40]) (by simp [results, Tryz.results27, go_sem, c0, c1]) rfl ⟨_, rfl, ?_, _, _, rfl, Stks.nil _ _, Stks.nil _ _⟩
    exact ((((Below.refl _ _).alloc (Nat.le_refl _) _).trans (b1.mono (by simp))).setCell (Nat.le_refl _) _).setCell (Nat.le_refl _) _
  · exact absurd H.out hne

theorem refNeeds_any (id n : Int) (w : World) : Calls Tryz.prog 27 #[.int .u32 id, .int .u64 n] w (SomeTwo (.int .i64 (needsE id n)) (needsI id n) (needsO id n) w) := by
  by_cases h : inL id = []
  · obtain ⟨e1, e2, e3⟩ := needs_none (n := n) h
    rw [e1, e2, e3]; exact refNeeds_none id n w h
  · by_cases hn : n < 1 ∨ 1000 < n
    · obtain ⟨e1, e2, e3⟩ := needs_arg h hn
      rw [e1, e2, e3]; exact refNeeds_arg id n w h hn
    · obtain ⟨e1, e2, e3⟩ := needs_ok h (show 1 ≤ n by omega) (by omega)
      rw [e1, e2, e3]; exact refNeeds_ok id n w h (by omega) (by omega)

set_option maxHeartbeats 400000 in
theorem refCount_any (v : Value) (l : List (Int × Int)) (item : Int) (base : Nat) (w : World) (h : Stks w base v l) (hl : l.length ≤ 1000) :
    Calls Tryz.prog 28 #[v, .int .u32 item] w fun e w' => e = .returned (.int .u64 (cnt l item)) ∧ w = w' := by
  obtain ⟨a, c, rfl⟩ := h.shape
  go_enter Tryz.func28, Tryz.ntmps28
  go_wp2_with fail
  go_loop [5] (fun i => ∃ k : Nat, k ≤ l.length ∧ i = .int .i64 k ∧ ∀ (j : Nat) p, j < k → l[j]? = some p → p.1 ≠ item) (fun i => l.length - (intOf i).toNat)
  case atStart => exact ⟨0, Nat.zero_le _, rfl, by simp⟩
  case round =>
    obtain ⟨k, hk, rfl, hn⟩ := hrel
    have HN := Lib.hid hn
    clear hn
    by_cases hlt : k < l.length
    · obtain ⟨p, hp⟩ : ∃ p, l[k]? = some p := ⟨l[k], List.getElem?_eq_getElem hlt⟩
      rcases h.2 with ⟨h1, h2⟩ | ⟨g, cap, cur, h1, h2, h3⟩
      · omega
      · cases h1
        obtain ⟨c1, c2⟩ := h.cells hp
        have HP := Lib.hid hp
        clear h2 h3 hp
        by_cases he : p.1 = item
        · have hb : (p.1 == item) = true := by simpa using he
          have HE := Lib.hid he
          clear he
          go_wp2_with fail
          go_ret
          exact ⟨ret_one (cnt_hit HN.out HP.out HE.out).symm, rfl⟩
        · have hb : (p.1 == item) = false := by simpa using he
          have HE := Lib.hid he
          clear he
          go_wp2_with fail
          go_round
          case rel =>
            refine ⟨k + 1, by omega, by go_num, fun j q hj hq => ?_⟩
            by_cases hjk : j = k
            · subst hjk; rw [HP.out] at hq; cases hq; exact HE.out
            · exact HN.out j q (by omega) hq
          case measure => simp [intOf]; omega
    · obtain rfl : k = l.length := by omega
      go_wp2_with fail
      go_ret
      exact ⟨ret_one (cnt_miss HN.out).symm, rfl⟩

theorem refCount_b (v : Value) (l : List (Int × Int)) (item : Int) (base : Nat) (w : World) (h : Stks w base v l) (hl : l.length ≤ 1000) :
    Calls Tryz.prog 28 #[v, .int .u32 item] w fun e w' => e = .returned (.int .u64 (cnt l item)) ∧ Below w.heap.size w w' :=
  (refCount_any v l item base w h hl).mono fun _ _ ⟨h1, h2⟩ => ⟨h1, by rw [← h2]; exact Below.refl _ _⟩

set_option maxRecDepth 100000 in
set_option maxHeartbeats 400000 in
theorem refChange_any (id n item : Int) (w : World) :
    Calls Tryz.prog 19 #[.int .u32 id, .int .u64 n, .int .u32 item] w fun e w' => e = .returned (.tuple #[.int .u64 (cnt (needsI id n) item), .int .u64 (cnt (needsO id n) item)]) ∧ Below w.heap.size w w' := by
  obtain ⟨l1, l2⟩ := needs_len id n
  have hz : Hid (needsE id n ≠ 0 → needsI id n = [] ∧ needsO id n = []) := Lib.hid (by
    intro h
    by_cases h1 : inL id = []
    · exact (needs_none h1).2
    · by_cases h2 : n < 1 ∨ 1000 < n
      · exact (needs_arg h1 h2).2
      · exact absurd (needs_ok h1 (show 1 ≤ n by omega) (by omega)).1 h)
  go_enter Tryz.func19, Tryz.ntmps19
  go_wp2_with fail
  refine (refNeeds_any _ _ _).mono ?_
  rintro e w1 ⟨r, rfl, b1, vi, vo, rfl, k1, k2⟩
  obtain ⟨ai, ci, rfl⟩ := k1.shape
  obtain ⟨ao, co, rfl⟩ := k2.shape
  by_cases he : needsE id n = 0
  · have hb : (needsE id n != 0) = false := by rw [bne_eq_false_iff_eq]; exact he
    have K1 := Lib.hid k1
    have K2 := Lib.hid k2
    clear he k1 k2
    go_wp2_with fail
    obtain ⟨k1, k2⟩ := And.intro K1.out K2.out
    clear K1 K2
    have q1 : Stks (w1.alloc (.cells #[.slice ai (needsI id n).length ci, .slice ao (needsO id n).length co] 82)) w.heap.size (.slice ai (needsI id n).length ci) (needsI id n) := k1.below ((Below.refl _ _).alloc (Nat.le_refl _) _)
    have q2 : Stks (w1.alloc (.cells #[.slice ai (needsI id n).length ci, .slice ao (needsO id n).length co] 82)) w.heap.size (.slice ao (needsO id n).length co) (needsO id n) := k2.below ((Below.refl _ _).alloc (Nat.le_refl _) _)
    have d0 : (w1.alloc (.cells #[.slice ai (needsI id n).length ci, .slice ao (needsO id n).length co] 82)).cell? ⟨w1.heap.size, 0, none⟩ = some (.slice ai (needsI id n).length ci) := by simp [go_sem]
    have d1 : (w1.alloc (.cells #[.slice ai (needsI id n).length ci, .slice ao (needsO id n).length co] 82)).cell? ⟨w1.heap.size, 1, none⟩ = some (.slice ao (needsO id n).length co) := by simp [go_sem]
    have B : Below w.heap.size w (w1.alloc (.cells #[.slice ai (needsI id n).length ci, .slice ao (needsO id n).length co] 82)) := b1.alloc b1.size _
    obtain ⟨X, hX⟩ : ∃ X, X = w1.heap.size := ⟨_, rfl⟩
    rw [← hX] at d0 d1 ⊢
    generalize w1.alloc (.cells #[.slice ai (needsI id n).length ci, .slice ao (needsO id n).length co] 82) = w2 at q1 q2 d0 d1 B ⊢
    clear k1 k2 b1 hX
    go_region_held3 (fun w' => w'.cell? ⟨X, 0, none⟩ = some (.slice ai (needsI id n).length ci) ∧ w'.cell? ⟨X, 1, none⟩ = some (.slice ao (needsO id n).length co) ∧ Hid (Below w2.heap.size w2 w'))
      (first
        | exact ⟨d0, d1, Lib.hid (Below.refl _ _).drew⟩
        | (go_split_ands; exact ⟨cell_keep bq (by assumption), cell_keep bq (by assumption), Lib.hid (below_trans (Hid.out (by assumption)) bq)⟩))
      (first
        | (go_at_call_of 28 (Value.slice ai (needsI id n).length ci); go_split_ands; refine (refCount_b _ _ _ _ _ (q1.below (Hid.out (by assumption))) (by omega)).mono ?_; rintro e wq ⟨rfl, bq⟩)
        | (go_at_call_of 28 (Value.slice ao (needsO id n).length co); go_split_ands; refine (refCount_b _ _ _ _ _ (q2.below (Hid.out (by assumption))) (by omega)).mono ?_; rintro e wq ⟨rfl, bq⟩))
    go_wp2_with fail
    go_ret2
    exact ⟨rfl, below_trans B (below_trans (Hid.out (by assumption)) bq)⟩
  · have hb : (needsE id n != 0) = true := by rw [bne_iff_ne]; exact he
    have Z := Lib.hid (hz.out he)
    clear he k1 k2
    go_wp2_with fail
    go_ret2
    exact ⟨by rw [Z.out.1, Z.out.2]; rfl, b1.alloc b1.size _⟩
end Go.Proofs.YtdbpjbmalinlbaaGreat
