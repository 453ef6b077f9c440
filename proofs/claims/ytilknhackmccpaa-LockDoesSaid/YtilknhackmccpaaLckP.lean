/- Package lock: blocks. -/
import Derived.Test.YtilknhackmccpaaLckM
set_option linter.unusedVariables false
set_option linter.unusedSimpArgs false
namespace Go.Proofs.Ytilknhackmccpaa
open Go.RowKit Go.Sort Go.Lib Go.Maps

/-- Whom the k-th in line waits for. -/
def blkL (h l : List (Int × Int)) (k : Nat) : List Int := canon ((h.filter fun y => apartB y (l.getD k (0, 0))).map (·.1) ++ (l.take k).map (·.1))
theorem filt_snoc {h : List (Int × Int)} {i : Nat} (hi : i < h.length) (p : Int × Int → Bool) : ((h.take (i + 1)).filter p).map (·.1) = ((h.take i).filter p).map (·.1) ++ (if p (h.getD i (0, 0)) then [(h.getD i (0, 0)).1] else []) := by
  rw [List.take_succ_eq_append_getElem hi, List.filter_append, List.map_append, getD_eq h hi]
  congr 1
  simp only [List.filter_cons, List.filter_nil]
  split <;> simp
theorem filt_len (h : List (Int × Int)) (i : Nat) (p : Int × Int → Bool) : (((h.take i).filter p).map (·.1)).length ≤ h.length := by
  rw [List.length_map]
  exact Nat.le_trans (List.length_filter_le _ _) (by rw [List.length_take]; omega)

set_option maxRecDepth 100000 in
set_option maxHeartbeats 8000000 in
theorem blocks_u (va vb : Value) (h l : List (Int × Int)) (t : Int) (k : Nat) (w : World) (ha : Wants w va h) (hb : Wants w vb l) (hhl : h.length < 400000) (hll : l.length < 400000) (hk : k < l.length) (hix : idxBy (fun _ y => y.1 == t) l (0, 0) = k) (hu1 : ∀ x ∈ h, U x.1) (hu2 : ∀ x ∈ l, U x.1) :
    Calls Try.prog 52 #[.agg #[va, vb], .int .u32 t] w fun e w' => ∃ v', e = .returned v' ∧ w'.ownsInts w.heap.size 23 .u32 v' (blkL h l k) ∧ RowKit.Below w.heap.size w w' := by
  have b1 := below_alloc w (.cells #[va, vb] 80)
  have L1 : LockB (w.alloc (.cells #[va, vb] 80)) w.heap.size va vb := heap_alloc_new w (.cells #[va, vb] 80)
  have A1 := ha.keep b1 (Nat.le_refl _)
  have C1 := hb.keep b1 (Nat.le_refl _)
  obtain ⟨N, hN⟩ : ∃ N, w.heap.size = N := ⟨_, rfl⟩
  obtain ⟨w1, hw1⟩ : ∃ y, w.alloc (.cells #[va, vb] 80) = y := ⟨_, rfl⟩
  have hs1 : w1.heap.size = N + 1 := by rw [← hw1, ← hN]; simp
  rw [hw1] at b1 L1 A1 C1
  rw [hN] at b1 L1 ⊢
  obtain ⟨nh, hnh⟩ : ∃ n, h.length = n := ⟨_, rfl⟩
  obtain ⟨nl, hnl⟩ : ∃ n, l.length = n := ⟨_, rfl⟩
  obtain ⟨a1, c1, rfl⟩ : ∃ a c, va = .slice a nh c := by obtain ⟨a, c, e, _⟩ := A1; exact ⟨a, c, by rw [e, hnh]⟩
  obtain ⟨a2, c2, rfl, hc2⟩ : ∃ a c, vb = .slice a nl c ∧ nl ≤ c := by obtain ⟨a, c, e, hm, _⟩ := C1; exact ⟨a, c, by rw [e, hnl], by omega⟩
  obtain ⟨⟨x1, x2⟩, hx⟩ : ∃ x, l.getD k (0, 0) = x := ⟨_, rfl⟩
  obtain ⟨e2, o2, rfl, hl2, hcl⟩ : ∃ eb off, a2 = some ⟨eb, off, none⟩ ∧ eb < w1.heap.size ∧ ∀ i, i < l.length → w1.cell? ⟨eb, off + i * 2, none⟩ = some (.int .u32 (l.getD i (0, 0)).1) ∧ w1.cell? ⟨eb, off + i * 2 + 1, none⟩ = some (.int .u8 (l.getD i (0, 0)).2) := by
    obtain ⟨a, c, e, _, _, hc⟩ := C1
    obtain ⟨eb, off, h1, h2, h3⟩ := hc (by rintro rfl; simp at hk)
    cases e
    exact ⟨eb, off, h1, h2.lt, h3⟩
  have lN : N < w1.heap.size := by omega
  have hof : Hid (∀ wx, RowKit.Below (N + 1) w1 wx → Calls Try.prog 63 #[.int .u32 t] wx fun e w' => ∃ B, e = .returned (.func (.func 80) #[] #[.pointer (some ⟨B, 0, none⟩)]) ∧ B < w'.heap.size ∧ w'.cell? ⟨B, 0, none⟩ = some (.int .u32 t) ∧ RowKit.Below (N + 1) w1 w') :=
    Lib.hid fun wx hx => (of_u t wx).mono fun e w' ⟨h1, h2⟩ => ⟨wx.heap.size, h1, by rw [h2]; simp, by rw [h2, cell_of_heap (heap_alloc_new wx _)]; rfl, by rw [h2]; exact hx.trans ((below_alloc wx _).mono (by have := hx.size; omega))⟩
  have hidx : Hid (∀ B wx, RowKit.Below (N + 1) w1 wx → B < wx.heap.size → wx.cell? ⟨B, 0, none⟩ = some (.int .u32 t) → Calls Try.prog 62 #[.slice (some ⟨e2, o2, none⟩) nl c2, .func (.func 80) #[] #[.pointer (some ⟨B, 0, none⟩)]] wx fun e w' => e = .returned (.int .i64 k) ∧ RowKit.Below (N + 1) w1 w') :=
    Lib.hid fun B wx hx hB hc => (idx_u _ l t B wx (C1.keep hx (by omega)) hB hc).mono fun e w' ⟨h1, h2⟩ => ⟨by rw [h1, hix], hx.trans (h2.mono (by have := hx.size; omega))⟩
  have hap : Hid (∀ y1 y2 wx, RowKit.Below (N + 1) w1 wx → Calls Try.prog 66 #[.agg #[.int .u32 y1, .int .u8 y2], .agg #[.int .u32 x1, .int .u8 x2]] wx fun e w' => e = .returned (.bool (apartB (y1, y2) (x1, x2))) ∧ RowKit.Below wx.heap.size wx w') :=
    Lib.hid fun y1 y2 wx hx => (apart_u (y1, y2) (x1, x2) wx)
  have hkS : Hid (∀ w', RowKit.Below (N + 1) w1 w' → w'.cell? ⟨N, 1, none⟩ = some (.slice (some ⟨e2, o2, none⟩) nl c2) ∧ Hid (RowKit.Below (N + 1) w1 w')) :=
    Lib.hid fun w' hx => ⟨(hx.cell (p := ⟨N, 1, none⟩) (Nat.lt_succ_self N)).trans L1.c1, Lib.hid hx⟩
  have hk0 : Hid (∀ w', RowKit.Below (N + 1) w1 w' → w'.cell? ⟨N, 0, none⟩ = some (.slice a1 nh c1)) := Lib.hid fun w' hx => (hx.cell (p := ⟨N, 0, none⟩) (Nat.lt_succ_self N)).trans L1.c0
  have hkX : Hid (∀ w', RowKit.Below (N + 1) w1 w' → w'.cell? ⟨e2, o2 + k * 2, none⟩ = some (.int .u32 x1) ∧ w'.cell? ⟨e2, o2 + k * 2 + 1, none⟩ = some (.int .u8 x2)) := by
    obtain ⟨d1, d2⟩ := hcl k hk
    rw [hx] at d1 d2
    exact Lib.hid fun w' b => ⟨(b.cell (p := ⟨e2, o2 + k * 2, none⟩) (by show e2 < N + 1; omega)).trans d1, (b.cell (p := ⟨e2, o2 + k * 2 + 1, none⟩) (by show e2 < N + 1; omega)).trans d2⟩
  have hkL : Hid (∀ w' i, RowKit.Below (N + 1) w1 w' → i < nl → w'.cell? ⟨e2, o2 + i * 2, none⟩ = some (.int .u32 (l.getD i (0, 0)).1) ∧ w'.cell? ⟨e2, o2 + i * 2 + 1, none⟩ = some (.int .u8 (l.getD i (0, 0)).2)) :=
    Lib.hid fun w' i b hi => ⟨(b.cell (p := ⟨e2, o2 + i * 2, none⟩) (by show e2 < N + 1; omega)).trans (hcl i (by omega)).1, (b.cell (p := ⟨e2, o2 + i * 2 + 1, none⟩) (by show e2 < N + 1; omega)).trans (hcl i (by omega)).2⟩
  have hB0 : Hid (RowKit.Below (N + 1) w1 w1) := Lib.hid (RowKit.Below.refl _ _)
  have hA := Lib.hid A1
  have hb1 := Lib.hid b1
  have hu1' := Lib.hid hu1
  have hu2' := Lib.hid hu2
  have hnh' := Lib.hid hnh
  have hnl' := Lib.hid hnl
  have hx' := Lib.hid hx
  have hkn : k < nl := by omega
  have hnhl : nh < 400000 := by omega
  have hnll : nl < 400000 := by omega
  replace hs1 := Lib.hid hs1
  clear L1 A1 C1 ha hb hix hu1 hu2 hcl b1 hnh hnl hx
  go_enter Try.func52, Try.ntmps52
  go_upto_region 1 with fail
  go_region_held2 (fun w' => w'.cell? ⟨N, 1, none⟩ = some (.slice (some ⟨e2, o2, none⟩) nl c2) ∧ Hid (RowKit.Below (N + 1) w1 w'))
    (first | exact hkS.out _ hB0.out.drew | exact hkS.out _ b2 | exact hkS.out _ b3 | go_keep)
    (first
      | (go_at_call 63; go_split_ands; refine Calls.mono (hof.out _ (Hid.out (by assumption))) ?_; rintro e w2 ⟨B, rfl, hB, hBc, b2⟩)
      | (go_at_call 62; go_split_ands; refine Calls.mono (hidx.out _ _ (Hid.out (by assumption)) (by assumption) (by assumption)) ?_; rintro e w3 ⟨rfl, b3⟩))
  have B3 := Lib.hid b3
  have hO0 : Hid (w3.ownsInts (N + 1) 23 .u32 (.slice none 0 0) (((h.take 0).filter fun y => apartB y (x1, x2)).map (·.1))) := Lib.hid (World.ownsInts_nil _ _ _ _)
  have hk00 := hk0.out _ b3
  clear b2 b3 hB hBc
  go_wp2
  go_loopw [6, 19] (fun v6 v19 wr => ∃ i : Nat, v19 = .int .i64 i ∧ i ≤ nh ∧ Hid (wr.ownsInts (N + 1) 23 .u32 v6 (((h.take i).filter fun y => apartB y (x1, x2)).map (·.1))) ∧ Hid (RowKit.Below (N + 1) w1 wr)) (fun _ v19 _ => nh - (intOf v19).toNat)
  case atStart => exact ⟨0, rfl, Nat.zero_le _, hO0, B3⟩
  case round =>
    clear hO0 B3 hk00
    obtain ⟨i, rfl, hi, O, hB⟩ := hrel
    have hNw : N + 1 ≤ wr.heap.size := by have := hB.out.size; have := hs1.out; omega
    by_cases hin : i < nh
    · have hii : (i : Int) < (nh : Int) := by omega
      obtain ⟨e1, o1, rfl, hl1, g1, g2⟩ : ∃ eb off, a1 = some ⟨eb, off, none⟩ ∧ eb < N + 1 ∧ w1.cell? ⟨eb, off + i * 2, none⟩ = some (.int .u32 (h.getD i (0, 0)).1) ∧ w1.cell? ⟨eb, off + i * 2 + 1, none⟩ = some (.int .u8 (h.getD i (0, 0)).2) := by
        obtain ⟨a, c, e, _, _, hc⟩ := hA.out
        obtain ⟨eb, off, h1, h2, h3⟩ := hc (by rintro rfl; have := hnh'.out; simp at this; omega)
        cases e
        have := h2.lt
        exact ⟨eb, off, h1, by have := hs1.out; omega, h3 i (by have := hnh'.out; omega)⟩
      have hfs := filt_snoc (h := h) (i := i) (by have := hnh'.out; omega) fun y => apartB y (x1, x2)
      have hln := filt_len h i fun y => apartB y (x1, x2)
      have hyu := hu1'.out (h.getD i (0, 0)) (by rw [getD_eq h (by have := hnh'.out; omega)]; exact List.getElem_mem _)
      obtain ⟨⟨y1, y2⟩, hy⟩ : ∃ y, h.getD i (0, 0) = y := ⟨_, rfl⟩
      rw [hy] at g1 g2 hfs hyu
      simp only at g1 g2 hfs hyu
      obtain ⟨bx, hbx⟩ : ∃ b, apartB (y1, y2) (x1, x2) = b := ⟨_, rfl⟩
      rw [hbx] at hfs
      obtain ⟨L, hL⟩ : ∃ L, ((h.take i).filter fun y => apartB y (x1, x2)).map (·.1) = L := ⟨_, rfl⟩
      rw [hL] at O hfs hln
      have f1 := (hB.out.cell (p := ⟨e1, o1 + i * 2, none⟩) hl1).trans g1
      have f2 := (hB.out.cell (p := ⟨e1, o1 + i * 2 + 1, none⟩) hl1).trans g2
      have hap1 := Lib.hid (fun wx hx => (hap.out y1 y2 wx hx))
      rw [hbx] at hap1
      replace hfs := Lib.hid hfs
      replace hyu := Lib.hid hyu
      have B4 := hB.out.alloc hNw (.cells #[.int .u32 y1, .int .u8 y2] 77)
      have O4 := Lib.hid (O.out.alloc (.cells #[.int .u32 y1, .int .u8 y2] 77))
      have nb := heap_alloc_new wr (.cells #[.int .u32 y1, .int .u8 y2] 77)
      clear hL hy hbx g1 g2
      go_upto_region 6 with fail
      obtain ⟨KB, hKB⟩ : ∃ x, x = wr.heap.size := ⟨_, rfl⟩
      obtain ⟨w4, hw4⟩ : ∃ x, x = wr.alloc (.cells #[.int .u32 y1, .int .u8 y2] 77) := ⟨_, rfl⟩
      rw [← hw4] at B4 O4 nb ⊢
      rw [← hKB] at nb ⊢
      have lKB : KB < w4.heap.size := (Array.getElem?_eq_some_iff.1 nb).1
      have hs4 : N + 1 ≤ w4.heap.size := by omega
      have hB4 := Lib.hid B4
      have hkp : Hid (∀ w', RowKit.Below w4.heap.size w4 w' → w'.cell? ⟨KB, 0, none⟩ = some (.int .u32 y1) ∧ w'.cell? ⟨KB, 1, none⟩ = some (.int .u8 y2) ∧ w'.cell? ⟨N, 1, none⟩ = some (.slice (some ⟨e2, o2, none⟩) nl c2) ∧ w'.cell? ⟨e2, o2 + k * 2, none⟩ = some (.int .u32 x1) ∧ w'.cell? ⟨e2, o2 + k * 2 + 1, none⟩ = some (.int .u8 x2) ∧ Hid (RowKit.Below w4.heap.size w4 w')) := Lib.hid fun w' b => by
        have bb := B4.trans (b.mono hs4)
        exact ⟨(b.cell (p := ⟨KB, 0, none⟩) lKB).trans (by rw [cell_of_heap nb]; rfl), (b.cell (p := ⟨KB, 1, none⟩) lKB).trans (by rw [cell_of_heap nb]; rfl), (hkS.out _ bb).1, (hkX.out _ bb).1, (hkX.out _ bb).2, Lib.hid b⟩
      have hap2 : Hid (∀ wx, RowKit.Below w4.heap.size w4 wx → Calls Try.prog 66 #[.agg #[.int .u32 y1, .int .u8 y2], .agg #[.int .u32 x1, .int .u8 x2]] wx fun e w' => e = .returned (.bool bx) ∧ RowKit.Below w4.heap.size w4 w') :=
        Lib.hid fun wx hx => (hap1.out wx (hB4.out.trans (hx.mono hs4))).mono fun e w' ⟨h1, h2⟩ => ⟨h1, hx.trans (h2.mono hx.size)⟩
      have hr0 : Hid (RowKit.Below w4.heap.size w4 w4) := Lib.hid (RowKit.Below.refl _ _)
      replace nb := Lib.hid nb
      clear hw4 hKB hB O f1 f2 hap1 B4 hNw
      go_region_held2 (fun w' => w'.cell? ⟨KB, 0, none⟩ = some (.int .u32 y1) ∧ w'.cell? ⟨KB, 1, none⟩ = some (.int .u8 y2) ∧ w'.cell? ⟨N, 1, none⟩ = some (.slice (some ⟨e2, o2, none⟩) nl c2) ∧ w'.cell? ⟨e2, o2 + k * 2, none⟩ = some (.int .u32 x1) ∧ w'.cell? ⟨e2, o2 + k * 2 + 1, none⟩ = some (.int .u8 x2) ∧ Hid (RowKit.Below w4.heap.size w4 w'))
        (first | exact hkp.out _ hr0.out.drew | exact hkp.out _ b5 | go_keep)
        (first
          | (go_at_call 66; go_split_ands; refine Calls.mono (hap2.out _ (Hid.out (by assumption))) ?_; rintro e w5 ⟨rfl, b5⟩))
      have B5 := Lib.hid (hB4.out.trans (b5.mono hs4))
      have O5 := Lib.hid (O4.out.kept (grew b5) (Classical.em _))
      obtain ⟨f1, f2, -⟩ := hkp.out _ b5
      have hNw : N + 1 ≤ w5.heap.size := Nat.le_trans hs4 b5.size
      clear b5 hkp hap2 hr0 hB4 O4
      cases bx
      · have hO2 : Hid (w5.ownsInts (N + 1) 23 .u32 u6 (((h.take (i + 1)).filter fun y => apartB y (x1, x2)).map (·.1))) := Lib.hid (by rw [hfs.out]; simpa using O5.out)
        go_wp2
        go_roundw
        case rel => exact ⟨i + 1, by go_num, by omega, hO2, B5⟩
        case measure => simp [intOf]; omega
      · have hnc := Lib.hid (heap_alloc_new w5 (.cells #[.int .u32 y1] 23))
        have O6 := Lib.hid (O5.out.alloc (.cells #[.int .u32 y1] 23))
        have B6 := Lib.hid (B5.out.alloc hNw (.cells #[.int .u32 y1] 23))
        have hlw : L.length + 1 < 1000000 := by have := hnh'.out; omega
        have hG6 : N + 1 ≤ (w5.alloc (.cells #[.int .u32 y1] 23)).heap.size := by simp; omega
        go_wp2_with (at_builtin; refine wpList_append_n rfl (.tmp 30) (.tmp 33) rfl (N + 1) u6 L rfl O6.out (some ⟨w5.heap.size, 0, none⟩) 1 1 [y1] rfl (nums_one hnc.out) (by intro z hz; rw [List.mem_singleton.1 hz]; exact hyu.out) rfl hlw hG6 ?_; intro v14 w14 O14 g14)
        have hO2 : Hid (w14.ownsInts (N + 1) 23 .u32 v14 (((h.take (i + 1)).filter fun y => apartB y (x1, x2)).map (·.1))) := Lib.hid (by rw [hfs.out]; simpa using O14)
        have B14 := Lib.hid (B6.out.trans (below_of_grown g14 (fun j hj => (row_ge O6.out.1 j hj).1) hG6))
        go_roundw
        case rel => exact ⟨i + 1, by go_num, by omega, hO2, B14⟩
        case measure => simp [intOf]; omega
    · obtain rfl : i = nh := by omega
      have hfall : h.take i = h := List.take_of_length_le (by have := hnh'.out; omega)
      rw [hfall] at O
      have hl1 : ((h.filter fun y => apartB y (x1, x2)).map (·.1)).length ≤ i := by rw [List.length_map]; exact Nat.le_trans (List.length_filter_le _ _) (by have := hnh'.out; omega)
      obtain ⟨L1, hL1⟩ : ∃ L, (h.filter fun y => apartB y (x1, x2)).map (·.1) = L := ⟨_, rfl⟩
      rw [hL1] at O hl1
      have e1 := (hkS.out _ hB.out).1
      have hO0 : Hid (wr.ownsInts (N + 1) 23 .u32 u6 (L1 ++ (l.take 0).map (·.1))) := Lib.hid (by simpa using O.out)
      have hkc : k ≤ c2 := by omega
      replace hL1 := Lib.hid hL1
      clear hfall O
      go_wp2
      go_loopw [6, 41] (fun v6 v41 ws => ∃ j : Nat, v41 = .int .i64 j ∧ j ≤ k ∧ Hid (ws.ownsInts (N + 1) 23 .u32 v6 (L1 ++ (l.take j).map (·.1))) ∧ Hid (RowKit.Below (N + 1) w1 ws)) (fun _ v41 _ => k - (intOf v41).toNat)
      case atStart => exact ⟨0, rfl, Nat.zero_le _, hO0, hB⟩
      case round =>
        clear hO0 hB e1
        obtain ⟨j, rfl, hj, O, hB⟩ := hrel
        have hNw : N + 1 ≤ wr.heap.size := by have := hB.out.size; have := hs1.out; omega
        by_cases hjk : j < k
        · have hjj : (j : Int) < (k : Int) := by omega
          obtain ⟨f1, f2⟩ := hkL.out _ j hB.out (by omega)
          have hst : (l.take (j + 1)).map (·.1) = (l.take j).map (·.1) ++ [(l.getD j (0, 0)).1] := by
            rw [List.take_succ_eq_append_getElem (by have := hnl'.out; omega), List.map_append, getD_eq l (by have := hnl'.out; omega)]; rfl
          have hzu := hu2'.out (l.getD j (0, 0)) (by rw [getD_eq l (by have := hnl'.out; omega)]; exact List.getElem_mem _)
          obtain ⟨⟨z1, z2⟩, hz⟩ : ∃ y, l.getD j (0, 0) = y := ⟨_, rfl⟩
          rw [hz] at f1 f2 hst hzu
          simp only at f1 f2 hst hzu
          have hlt : ((l.take j).map (·.1)).length ≤ j := by rw [List.length_map, List.length_take]; omega
          obtain ⟨L2, hL2⟩ : ∃ L, (l.take j).map (·.1) = L := ⟨_, rfl⟩
          rw [hL2] at O hst hlt
          replace hst := Lib.hid hst
          replace hzu := Lib.hid hzu
          have B4 := Lib.hid (hB.out.alloc hNw (.cells #[.int .u32 z1, .int .u8 z2] 77))
          have O4 := Lib.hid (O.out.alloc (.cells #[.int .u32 z1, .int .u8 z2] 77))
          have nb := heap_alloc_new wr (.cells #[.int .u32 z1, .int .u8 z2] 77)
          clear hL2 hz
          go_upto_region 12 with fail
          obtain ⟨KB, hKB⟩ : ∃ x, x = wr.heap.size := ⟨_, rfl⟩
          obtain ⟨w4, hw4⟩ : ∃ x, x = wr.alloc (.cells #[.int .u32 z1, .int .u8 z2] 77) := ⟨_, rfl⟩
          rw [← hw4] at B4 O4 nb ⊢
          rw [← hKB] at nb ⊢
          have hs4 : N + 1 ≤ w4.heap.size := by rw [hw4]; simp; omega
          have d1 : w4.cell? ⟨KB, 0, none⟩ = some (.int .u32 z1) := by rw [cell_of_heap nb]; rfl
          have hnc := Lib.hid (heap_alloc_new w4 (.cells #[.int .u32 z1] 23))
          have O6 := Lib.hid (O4.out.alloc (.cells #[.int .u32 z1] 23))
          have B6 := Lib.hid (B4.out.alloc hs4 (.cells #[.int .u32 z1] 23))
          have hlw : (L1 ++ L2).length + 1 < 1000000 := by rw [List.length_append]; omega
          have hG6 : N + 1 ≤ (w4.alloc (.cells #[.int .u32 z1] 23)).heap.size := by simp; omega
          replace nb := Lib.hid nb
          clear hw4 hKB hB O f1 f2 B4 O4 hNw
          go_wp2_with (at_builtin; refine wpList_append_n rfl (.tmp 45) (.tmp 48) rfl (N + 1) u6 (L1 ++ L2) rfl O6.out (some ⟨w4.heap.size, 0, none⟩) 1 1 [z1] rfl (nums_one hnc.out) (by intro z hz; rw [List.mem_singleton.1 hz]; exact hzu.out) rfl hlw hG6 ?_; intro v14 w14 O14 g14)
          have hO2 : Hid (w14.ownsInts (N + 1) 23 .u32 v14 (L1 ++ (l.take (j + 1)).map (·.1))) := Lib.hid (by rw [hst.out, ← List.append_assoc]; exact O14)
          have B14 := Lib.hid (B6.out.trans (below_of_grown g14 (fun j hj => (row_ge O6.out.1 j hj).1) hG6))
          go_roundw
          case rel => exact ⟨j + 1, by go_num, by omega, hO2, B14⟩
          case measure => simp [intOf]; omega
        · obtain rfl : j = k := by omega
          have hlt : ((l.take j).map (·.1)).length ≤ j := by rw [List.length_map, List.length_take]; omega
          have hblk : Hid (canon (L1 ++ (l.take j).map (·.1)) = blkL h l j) := Lib.hid (by rw [blkL, hx'.out, ← hL1.out])
          obtain ⟨LL, hLL⟩ : ∃ L, L1 ++ (l.take j).map (·.1) = L := ⟨_, rfl⟩
          have hLn : LL.length ≤ i + j := by rw [← hLL, List.length_append]; omega
          rw [hLL] at O hblk
          have hso := sort_own wr O.out (by omega)
          obtain ⟨a8, c8, rfl⟩ := row_shape O.out.1
          go_upto_region 15 with (go_at_call 59; refine hso.mono ?_; rintro e w5 ⟨rfl, zs, hp, hs2, ho, hg⟩)
          have B5 := Lib.hid (hB.out.trans (below_of_grown hg (fun j hj => (row_ge O.out.1 j hj).1) hNw))
          have hcp := compact_own w5 ho hs2
          have hcz : canon zs = canon LL := canon_congr fun z => hp.mem_iff
          rw [hcz, hblk.out] at hcp
          have hN5 : N + 1 ≤ w5.heap.size := by have := B5.out.size; have := hs1.out; omega
          go_wp2_with (go_at_call 60; refine hcp.mono ?_; rintro e w6 ⟨v6, rfl, o6, g6, hob⟩)
          go_ret
          refine ⟨_, rfl, ?_, hb1.out.trans ((B5.out.trans (below_of_grown g6 (fun j hj => (row_ge ho.1 j hj).1) hN5)).mono (Nat.le_succ N))⟩
          exact ⟨row_low o6.1 (Nat.le_succ N), o6.2⟩
end Go.Proofs.Ytilknhackmccpaa
