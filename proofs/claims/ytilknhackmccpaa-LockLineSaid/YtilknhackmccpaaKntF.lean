/- The closure that is handed to slices.IndexFunc; slices.IndexFunc itself over it. -/
import Derived.Test.YtilknhackmccpaaKntE
set_option linter.unusedVariables false
set_option linter.unusedSimpArgs false
namespace Go.Proofs.Ytilknhackmccpaa
open Go.RowKit Go.Sort Go.Maps Go.ChangeMaps Go.MapKept Go.ChangeShapes

theorem groups_shuns {w : World} {base b n : Nat} {e : TypeId} {D : DataW Unit} (h : w.ownsGroups Try.prog 23 base e .u32 b n D) : w.Shuns b (fun g => w.heap.size ≤ g) := by
  intro es clock hb x hx g hg hle
  obtain ⟨es', clock', hb', F, _⟩ := h
  rw [hb] at hb'
  cases hb'
  obtain ⟨y, hy⟩ := F.reads x hx
  obtain ⟨z, hz, _⟩ := WideElems.rd_val hy
  obtain ⟨zs, ho, _⟩ := rowElem_inv hz
  have := (ho.1.lt g hg).2
  omega
/-- A box of one cell. -/
def Box1 (w : World) (B : Nat) (v : Value) (t : TypeId) : Prop := w.heap[B]? = some (.cells #[v] t)
section
variable {w w' : World} {B : Nat} {v : Value} {t : TypeId}
theorem Box1.lt (h : Box1 w B v t) : B < w.heap.size := (Array.getElem?_eq_some_iff.1 h).1
theorem Box1.cell (h : Box1 w B v t) : w.cell? ⟨B, 0, none⟩ = some v := by rw [cell_of_heap h]; rfl
theorem Box1.froz (h : Box1 w B v t) : w.frozen? ⟨B, 0, none⟩ = false := by unfold Box1 at h; simp [World.frozen?, h]
theorem Box1.kept {row : Option Nat} (h : Box1 w B v t) (hg : w.grownBy w' row) (hne : some B ≠ row) : Box1 w' B v t := (hg.block B h.lt hne).trans h
theorem Box1.set (h : Box1 w B v t) (u : Value) : Box1 (w.setCell ⟨B, 0, none⟩ u) B u t := by
  unfold Box1 at h ⊢
  simp [World.setCell, Array.getElem?_modify, h]
end
theorem grown_box (w : World) (B : Nat) (v : Value) : w.grownBy (w.setCell ⟨B, 0, none⟩ v) (some B) := grown_set w B 0 v

set_option maxRecDepth 100000 in
set_option maxHeartbeats 4000000 in
theorem pred_u (V : List Int) (f : Int → List Int) (tg : Int) (B3 B5 B6 B7 B8 M base : Nat) (hV : ∀ n z, z ∈ f n → z ∈ V ∧ U z) (m : Int) (ws : List Int) (s0 wv : Value) (w : World) (hm : U m) (HK : Knot w f tg B3 B5 B6 B7 M)
    (h6 : Box1 w B6 s0 66) (h8 : Box1 w B8 wv 24) (hw : w.ownsInts base 23 .u32 wv ws) (h78 : B7 < B8) (h67 : B5 < B6 ∧ B6 < B7) (hb : B7 < base) (hl : ws.length + V.length < 1000000000) :
    Calls Try.prog 39 #[.int .u32 m, .pointer (some ⟨B6, 0, none⟩), .pointer (some ⟨B8, 0, none⟩), .pointer (some ⟨B7, 0, none⟩)] w fun e w' =>
      ∃ (r : Bool) (s' : Value), e = .returned (.bool r) ∧ (r = true ↔ m ∉ ws ∧ Rch f tg (m :: ws) m) ∧ Box1 w' B6 s' 66 ∧ w.grownBy w' (some B6) := by
  have hmm := @run_makeMap Try.prog
  obtain ⟨S, hS⟩ : ∃ S, w.heap.size = S := ⟨_, rfl⟩
  have g1 := World.grownBy_alloc w (.map #[] 0) none
  have hS0 := Seen.made w
  obtain ⟨w1, hw1⟩ : ∃ x, w.alloc (.map #[] 0) = x := ⟨_, rfl⟩
  have hmk := hmm 66 w
  rw [hw1, hS] at hmk
  rw [hw1] at g1 hS0
  rw [hS] at hS0
  clear hmm
  obtain ⟨w2, r2, hS2, g2⟩ := hS0.mark (by unfold maxLen; omega) hm
  have l8 := h8.lt
  have l6 := h6.lt
  have l7 := HK.lt7
  have h62 := (h6.kept g1 (by simp)).kept g2 (by simp; omega)
  have h82 := (h8.kept g1 (by simp)).kept g2 (by simp; omega)
  have f62 := h62.froz
  have c62 := h62.cell
  have g3 := grown_box w2 B6 (.map (some S))
  have h63 := h62.set (.map (some S))
  have h83 := h82.kept g3 (by simp; omega)
  have hS3 := hS2.kept g3 (by simp; omega)
  obtain ⟨w3, hw3⟩ : ∃ x, w2.setCell ⟨B6, 0, none⟩ (.map (some S)) = x := ⟨_, rfl⟩
  rw [hw3] at g3 h63 h83 hS3
  have gw3 : w.grownBy w3 (some B6) := ((g1.but (some B6)).andThen g2 (fun j hj => by cases hj; left; omega)).andThen g3 (fun j hj => by cases hj; right; rfl)
  have hw3o := hw.kept gw3 (by
    right
    intro e
    have := (hw.1.lt B6 e).1
    omega)
  have HK3 := HK.kept gw3 (fun R e => by cases e; omega)
  obtain ⟨a', cap', hwv, hcell⟩ := own_form hw3o
  obtain ⟨L, hL⟩ : ∃ L, ws.length = L := ⟨_, rfl⟩
  rw [hL] at hwv hcell
  have c83 := h83.cell
  rw [hwv] at c83
  have hS3l := hS3.lt
  have hSb : B7 < S := by omega
  have hSr : ∀ R, some S = some R → B5 < R ∧ R ≠ B7 := fun R e => by cases e; omega
  have hHK := Lib.hid HK3
  clear HK HK3 h6 h62 h82 hS0 hS2 g1
  replace hw1 := Lib.hid hw1
  replace hS := Lib.hid hS
  go_enter Try.func39, Try.ntmps39
  go_wp2
  go_loopw [13, 7] (fun vi _ wr => ∃ (j k : Nat) (T : List Int), vi = .int .i64 j ∧ j ≤ L ∧ Seen wr S k T ∧ k ≤ j + 1 ∧ w3.grownBy wr (some S) ∧ Hid (∀ x, x ∈ T ↔ x = m ∨ ∃ i, i < j ∧ ws.getD i 0 = x)) (fun vi _ _ => L - (intOf vi).toNat)
  case atStart => exact ⟨0, 1, [m], rfl, Nat.zero_le _, hS3, Nat.le_refl _, World.grownBy.refl _ _, Lib.hid fun x => by simp⟩
  case round =>
    obtain ⟨j, k, T, rfl, hj, hSr2, hk, gj, hT⟩ := hrel
    have hc6 := far_cell h63.cell gj hS3.map
    by_cases hlt : j < L
    · obtain ⟨g, rfl, _, hgl, ⟨gcs, gty, gfr, hgc⟩, hcj⟩ := hcell j hlt
      obtain ⟨x, hx⟩ : ∃ x, ws.getD j 0 = x := ⟨_, rfl⟩
      have hxz : x ∈ ws := by
        rw [← hx]
        have : ws.getD j 0 = ws[j]'(by omega) := by simp [List.getD_eq_getElem?_getD, List.getElem?_eq_getElem (show j < ws.length by omega)]
        rw [this]
        exact List.getElem_mem _
      have hux : U x := U.of (hw.2 x hxz)
      rw [hx] at hcj
      have hgS : some g ≠ some S := fun e => by
        obtain ⟨es, clock, h1⟩ := hS3.map
        simp at e
        subst e
        rw [hgc] at h1
        cases h1
      have cj := (gj.cell_far ⟨g, j, none⟩ hgl hgS).trans hcj
      obtain ⟨w4, r4, hS4, g4⟩ := hSr2.mark (by unfold maxLen; omega) hux
      go_wp2
      go_roundw
      case rel =>
        refine ⟨j + 1, k + 1, _, by go_num, by omega, hS4, by omega, gj.trans g4, Lib.hid fun y => ?_⟩
        rw [List.mem_cons, hT.out y]
        constructor
        · rintro (h | h | ⟨i, hi, h⟩)
          · exact .inr ⟨j, by omega, by rw [hx, h]⟩
          · exact .inl h
          · exact .inr ⟨i, by omega, h⟩
        · rintro (h | ⟨i, hi, h⟩)
          · exact .inr (.inl h)
          · rcases Nat.lt_or_ge i j with h' | h'
            · exact .inr (.inr ⟨i, h', h⟩)
            · have : i = j := by omega
              subst this
              exact .inl (by rw [← h, hx])
      case measure => simp [intOf]; omega
    · have hjL : j = L := by omega
      subst hjL
      have hTm : ∀ x, x ∈ T ↔ x ∈ m :: ws := fun x => by
        rw [hT.out x, List.mem_cons]
        constructor
        · rintro (h | ⟨i, hi, h⟩)
          · exact .inl h
          · rw [← h]
            have : ws.getD i 0 = ws[i]'(by omega) := by simp [List.getD_eq_getElem?_getD, List.getElem?_eq_getElem (show i < ws.length by omega)]
            rw [this]
            exact .inr (List.getElem_mem _)
        · rintro (h | h)
          · exact .inl h
          · obtain ⟨i, hi, e⟩ := List.mem_iff_getElem.1 h
            exact .inr ⟨i, by omega, by simp [List.getD_eq_getElem?_getD, List.getElem?_eq_getElem hi, e]⟩
      have hwo : wr.ownsInts base 23 .u32 (.slice a' j cap') ws := by
        rw [← hwv]
        refine hw3o.kept gj (.inr fun e => ?_)
        have := (hw.1.lt S e).2
        have := hS.out
        omega
      have hcon := contains_own wr hwo m
      have hKr := hHK.out.kept gj hSr
      have c8 := (gj.cell_far ⟨B8, 0, none⟩ (by have := h83.lt; exact this) (by have := hS.out; simp; omega)).trans c83
      have c7 := hKr.c7
      have gww : w.grownBy wr (some B6) := gw3.andThen gj (fun R e => by cases e; left; have := hS.out; omega)
      have h6r := h63.kept gj (by have := hS.out; simp; omega)
      obtain ⟨cb, hcb⟩ : ∃ cb, (ws.any fun y => m == y) = cb := ⟨_, rfl⟩
      rw [hcb] at hcon
      have hcm : cb = true ↔ m ∈ ws := by
        rw [← hcb, List.any_eq_true]
        constructor
        · rintro ⟨y, hy, e⟩
          rw [show m = y by simpa using e]
          exact hy
        · intro h
          exact ⟨m, h, by simp⟩
      clear hcb
      replace hcm := Lib.hid hcm
      cases cb
      · have hcall := back_u V f tg B3 B5 B6 B7 M hV (unseen V T + 1) m T S k wr (by omega) hm hKr hSr2 hc6 hSb (by
          have : unseen V T ≤ V.length := List.length_filter_le _ _
          omega)
        go_wp2_with (first
          | (go_at_call 37; refine hcon.mono ?_; intro e w' h; rw [h.1, h.2]; clear h w' e)
          | (go_at_call 36; refine hcall.mono ?_; rintro e w5 ⟨r, T5, k5, rfl, hS5, _, g5, hT5, hrt, hrf⟩))
        go_ret
        refine ⟨r, _, rfl, ⟨fun h => ⟨fun h' => absurd (hcm.out.2 h') (by simp), (hrt h).mono fun x hx => (hTm x).2 hx⟩, fun h => ?_⟩, h6r.kept g5 (by have := hS.out; simp; omega), gww.andThen g5 (fun R e => by cases e; left; have := hS.out; omega)⟩
        cases r
        · obtain ⟨q1, q2, q3⟩ := hrf rfl
          exact absurd (h.2.mono fun x hx => (hTm x).1 hx) (q3.not q1 q2)
        · rfl
      · go_wp2_with (go_at_call 37; refine hcon.mono ?_; intro e w' h; rw [h.1, h.2]; clear h w' e)
        go_ret
        exact ⟨false, _, rfl, ⟨fun h => (by cases h), fun h => absurd (hcm.out.1 (by simp)) h.1⟩, h6r, gww⟩
end Go.Proofs.Ytilknhackmccpaa
