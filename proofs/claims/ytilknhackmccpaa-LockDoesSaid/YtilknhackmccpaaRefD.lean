/- The document's table: Ask, its walk. -/
import Derived.Test.YtilknhackmccpaaRefA
set_option linter.unusedVariables false
set_option linter.unusedSimpArgs false
namespace Go.Proofs.Ytilknhackmccpaa
open Go.RowKit Go.Sort Go.Lib Go.Maps

/-- The table behind an Ask; its row lies where it lay, or in new memory. -/
def AskF (w : World) (RB N : Nat) (v0 : Value) (L : RT) : Prop := ∃ v' P', RTab w RB v' P' L ∧ ∀ g, v'.ownBlock = some g → v0.ownBlock = some g ∨ N ≤ g
theorem ask_end {w wE : World} {RB o N : Nat} {v0 v' : Value} {P' : List RL} {b : Bool} {Lx : RT} {R : Bool × RT} (hR : R = (b, Lx)) (hp : RTab wE RB v' P' Lx) (hF : ∀ g, v'.ownBlock = some g → v0.ownBlock = some g ∨ N ≤ g) (hT : Two RB o w wE) : R.1 = b ∧ AskF wE RB N v0 R.2 ∧ Two RB o w wE := by
  subst hR
  exact ⟨rfl, ⟨_, _, hp, hF⟩, hT⟩
theorem ask_drew {w wE : World} {RB o N : Nat} {v0 : Value} {b : Bool} {R : Bool × RT} (h : R.1 = b ∧ AskF wE RB N v0 R.2 ∧ Two RB o w wE) : R.1 = b ∧ AskF wE.drew RB N v0 R.2 ∧ Two RB o w wE.drew := by
  obtain ⟨h1, ⟨v', P', h2, h4⟩, h3⟩ := h
  exact ⟨h1, ⟨v', P', h2.below (RowKit.Below.refl wE.heap.size wE).drew (Nat.le_refl _), h4⟩, h3.trans (Two.of0 (RowKit.Below.refl _ _).drew)⟩

set_option maxRecDepth 100000 in
set_option maxHeartbeats 16000000 in
theorem ask_r {w : World} {RB : Nat} {v : Value} {P : List RL} {L : RT} (S : RTab w RB v P L) (hM : Modes L) (hn0 : L.length ≤ 90000) (t : Int) (k : Ky) (m : Int) (l : Lk) (hget : (atL L k)[atI L k]? = some (k, l)) (hl1 : l.1.length ≤ 400000) (hl2 : l.2.length ≤ 400000) :
    Calls Try.prog 57 #[.pointer (some ⟨RB, 0, none⟩), .int .u32 t, .agg #[.int .u8 k.1, .int .u32 k.2.1, .int .u32 k.2.2], .int .u8 m] w fun e w' => e = .returned (.bool (rAskAt (atL L k) (atI L k) t k l (askM m)).1) ∧ AskF w' RB w.heap.size v (rAskAt (atL L k) (atI L k) t k l (askM m)).2 ∧ Two RB (v.ownBlock.getD RB) w w' := by
  obtain ⟨k1, k2, k3⟩ := k
  have Bk := below_alloc w (.cells #[.int .u8 k1, .int .u32 k2, .int .u32 k3] 38)
  have nb := heap_alloc_new w (.cells #[.int .u8 k1, .int .u32 k2, .int .u32 k3] 38)
  have S1 := S.below Bk (Nat.le_refl _)
  have hat := at_r S1 (by omega) (k1, k2, k3)
  have hML := atL_modes hM (k1, k2, k3)
  have hLn := atL_len L (k1, k2, k3)
  obtain ⟨N, hN⟩ : ∃ N, w.heap.size = N := ⟨_, rfl⟩
  obtain ⟨w1, hw1⟩ : ∃ x, w.alloc (.cells #[.int .u8 k1, .int .u32 k2, .int .u32 k3] 38) = x := ⟨_, rfl⟩
  have hs1 : w1.heap.size = N + 1 := by rw [← hw1, ← hN]; simp
  rw [hw1] at Bk nb hat
  rw [hN] at Bk nb ⊢
  have hvb : ∀ g, v.ownBlock = some g → g < N := fun g hg => by
    rw [← hN]
    rcases S.row.2 with ⟨rfl, _⟩ | ⟨g', cap, cur, rfl, _, hh, _⟩
    · cases hg
    · obtain rfl : g' = g := Option.some.inj hg
      exact (Array.getElem?_eq_some_iff.1 hh).1
  have hRN : RB < N := by rw [← hN]; exact S.lt
  obtain ⟨M, hMm⟩ : ∃ x, askM m = x := ⟨_, rfl⟩
  rw [hMm]
  obtain ⟨L1, hL1⟩ : ∃ x, atL L (k1, k2, k3) = x := ⟨_, rfl⟩
  obtain ⟨i, hI⟩ : ∃ x, atI L (k1, k2, k3) = x := ⟨_, rfl⟩
  rw [hL1] at hget hML hLn hat ⊢
  rw [hI] at hget hat ⊢
  have hBk := Lib.hid Bk
  replace hMm := Lib.hid hMm
  replace hget := Lib.hid hget
  replace hML := Lib.hid hML
  replace hvb := Lib.hid hvb
  have k1' : w1.cell? ⟨N, 0, none⟩ = some (.int .u8 k1) := (three_cells nb).1
  have k2' : w1.cell? ⟨N, 1, none⟩ = some (.int .u32 k2) := (three_cells nb).2.1
  have k3' : w1.cell? ⟨N, 2, none⟩ = some (.int .u32 k3) := (three_cells nb).2.2
  obtain ⟨R, hR⟩ : ∃ x, rAskAt L1 i t (k1, k2, k3) l M = x := ⟨_, rfl⟩
  rw [hR]
  replace hR := Lib.hid hR
  replace hs1 := Lib.hid hs1
  clear S S1 Bk nb hM hL1 hI
  go_enter Try.func57, Try.ntmps57
  go_upto_if 20 with fail
  go_cut [3] (fun v3 wx => v3 = .int .u8 M ∧ wx = w1)
  case first =>
    by_cases hm1 : m = 1
    · subst hm1
      obtain rfl : M = 1 := hMm.out.symm
      go_wp2
      go_meet
      exact ⟨rfl, rfl⟩
    · obtain rfl : M = 2 := by rw [← hMm.out, askM, if_neg hm1]
      go_wp2
      go_meet
      exact ⟨rfl, rfl⟩
  case rest =>
  obtain ⟨rfl, hcut⟩ := hcut
  obtain rfl : w1 = wc := hcut.symm
  go_upto_region 4 with (go_at_call 77; refine hat.mono ?_; rintro e w3 ⟨v', P', rfl, S3, g3, hv'⟩)
  replace hN := Lib.hid hN
  replace hw1 := Lib.hid hw1
  have hi : i < L1.length := (List.getElem?_eq_some_iff.1 hget.out).1
  obtain ⟨g, cap, p, e, rfl, hc, hgl, hp, he, e1, hWa, hWb, c0, c1, c2, c3, c4⟩ := S3.at hi
  rw [hget.out] at he
  cases he
  obtain ⟨p1, va, vb⟩ := p
  obtain rfl : p1 = (k1, k2, k3) := e1
  simp only at hWa hWb c0 c1 c2 c3 c4
  obtain ⟨a1, q1, rfl, hq1⟩ := hWa.shape
  obtain ⟨a2, q2, rfl, hq2⟩ := hWb.shape
  obtain ⟨nh, hnh⟩ : ∃ n, l.1.length = n := ⟨_, rfl⟩
  obtain ⟨nl, hnl⟩ : ∃ n, l.2.length = n := ⟨_, rfl⟩
  rw [hnh] at hWa c3 hq1 hl1
  rw [hnl] at hWb c4 hq2 hl2
  replace hnh := Lib.hid hnh
  replace hnl := Lib.hid hnl
  obtain ⟨n, hn⟩ : ∃ n, L1.length = n := ⟨_, rfl⟩
  rw [hn] at S3 hi hLn
  have hii : (i : Int) < (n : Int) := by omega
  have bX := below_alloc w3 (.cells #[.int .u8 k1, .int .u32 k2, .int .u32 k3, .slice a1 nh q1, .slice a2 nl q2] 97)
  have nX := heap_alloc_new w3 (.cells #[.int .u8 k1, .int .u32 k2, .int .u32 k3, .slice a1 nh q1, .slice a2 nl q2] 97)
  obtain ⟨G3, hG3⟩ : ∃ G, w3.heap.size = G := ⟨_, rfl⟩
  obtain ⟨w4, hw4⟩ : ∃ x, w3.alloc (.cells #[.int .u8 k1, .int .u32 k2, .int .u32 k3, .slice a1 nh q1, .slice a2 nl q2] 97) = x := ⟨_, rfl⟩
  have hs4 : w4.heap.size = G3 + 1 := by rw [← hw4, ← hG3]; simp
  rw [hw4, hG3] at bX nX
  have bY := below_alloc w4 (.cells #[.int .u32 t, .int .u8 M] 99)
  have nY := heap_alloc_new w4 (.cells #[.int .u32 t, .int .u8 M] 99)
  obtain ⟨w5, hw5⟩ : ∃ x, w4.alloc (.cells #[.int .u32 t, .int .u8 M] 99) = x := ⟨_, rfl⟩
  have hs5 : w5.heap.size = G3 + 2 := by rw [← hw5]; simp [hs4]
  rw [hw5, hs4] at bY nY
  have nX5 := (bY.block G3 (Nat.lt_succ_self _)).trans nX
  have b35 : RowKit.Below G3 w3 w5 := bX.trans (bY.mono (Nat.le_succ _))
  have S5 := S3.below b35 (by omega)
  have hgG : g < G3 := by omega
  have hRG : RB < G3 := by have := S3.lt; omega
  have cR := S3.c0
  -- what is known wherever nothing but new memory was made behind the boxes
  have hfar : Hid (∀ wx, RowKit.Below (G3 + 2) w5 wx → RTab wx RB (.slice (some ⟨g, 0, none⟩) n cap) P' L1 ∧ wx.heap[G3]? = some (.cells #[.int .u8 k1, .int .u32 k2, .int .u32 k3, .slice a1 nh q1, .slice a2 nl q2] 97) ∧ wx.heap[G3 + 1]? = some (.cells #[.int .u32 t, .int .u8 M] 99) ∧ WantsR wx (.slice a1 nh q1) l.1 ∧ WantsR wx (.slice a2 nl q2) l.2 ∧ RowKit.Below G3 w3 wx) := Lib.hid fun wx b =>
    ⟨S5.below b (by omega), (b.block G3 (by omega)).trans nX5, (b.block (G3 + 1) (by omega)).trans nY, (hWa.keep b35 (by omega)).keep b (by omega), (hWb.keep b35 (by omega)).keep b (by omega), b35.trans (b.mono (by omega))⟩
  have hB5 : Hid (RowKit.Below (G3 + 2) w5 w5) := Lib.hid (RowKit.Below.refl _ _)
  replace hn := Lib.hid hn
  have g3' := Lib.hid g3
  have hv'' := Lib.hid hv'
  have hFr : Hid (∀ g', (Value.slice (some ⟨g, 0, none⟩) n cap).ownBlock = some g' → v.ownBlock = some g' ∨ N ≤ g') := Lib.hid fun g' hg => (hv' g' hg).imp id fun h => by have := hs1.out; omega
  clear bX nX bY nY nX5 b35 S5 S3 hWa hWb hp g3 hv' hc hat
  go_upto_region 6 with fail
  obtain ⟨m0, hm0⟩ : ∃ x, modeL l.1 t = x := ⟨_, rfl⟩
  have hmo := mode_r _ l.1 t w5 (hfar.out _ hB5.out).2.2.2.1
  rw [hm0] at hmo
  have x3 : w5.cell? ⟨G3, 3, none⟩ = some (.slice a1 nh q1) := by rw [cell_of_heap (hfar.out _ hB5.out).2.1]; rfl
  have x4 : w5.cell? ⟨G3, 4, none⟩ = some (.slice a2 nl q2) := by rw [cell_of_heap (hfar.out _ hB5.out).2.1]; rfl
  have hmpos := modeL_pos (t := t) (hML.out _ (List.mem_of_getElem? hget.out)).1
  simp only at hmpos
  rw [hm0] at hmpos
  have hm0' := Lib.hid hm0
  have hRun : R = rAskAt L1 i t (k1, k2, k3) l M := hR.out.symm
  rw [rAskAt, hm0] at hRun
  replace hRun := Lib.hid hRun
  replace hw4 := Lib.hid hw4
  replace hw5 := Lib.hid hw5
  replace hG3 := Lib.hid hG3
  clear hm0
  go_upto_region 7 with (go_at_call 74; refine hmo.mono ?_; intro e w' h; rw [h.1, h.2]; clear h w' e)
  clear hmo x3 x4 cR c0 c1 c2 c3 c4 k1' k2' k3'
  by_cases hdone : m0 = 2 ∨ m0 = M
  · have hRun := hRun.out
    rw [if_pos hdone] at hRun
    have hfin : R.1 = true ∧ AskF w5 RB N v R.2 ∧ Two RB (v.ownBlock.getD RB) w w5 := by
      subst hRun
      obtain ⟨h1, _, _, _, _, h2⟩ := hfar.out _ hB5.out
      have hb : Two RB (v.ownBlock.getD RB) w1 w5 := frame_none _ g3'.out (by rw [hG3.out]; exact h2)
      exact ⟨rfl, ⟨_, _, h1, hFr.out⟩, (Two.of0 (by rw [hN.out]; exact hBk.out)).trans hb⟩
    replace hfin := Lib.hid hfin
    replace hRun := Lib.hid hRun
    by_cases h2 : m0 = 2
    · subst h2
      go_wp2
      go_ret
      exact ⟨by rw [hfin.out.1]; rfl, hfin.out.2⟩
    · obtain rfl : m0 = M := hdone.resolve_left h2
      have h2b : (m0 == 2) = false := by simpa using h2
      go_wp2
      go_ret
      exact ⟨by rw [hfin.out.1]; rfl, hfin.out.2⟩
  · have hRun := hRun.out
    rw [if_neg hdone] at hRun
    have h2 : ¬ m0 = 2 := fun h => hdone (.inl h)
    have hMn : ¬ m0 = M := fun h => hdone (.inr h)
    have h2b : (m0 == 2) = false := by simpa using h2
    have hMb : (m0 == M) = false := by simpa using hMn
    have hWt := waits_r (hfar.out _ hB5.out).1 hML.out (by have := hn.out; omega) t
    obtain ⟨⟨⟨y1, y2, y3⟩, y4⟩, hy⟩ : ∃ h, (rWaits L1 t).getD ((0, 0, 0), 0) = h := ⟨_, rfl⟩
    obtain ⟨bw, hbw⟩ : ∃ b, (rWaits L1 t).isSome = b := ⟨_, rfl⟩
    rw [hy, hbw] at hWt
    rw [hbw] at hRun
    simp only [holdV] at hWt
    clear hy hbw hdone
    replace hRun := Lib.hid hRun
    go_upto_region 10 with (go_at_call 54; refine hWt.mono ?_; rintro e w6 ⟨rfl, b6⟩)
    rw [hs5] at b6
    have B7 := Lib.hid (b6.alloc (Nat.le_trans (Nat.le_of_eq hs5.symm) b6.size) (.cells #[.int .u8 y1, .int .u32 y2, .int .u32 y3, .int .u8 y4] 54))
    obtain ⟨w7, hw7⟩ : ∃ x, w6.alloc (.cells #[.int .u8 y1, .int .u32 y2, .int .u32 y3, .int .u8 y4] 54) = x := ⟨_, rfl⟩
    rw [hw7] at B7 ⊢
    have h7s : G3 + 2 ≤ w7.heap.size := by have := B7.out.size; omega
    clear hw7 b6 hWt
    cases bw
    · have hRun2 := hRun.out
      simp only [Bool.false_eq_true, if_false] at hRun2
      replace hRun2 := Lib.hid hRun2
      obtain ⟨hf1, hf2, hf3, hf4, hf5, hf6⟩ := hfar.out _ B7.out
      have hft := fits_r _ l.1 (t, M) w7 hf4
      have x3 : w7.cell? ⟨G3, 3, none⟩ = some (.slice a1 nh q1) := by rw [cell_of_heap hf2]; rfl
      have d0 : w7.cell? ⟨G3 + 1, 0, none⟩ = some (.int .u32 t) := by rw [cell_of_heap hf3]; rfl
      have d1 : w7.cell? ⟨G3 + 1, 1, none⟩ = some (.int .u8 M) := by rw [cell_of_heap hf3]; rfl
      obtain ⟨al, hal⟩ : ∃ b, freeB l.1 (t, M) = b := ⟨_, rfl⟩
      rw [hal] at hft hRun2
      simp only at hft
      replace hal := Lib.hid hal
      clear hf1 hf2 hf3 hf4 hf5 hf6
      go_upto_region 13 with (go_at_call 76; refine hft.mono ?_; rintro e w8 ⟨rfl, b8⟩)
      have B8 := Lib.hid (B7.out.trans (b8.mono h7s))
      have h8s : G3 + 2 ≤ w8.heap.size := Nat.le_trans h7s b8.size
      clear b8 hft x3 d0 d1 hRun
      obtain ⟨hf1, hf2, hf3, hf4, hf5, hf6⟩ := hfar.out _ B8.out
      have x4 : w8.cell? ⟨G3, 4, none⟩ = some (.slice a2 nl q2) := by rw [cell_of_heap hf2]; rfl
      clear hf1 hf2 hf3 hf4 hf5 hf6
      obtain ⟨got, hgot⟩ : ∃ b, (al && (m0 != 0 || nl == 0)) = b := ⟨_, rfl⟩
      replace hRun2 := hRun2.out
      rw [hnl.out, hgot] at hRun2
      replace hRun2 := Lib.hid hRun2
      go_cut [56, 57, 58, 59, 60, 61, 62, 63, 64, 65, 66, 67, 68, 69, 70, 71, 72, 73] (fun _ _ _ _ _ _ _ _ _ _ _ _ _ _ _ _ _ v73 wx => v73 = .bool got ∧ wx = w8)
      case first =>
        rcases hmpos with h0 | h0 | h0 <;> subst h0 <;> cases al
        all_goals (
          by_cases hl0 : nl = 0
          · have hlb : ((nl : Int) == 0) = true := by simp [hl0]
            go_wp2
            go_meet
            refine ⟨?_, rfl⟩
            rw [← hgot]
            simp [hl0]
          · have hlb : ((nl : Int) == 0) = false := by simpa using hl0
            go_wp2
            go_meet
            refine ⟨?_, rfl⟩
            rw [← hgot]
            simp [hl0])
      case rest =>
      obtain ⟨rfl, hcut⟩ := hcut
      obtain rfl : w8 = wc := hcut.symm
      obtain ⟨hf1, hf2, hf3, hf4, hf5, hf6⟩ := hfar.out _ B8.out
      have x3 : w8.cell? ⟨G3, 3, none⟩ = some (.slice a1 nh q1) := by rw [cell_of_heap hf2]; rfl
      have x4 : w8.cell? ⟨G3, 4, none⟩ = some (.slice a2 nl q2) := by rw [cell_of_heap hf2]; rfl
      have hLg : Hid (L1[i]? = some ((k1, k2, k3), l)) := hget
      cases got
      · obtain ⟨pl, hpl⟩ : ∃ n, place l.1 l.2 t = n := ⟨_, rfl⟩
        have hple := place_le l.1 l.2 t
        rw [hpl, hnl.out] at hple
        have hplu : Hid (place l.1 l.2 t = pl) := Lib.hid hpl
        have hB80 := B8
        clear hf1 hf2 hf3 hf4 hf5 hf6 hpl x3
        go_upto_region 20 with fail
        clear x4
        go_upto_if 95 with fail
        go_cut [17, 96, 97, 98, 99, 100, 101, 102, 103, 104, 105, 106, 107, 108, 109, 110, 111, 112, 113, 114] (fun v17 _ _ _ _ _ _ _ _ _ _ _ _ _ _ _ _ _ _ _ wx => v17 = .int .i64 (pl : Int) ∧ Hid (RowKit.Below (G3 + 2) w5 wx))
        case first =>
          by_cases h0 : m0 = 0
          · obtain rfl : nl = pl := by rw [← hplu.out, place, hm0'.out, h0, ← hnl.out]; simp
            have h0b : (m0 > 0) = False := by simp [h0]
            subst h0
            go_wp2
            go_meet
            exact ⟨rfl, hB80⟩
          · have h0p : m0 > 0 := by omega
            have hah : Hid (ahead l.1 l.2 = pl) := Lib.hid (by rw [← hplu.out, place, hm0'.out, if_pos h0])
            have hF0 : Hid (∀ j, j < 0 → modeL l.1 (l.2.getD j (0, 0)).1 ≠ 0) := Lib.hid (fun j hj => absurd hj (Nat.not_lt_zero _))
            go_wp2
            go_loopw [17] (fun v17 wr => ∃ j : Nat, v17 = .int .i64 j ∧ j ≤ nl ∧ Hid (RowKit.Below (G3 + 2) w5 wr) ∧ Hid (∀ i, i < j → modeL l.1 (l.2.getD i (0, 0)).1 ≠ 0)) (fun v17 _ => nl - (intOf v17).toNat)
            case atStart => exact ⟨0, rfl, Nat.zero_le _, hB80, hF0⟩
            case round =>
              clear hF0
              obtain ⟨j, rfl, hj, hBr, hF⟩ := hrel
              obtain ⟨hf1, hf2, hf3, hf4, hf5, hf6⟩ := hfar.out _ hBr.out
              have x4 : wr.cell? ⟨G3, 4, none⟩ = some (.slice a2 nl q2) := by rw [cell_of_heap hf2]; rfl
              have hrs : G3 + 2 ≤ wr.heap.size := by have := hBr.out.size; omega
              by_cases hjn : j < nl
              · have hjj : (j : Int) < (nl : Int) := by omega
                obtain ⟨eb, off, c', e, hlt, c1, -⟩ := hf5.at (i := j) (by have := hnl.out; omega)
                rw [hnl.out] at e
                cases e
                obtain ⟨z, hz⟩ : ∃ y, (l.2.getD j (0, 0)).1 = y := ⟨_, rfl⟩
                rw [hz] at c1
                obtain ⟨q, hq⟩ : ∃ q, modeL l.1 z = q := ⟨_, rfl⟩
                have hqp := modeL_pos (t := z) (hML.out _ (List.mem_of_getElem? hget.out)).1
                simp only at hqp
                rw [hq] at hqp
                have x3 : wr.cell? ⟨G3, 3, none⟩ = some (.slice a1 nh q1) := by rw [cell_of_heap hf2]; rfl
                have hkp : Hid (∀ w', RowKit.Below wr.heap.size wr w' → w'.cell? ⟨G3, 3, none⟩ = some (.slice a1 nh q1) ∧ w'.cell? ⟨G3, 4, none⟩ = some (.slice (some ⟨eb, off, none⟩) nl q2) ∧ w'.cell? ⟨eb, off + j * 2, none⟩ = some (.int .u32 z) ∧ Hid (RowKit.Below wr.heap.size wr w')) := Lib.hid fun w' b =>
                  ⟨(b.cell (p := ⟨G3, 3, none⟩) (by show G3 < _; omega)).trans x3, (b.cell (p := ⟨G3, 4, none⟩) (by show G3 < _; omega)).trans x4, (b.cell (p := ⟨eb, off + j * 2, none⟩) hlt).trans c1, Lib.hid b⟩
                have hmq : Hid (∀ wx, RowKit.Below wr.heap.size wr wx → Calls Try.prog 74 #[.slice a1 nh q1, .int .u32 z] wx fun e w' => e = .returned (.int .u8 q) ∧ RowKit.Below wr.heap.size wr w') := Lib.hid fun wx hx => (mode_r _ l.1 z wx (hf4.keep hx (Nat.le_refl _))).mono fun e w' ⟨h1, h2⟩ => ⟨by rw [h1, hq], by rw [h2]; exact hx⟩
                have hr0 : Hid (RowKit.Below wr.heap.size wr wr) := Lib.hid (RowKit.Below.refl _ _)
                replace hz := Lib.hid hz
                replace hq := Lib.hid hq
                clear hf1 hf2 hf3 hf4 hf5 hf6 x3 x4 c1 hlt
                go_upto_region 22 with fail
                go_region_held2 (fun w' => w'.cell? ⟨G3, 3, none⟩ = some (.slice a1 nh q1) ∧ w'.cell? ⟨G3, 4, none⟩ = some (.slice (some ⟨eb, off, none⟩) nl q2) ∧ w'.cell? ⟨eb, off + j * 2, none⟩ = some (.int .u32 z) ∧ Hid (RowKit.Below wr.heap.size wr w'))
                  (first | exact hkp.out _ hr0.out.drew | exact hkp.out _ b5 | go_keep)
                  (first
                    | (go_at_call 74; go_split_ands; refine Calls.mono (hmq.out _ (Hid.out (by assumption))) ?_; rintro e wz ⟨rfl, b5⟩))
                have B5 := Lib.hid (hBr.out.trans (b5.mono hrs))
                clear b5 hmq hkp hr0
                by_cases hq0 : q = 0
                · have hpj : pl = j := by
                    rw [← hah.out]
                    exact ahead_at (by have := hnl.out; omega) hF.out (fun _ => by rw [hz.out, hq.out, hq0])
                  subst hq0
                  replace hpj := Lib.hid hpj
                  go_wp2
                  go_meet
                  exact ⟨by rw [hpj.out], B5⟩
                · have hqg : q > 0 := by omega
                  have hF2 : Hid (∀ i, i < j + 1 → modeL l.1 (l.2.getD i (0, 0)).1 ≠ 0) := Lib.hid fun i hi => by
                    rcases Nat.lt_or_ge i j with h | h
                    · exact hF.out i h
                    · obtain rfl : i = j := by omega
                      rw [hz.out, hq.out]; exact hq0
                  go_wp2
                  go_roundw
                  case rel => exact ⟨j + 1, by go_num, by omega, B5, hF2⟩
                  case measure => simp [intOf]; omega
              · obtain rfl : j = nl := by omega
                have hpj : Hid (pl = j) := Lib.hid (by rw [← hah.out]; exact ahead_at (by have := hnl.out; omega) hF.out (fun h => by have := hnl.out; omega))
                have hBq : Hid (∀ q, RowKit.Below (G3 + 2) w5 (wr.drewN q)) := Lib.hid fun q => by have := hBr.out; exact ⟨this.os, this.tape, this.output, this.size, this.block⟩
                clear hf1 hf2 hf3 hf4 hf5 hf6
                go_upto_region 22 with fail
                first | go_quiet (first | fail) | fail
                have B5 := Lib.hid (hBq.out nq)
                go_wp2
                go_meet
                exact ⟨by rw [hpj.out], B5⟩
        case rest =>
        obtain ⟨rfl, hB9⟩ := hcut
        have hl1' : Hid ((wAll (l.2.take pl)).length = pl * 2) := Lib.hid (by rw [wAll_length, List.length_take]; have := hnl.out; congr 1; omega)
        have hl3 : Hid ((wAll (l.2.drop pl)).length = (nl - pl) * 2) := Lib.hid (by rw [wAll_length, List.length_drop, hnl.out])
        have hOwn : Hid (∀ (W : World) (u : Value) (m : Nat), W.ownsRow (G3 + 2) 99 2 u m (wAll (l.2.take pl) ++ wAll [(t, M)] ++ wAll (l.2.drop pl)) → m = nl + 1 → OwnR W (G3 + 2) u (insL l.2 pl (t, M))) := Lib.hid fun W u m h hm => by
          have e1 : wAll (l.2.take pl) ++ wAll [(t, M)] ++ wAll (l.2.drop pl) = wAll (insL l.2 pl (t, M)) := by rw [← wAll_append, ← wAll_append, insL]; simp
          have e2 : (insL l.2 pl (t, M)).length = nl + 1 := by have := hnl.out; simp [insL]; omega
          rw [OwnR, ← e1, e2, ← hm]
          exact h
        have hii2 : (pl : Int) ≤ (q2 : Int) := by omega
        have hCell : Hid (∀ wx, RowKit.Below (G3 + 2) w5 wx → CellsAt wx a2 (wAll l.2)) := Lib.hid fun wx b => by
          obtain ⟨_, _, _, _, hW, _⟩ := hfar.out _ b
          obtain ⟨a', c', e, _, hc⟩ := hW
          cases e
          intro hne
          obtain ⟨eb, off, h1, h2, h3⟩ := hc (by rintro h0; apply hne; rw [h0]; rfl)
          exact ⟨eb, off, h1, h2.lt, h3⟩
        have hC1 : Hid (CellsAt wc a2 (wAll (l.2.take pl))) := Lib.hid fun hne => by
          obtain ⟨eb, off, h1, h2, h3⟩ := hCell.out _ hB9.out (by rintro h0; apply hne; have := wAll_append (l.2.take pl) (l.2.drop pl); rw [List.take_append_drop, h0] at this; exact (List.append_eq_nil_iff.1 this.symm).1)
          refine ⟨eb, off, h1, h2, fun j u hj => h3 j u ?_⟩
          have h2 := wAll_append (l.2.take pl) (l.2.drop pl)
          rw [List.take_append_drop] at h2
          rw [h2, List.getElem?_append_left (List.getElem?_eq_some_iff.1 hj).1]
          exact hj
        have hCdrop := 0
        by_cases hpn : pl < nl
        · obtain ⟨eb, off, c', e, -, -, -⟩ := (hfar.out _ hB9.out).2.2.2.2.1.at (i := pl) (by have := hnl.out; omega)
          simp only [Value.slice.injEq] at e
          obtain ⟨rfl, -, -⟩ := e
          have hpi : (pl : Int) < (nl : Int) := by omega
          have hcapi : ¬ (q2 = pl) := by omega
          have B10 := hB9
          obtain ⟨hf1, hf2, hf3, hf4, hf5, hf6⟩ := hfar.out _ hB9.out
          have x4 : wc.cell? ⟨G3, 4, none⟩ = some (.slice (some ⟨eb, off, none⟩) nl q2) := by rw [cell_of_heap hf2]; rfl
          have h9s : G3 + 2 ≤ wc.heap.size := by have := hB9.out.size; omega
          clear hf1 hf2 hf3 hf4 hf5 hf6
          go_upto_region 26 with (at_builtin; refine wpList_append_raw Try.underlying95 info_r rfl (by decide) rfl (.tmp 115) (.tmp 119) rfl (G3 + 2) (.slice none 0 0) 0 [] rfl (World.ownsRow_nil _ _ _ _) _ _ _ (wAll (l.2.take pl)) rfl hC1.out hl1'.out (wAll_one _) (by unfold maxLen; omega) (by omega) h9s ?_; intro v1 w10 ho1 g1)
          rw [Nat.zero_add, List.nil_append] at ho1
          have B10 := Lib.hid (hB9.out.trans (below_of_grown g1 (by simp [Value.ownBlock]) h9s))
          have h10s : G3 + 2 ≤ w10.heap.size := Nat.le_trans h9s g1.size
          obtain ⟨hf1, hf2, hf3, hf4, hf5, hf6⟩ := hfar.out _ B10.out
          have d0 : w10.cell? ⟨G3 + 1, 0, none⟩ = some (.int .u32 t) := by rw [cell_of_heap hf3]; rfl
          have d1 : w10.cell? ⟨G3 + 1, 1, none⟩ = some (.int .u8 M) := by rw [cell_of_heap hf3]; rfl
          have hnc := heap_alloc_new w10 (.cells #[.int .u32 t, .int .u8 M] 99)
          have bN := below_alloc w10 (.cells #[.int .u32 t, .int .u8 M] 99)
          have O10 := Lib.hid (ho1.alloc (.cells #[.int .u32 t, .int .u8 M] 99))
          have B10a := Lib.hid (B10.out.trans (bN.mono h10s))
          have hC : Hid (CellsAt (w10.alloc (.cells #[.int .u32 t, .int .u8 M] 99)) (some ⟨w10.heap.size, 0, none⟩) (wAll [(t, M)])) := Lib.hid (cellsAt_block hnc fun j u hj => by
            match j, hj with
            | 0, hj => simpa [wAll, wCells] using hj
            | 1, hj => simpa [wAll, wCells] using hj
            | j + 2, hj => simp [wAll, wCells] at hj)
          have hG10 : G3 + 2 ≤ (w10.alloc (.cells #[.int .u32 t, .int .u8 M] 99)).heap.size := by simp; omega
          clear hf1 hf2 hf3 hf4 hf5 hf6 x4 hnc bN ho1 g1 hC1
          go_upto_region 27 with (at_builtin; refine wpList_append_raw Try.underlying95 info_r rfl (by decide) rfl (.tmp 121) (.tmp 123) rfl (G3 + 2) v1 pl (wAll (l.2.take pl)) rfl O10.out (some ⟨w10.heap.size, 0, none⟩) 1 1 (wAll [(t, M)]) rfl hC.out rfl (wAll_one _) (by unfold maxLen; omega) (by omega) hG10 ?_; intro v2 w11 ho2 g2)
          have B11 := Lib.hid (B10a.out.trans (below_of_grown g2 (fun j hj => (row_ge O10.out j hj).1) hG10))
          have h11s : G3 + 2 ≤ w11.heap.size := Nat.le_trans hG10 g2.size
          have O11 := Lib.hid ho2
          obtain ⟨hf1, hf2, hf3, hf4, hf5, hf6⟩ := hfar.out _ B11.out
          have x4 : w11.cell? ⟨G3, 4, none⟩ = some (.slice (some ⟨eb, off, none⟩) nl q2) := by rw [cell_of_heap hf2]; rfl
          have hC3 : Hid (CellsAt w11 (some ⟨eb, off + pl * 2, none⟩) (wAll (l.2.drop pl))) := Lib.hid fun hne => by
            obtain ⟨eb', off', h1, h2, h3⟩ := hCell.out _ B11.out (by rintro h0; apply hne; have := wAll_append (l.2.take pl) (l.2.drop pl); rw [List.take_append_drop, h0] at this; exact (List.append_eq_nil_iff.1 this.symm).2)
            cases h1
            refine ⟨eb, off + pl * 2, rfl, h2, fun j u hj => ?_⟩
            have e2 := wAll_append (l.2.take pl) (l.2.drop pl)
            rw [List.take_append_drop] at e2
            have := h3 (pl * 2 + j) u (by rw [e2, List.getElem?_append_right (by have := hl1'.out; omega), hl1'.out, Nat.add_sub_cancel_left]; exact hj)
            rwa [← Nat.add_assoc] at this
          clear hf1 hf2 hf3 hf4 hf5 hf6 d0 d1 ho2 g2 hC O10
          go_upto_region 28 with (at_builtin; refine wpList_append_raw Try.underlying95 info_r rfl (by decide) rfl (.tmp 125) (.tmp 129) rfl (G3 + 2) v2 (pl + 1) _ rfl O11.out _ _ _ (wAll (l.2.drop pl)) rfl hC3.out hl3.out (wAll_one _) (by unfold maxLen; omega) (by omega) h11s ?_; intro v3 w12 ho3 g3)
          have B12 := Lib.hid (B11.out.trans (below_of_grown g3 (fun j hj => (row_ge O11.out j hj).1) h11s))
          obtain ⟨a11, q11, rfl⟩ := row_shape ho3
          have O12 : Hid (OwnR w12 (G3 + 2) _ (insL l.2 pl (t, M))) := Lib.hid (hOwn.out _ _ _ ho3 (by omega))
          obtain ⟨hf1, hf2, hf3, hf4, hf5, hf6⟩ := hfar.out _ B12.out
          have x4 : w12.cell? ⟨G3, 4, none⟩ = some (.slice (some ⟨eb, off, none⟩) nl q2) := by rw [cell_of_heap hf2]; rfl
          have z4 : w12.frozen? ⟨G3, 4, none⟩ = false := by simp [World.frozen?, hf2]
          clear hf1 hf2 hf3 hf4 hf5 hf6 ho3 g3 O11 hCdrop
          go_upto_region 29 with fail
          have gS := grown_set w12 G3 4 (.slice a11 (pl + 1 + (nl - pl)) q11)
          obtain ⟨hf1, hf2, hf3, hf4, hf5, hf6⟩ := hfar.out _ B12.out
          have hnW : ¬ WBR w12 G3 := by rintro ⟨cs, fr, he⟩; rw [hf2] at he; cases he
          have S13 := hf1.other gS (by omega) (by simp only [Value.ownBlock, ne_eq, Option.some.injEq]; omega) hnW
          have hX13 : (w12.setCell ⟨G3, 4, none⟩ (.slice a11 (pl + 1 + (nl - pl)) q11)).heap[G3]? = some (.cells #[.int .u8 k1, .int .u32 k2, .int .u32 k3, .slice a1 nh q1, .slice a11 (pl + 1 + (nl - pl)) q11] 97) := by simp [World.setCell, Array.getElem?_modify, hf2]
          have W13b := (O12.out.wants).same fun eb (he : WBR w12 eb) => gS.block eb he.lt (fun e => by obtain rfl : eb = G3 := Option.some.inj e; exact hnW he)
          have W13a := hf4.same fun eb (he : WBR w12 eb) => gS.block eb he.lt (fun e => by obtain rfl : eb = G3 := Option.some.inj e; exact hnW he)
          have b313 : RowKit.Below G3 w3 (w12.setCell ⟨G3, 4, none⟩ (.slice a11 (pl + 1 + (nl - pl)) q11)) := hf6.setCell (p := ⟨G3, 4, none⟩) (Nat.le_refl _) _
          clear hf1 hf2 hf3 hf4 hf5 hf6 gS hnW x4 z4
          obtain ⟨w13, hw13⟩ : ∃ x, w12.setCell ⟨G3, 4, none⟩ (.slice a11 (pl + 1 + (nl - pl)) q11) = x := ⟨_, rfl⟩
          try rw [hw13]
          rw [hw13] at S13 hX13 W13a W13b b313
          obtain ⟨g', cap'', p', e', he', _, hgl', _, _, _, _, _, c0, c1, c2, c3, c4⟩ := S13.at (i := i) (by have := hn.out; omega)
          obtain ⟨rfl, -, -⟩ : g = g' ∧ n = L1.length ∧ cap = cap'' := by simpa using he'
          have cR := S13.c0
          have y0 : w13.cell? ⟨G3, 0, none⟩ = some (.int .u8 k1) := by rw [cell_of_heap hX13]; rfl
          have y1 : w13.cell? ⟨G3, 1, none⟩ = some (.int .u32 k2) := by rw [cell_of_heap hX13]; rfl
          have y2 : w13.cell? ⟨G3, 2, none⟩ = some (.int .u32 k3) := by rw [cell_of_heap hX13]; rfl
          have y3 : w13.cell? ⟨G3, 3, none⟩ = some (.slice a1 nh q1) := by rw [cell_of_heap hX13]; rfl
          have y4 : w13.cell? ⟨G3, 4, none⟩ = some (.slice a11 (pl + 1 + (nl - pl)) q11) := by rw [cell_of_heap hX13]; rfl
          have u0 := S13.froz (i * 5)
          have u1 := S13.froz (i * 5 + 1)
          have u2 := S13.froz (i * 5 + 2)
          have u3 := S13.froz (i * 5 + 3)
          have u4 := S13.froz (i * 5 + 4)
          obtain ⟨hp1, hp2⟩ := S13.put (i := i) (by have := hn.out; omega) (k1, k2, k3) (va := .slice a1 nh q1) (vb := .slice a11 (pl + 1 + (nl - pl)) q11) (l := (l.1, insL l.2 pl (t, M))) W13a W13b
          have hRq : R = (false, L1.set i ((k1, k2, k3), (l.1, insL l.2 pl (t, M)))) := by have h := hRun2.out; rw [hplu.out] at h; simpa using h
          have hfin := ask_end (v0 := v) (N := N) hRq hp1 hFr.out ((Two.of0 (b1 := RB) (b2 := v.ownBlock.getD RB) (by rw [hN.out]; exact hBk.out)).trans (frame_two g3'.out (by rw [hG3.out]; exact b313) hp2 rfl (fun g hg => (hv''.out g hg).imp id fun h => by have := hs1.out; omega)))
          replace hfin := Lib.hid hfin
          replace hX13 := Lib.hid hX13
          clear hRq hp1 hp2 hw13 he' W13a W13b b313 S13
          first | go_region | fail
          all_goals (
            go_wp2
            go_ret
            first
              | exact ⟨by rw [hfin.out.1]; rfl, hfin.out.2⟩
              | exact ⟨by rw [hfin.out.1]; rfl, (ask_drew hfin.out).2⟩)
        · obtain hpe : nl = pl := by omega
          have hd0 : Hid (l.2.drop pl = []) := Lib.hid (List.drop_eq_nil_of_le (by have := hnl.out; omega))
          have hP0 : Hid (∀ W a', CellsAt W a' (wAll (l.2.drop pl))) := Lib.hid fun W a' hne => absurd (by rw [hd0.out]; rfl) hne
          have hpi : ¬ (pl : Int) < (nl : Int) := by omega
          subst hpe
          cases a2 with
          | none =>
            by_cases hck : nl = q2
            · subst hck
              have B10 := hB9
              obtain ⟨hf1, hf2, hf3, hf4, hf5, hf6⟩ := hfar.out _ hB9.out
              have x4 : wc.cell? ⟨G3, 4, none⟩ = some (.slice none nl nl) := by rw [cell_of_heap hf2]; rfl
              have h9s : G3 + 2 ≤ wc.heap.size := by have := hB9.out.size; omega
              clear hf1 hf2 hf3 hf4 hf5 hf6
              go_upto_region 26 with (at_builtin; refine wpList_append_raw Try.underlying95 info_r rfl (by decide) rfl (.tmp 115) (.tmp 119) rfl (G3 + 2) (.slice none 0 0) 0 [] rfl (World.ownsRow_nil _ _ _ _) _ _ _ (wAll (l.2.take nl)) rfl hC1.out hl1'.out (wAll_one _) (by unfold maxLen; omega) (by omega) h9s ?_; intro v1 w10 ho1 g1)
              rw [Nat.zero_add, List.nil_append] at ho1
              have B10 := Lib.hid (hB9.out.trans (below_of_grown g1 (by simp [Value.ownBlock]) h9s))
              have h10s : G3 + 2 ≤ w10.heap.size := Nat.le_trans h9s g1.size
              obtain ⟨hf1, hf2, hf3, hf4, hf5, hf6⟩ := hfar.out _ B10.out
              have d0 : w10.cell? ⟨G3 + 1, 0, none⟩ = some (.int .u32 t) := by rw [cell_of_heap hf3]; rfl
              have d1 : w10.cell? ⟨G3 + 1, 1, none⟩ = some (.int .u8 M) := by rw [cell_of_heap hf3]; rfl
              have hnc := heap_alloc_new w10 (.cells #[.int .u32 t, .int .u8 M] 99)
              have bN := below_alloc w10 (.cells #[.int .u32 t, .int .u8 M] 99)
              have O10 := Lib.hid (ho1.alloc (.cells #[.int .u32 t, .int .u8 M] 99))
              have B10a := Lib.hid (B10.out.trans (bN.mono h10s))
              have hC : Hid (CellsAt (w10.alloc (.cells #[.int .u32 t, .int .u8 M] 99)) (some ⟨w10.heap.size, 0, none⟩) (wAll [(t, M)])) := Lib.hid (cellsAt_block hnc fun j u hj => by
                match j, hj with
                | 0, hj => simpa [wAll, wCells] using hj
                | 1, hj => simpa [wAll, wCells] using hj
                | j + 2, hj => simp [wAll, wCells] at hj)
              have hG10 : G3 + 2 ≤ (w10.alloc (.cells #[.int .u32 t, .int .u8 M] 99)).heap.size := by simp; omega
              clear hf1 hf2 hf3 hf4 hf5 hf6 x4 hnc bN ho1 g1 hC1
              go_upto_region 27 with (at_builtin; refine wpList_append_raw Try.underlying95 info_r rfl (by decide) rfl (.tmp 121) (.tmp 123) rfl (G3 + 2) v1 nl (wAll (l.2.take nl)) rfl O10.out (some ⟨w10.heap.size, 0, none⟩) 1 1 (wAll [(t, M)]) rfl hC.out rfl (wAll_one _) (by unfold maxLen; omega) (by omega) hG10 ?_; intro v2 w11 ho2 g2)
              have B11 := Lib.hid (B10a.out.trans (below_of_grown g2 (fun j hj => (row_ge O10.out j hj).1) hG10))
              have h11s : G3 + 2 ≤ w11.heap.size := Nat.le_trans hG10 g2.size
              have O11 := Lib.hid ho2
              obtain ⟨hf1, hf2, hf3, hf4, hf5, hf6⟩ := hfar.out _ B11.out
              have x4 : w11.cell? ⟨G3, 4, none⟩ = some (.slice none nl nl) := by rw [cell_of_heap hf2]; rfl
              have hC3 := hP0
              clear hf1 hf2 hf3 hf4 hf5 hf6 d0 d1 ho2 g2 hC O10
              go_upto_region 28 with (at_builtin; refine wpList_append_raw Try.underlying95 info_r rfl (by decide) rfl (.tmp 125) (.tmp 129) rfl (G3 + 2) v2 (nl + 1) _ rfl O11.out _ _ _ (wAll (l.2.drop nl)) rfl (hC3.out _ _) (by rw [hd0.out]; simp [wAll]) (wAll_one _) (by unfold maxLen; omega) (by omega) h11s ?_; intro v3 w12 ho3 g3)
              have B12 := Lib.hid (B11.out.trans (below_of_grown g3 (fun j hj => (row_ge O11.out j hj).1) h11s))
              obtain ⟨a11, q11, rfl⟩ := row_shape ho3
              have O12 : Hid (OwnR w12 (G3 + 2) _ (insL l.2 nl (t, M))) := Lib.hid (hOwn.out _ _ _ ho3 (by omega))
              obtain ⟨hf1, hf2, hf3, hf4, hf5, hf6⟩ := hfar.out _ B12.out
              have x4 : w12.cell? ⟨G3, 4, none⟩ = some (.slice none nl nl) := by rw [cell_of_heap hf2]; rfl
              have z4 : w12.frozen? ⟨G3, 4, none⟩ = false := by simp [World.frozen?, hf2]
              clear hf1 hf2 hf3 hf4 hf5 hf6 ho3 g3 O11 hCdrop
              go_upto_region 29 with fail
              have gS := grown_set w12 G3 4 (.slice a11 (nl + 1 + 0) q11)
              obtain ⟨hf1, hf2, hf3, hf4, hf5, hf6⟩ := hfar.out _ B12.out
              have hnW : ¬ WBR w12 G3 := by rintro ⟨cs, fr, he⟩; rw [hf2] at he; cases he
              have S13 := hf1.other gS (by omega) (by simp only [Value.ownBlock, ne_eq, Option.some.injEq]; omega) hnW
              have hX13 : (w12.setCell ⟨G3, 4, none⟩ (.slice a11 (nl + 1 + 0) q11)).heap[G3]? = some (.cells #[.int .u8 k1, .int .u32 k2, .int .u32 k3, .slice a1 nh q1, .slice a11 (nl + 1 + 0) q11] 97) := by simp [World.setCell, Array.getElem?_modify, hf2]
              have W13b := (O12.out.wants).same fun eb (he : WBR w12 eb) => gS.block eb he.lt (fun e => by obtain rfl : eb = G3 := Option.some.inj e; exact hnW he)
              have W13a := hf4.same fun eb (he : WBR w12 eb) => gS.block eb he.lt (fun e => by obtain rfl : eb = G3 := Option.some.inj e; exact hnW he)
              have b313 : RowKit.Below G3 w3 (w12.setCell ⟨G3, 4, none⟩ (.slice a11 (nl + 1 + 0) q11)) := hf6.setCell (p := ⟨G3, 4, none⟩) (Nat.le_refl _) _
              clear hf1 hf2 hf3 hf4 hf5 hf6 gS hnW x4 z4
              obtain ⟨w13, hw13⟩ : ∃ x, w12.setCell ⟨G3, 4, none⟩ (.slice a11 (nl + 1 + 0) q11) = x := ⟨_, rfl⟩
              try rw [hw13]
              rw [hw13] at S13 hX13 W13a W13b b313
              obtain ⟨g', cap'', p', e', he', _, hgl', _, _, _, _, _, c0, c1, c2, c3, c4⟩ := S13.at (i := i) (by have := hn.out; omega)
              obtain ⟨rfl, -, -⟩ : g = g' ∧ n = L1.length ∧ cap = cap'' := by simpa using he'
              have cR := S13.c0
              have y0 : w13.cell? ⟨G3, 0, none⟩ = some (.int .u8 k1) := by rw [cell_of_heap hX13]; rfl
              have y1 : w13.cell? ⟨G3, 1, none⟩ = some (.int .u32 k2) := by rw [cell_of_heap hX13]; rfl
              have y2 : w13.cell? ⟨G3, 2, none⟩ = some (.int .u32 k3) := by rw [cell_of_heap hX13]; rfl
              have y3 : w13.cell? ⟨G3, 3, none⟩ = some (.slice a1 nh q1) := by rw [cell_of_heap hX13]; rfl
              have y4 : w13.cell? ⟨G3, 4, none⟩ = some (.slice a11 (nl + 1 + 0) q11) := by rw [cell_of_heap hX13]; rfl
              have u0 := S13.froz (i * 5)
              have u1 := S13.froz (i * 5 + 1)
              have u2 := S13.froz (i * 5 + 2)
              have u3 := S13.froz (i * 5 + 3)
              have u4 := S13.froz (i * 5 + 4)
              obtain ⟨hp1, hp2⟩ := S13.put (i := i) (by have := hn.out; omega) (k1, k2, k3) (va := .slice a1 nh q1) (vb := .slice a11 (nl + 1 + 0) q11) (l := (l.1, insL l.2 nl (t, M))) W13a W13b
              have hRq : R = (false, L1.set i ((k1, k2, k3), (l.1, insL l.2 nl (t, M)))) := by have h := hRun2.out; rw [hplu.out] at h; simpa using h
              have hfin := ask_end (v0 := v) (N := N) hRq hp1 hFr.out ((Two.of0 (b1 := RB) (b2 := v.ownBlock.getD RB) (by rw [hN.out]; exact hBk.out)).trans (frame_two g3'.out (by rw [hG3.out]; exact b313) hp2 rfl (fun g hg => (hv''.out g hg).imp id fun h => by have := hs1.out; omega)))
              replace hfin := Lib.hid hfin
              replace hX13 := Lib.hid hX13
              clear hRq hp1 hp2 hw13 he' W13a W13b b313 S13
              first | go_region | fail
              all_goals (
                go_wp2
                go_ret
                first
                  | exact ⟨by rw [hfin.out.1]; rfl, hfin.out.2⟩
                  | exact ⟨by rw [hfin.out.1]; rfl, (ask_drew hfin.out).2⟩)
            · have hck2 : (nl : Int) < (q2 : Int) := by omega
              have hck3 : ¬ (q2 = nl) := by omega
              have B10 := hB9
              obtain ⟨hf1, hf2, hf3, hf4, hf5, hf6⟩ := hfar.out _ hB9.out
              have x4 : wc.cell? ⟨G3, 4, none⟩ = some (.slice none nl q2) := by rw [cell_of_heap hf2]; rfl
              have h9s : G3 + 2 ≤ wc.heap.size := by have := hB9.out.size; omega
              clear hf1 hf2 hf3 hf4 hf5 hf6
              go_upto_region 26 with (at_builtin; refine wpList_append_raw Try.underlying95 info_r rfl (by decide) rfl (.tmp 115) (.tmp 119) rfl (G3 + 2) (.slice none 0 0) 0 [] rfl (World.ownsRow_nil _ _ _ _) _ _ _ (wAll (l.2.take nl)) rfl hC1.out hl1'.out (wAll_one _) (by unfold maxLen; omega) (by omega) h9s ?_; intro v1 w10 ho1 g1)
              rw [Nat.zero_add, List.nil_append] at ho1
              have B10 := Lib.hid (hB9.out.trans (below_of_grown g1 (by simp [Value.ownBlock]) h9s))
              have h10s : G3 + 2 ≤ w10.heap.size := Nat.le_trans h9s g1.size
              obtain ⟨hf1, hf2, hf3, hf4, hf5, hf6⟩ := hfar.out _ B10.out
              have d0 : w10.cell? ⟨G3 + 1, 0, none⟩ = some (.int .u32 t) := by rw [cell_of_heap hf3]; rfl
              have d1 : w10.cell? ⟨G3 + 1, 1, none⟩ = some (.int .u8 M) := by rw [cell_of_heap hf3]; rfl
              have hnc := heap_alloc_new w10 (.cells #[.int .u32 t, .int .u8 M] 99)
              have bN := below_alloc w10 (.cells #[.int .u32 t, .int .u8 M] 99)
              have O10 := Lib.hid (ho1.alloc (.cells #[.int .u32 t, .int .u8 M] 99))
              have B10a := Lib.hid (B10.out.trans (bN.mono h10s))
              have hC : Hid (CellsAt (w10.alloc (.cells #[.int .u32 t, .int .u8 M] 99)) (some ⟨w10.heap.size, 0, none⟩) (wAll [(t, M)])) := Lib.hid (cellsAt_block hnc fun j u hj => by
                match j, hj with
                | 0, hj => simpa [wAll, wCells] using hj
                | 1, hj => simpa [wAll, wCells] using hj
                | j + 2, hj => simp [wAll, wCells] at hj)
              have hG10 : G3 + 2 ≤ (w10.alloc (.cells #[.int .u32 t, .int .u8 M] 99)).heap.size := by simp; omega
              clear hf1 hf2 hf3 hf4 hf5 hf6 x4 hnc bN ho1 g1 hC1
              go_upto_region 27 with (at_builtin; refine wpList_append_raw Try.underlying95 info_r rfl (by decide) rfl (.tmp 121) (.tmp 123) rfl (G3 + 2) v1 nl (wAll (l.2.take nl)) rfl O10.out (some ⟨w10.heap.size, 0, none⟩) 1 1 (wAll [(t, M)]) rfl hC.out rfl (wAll_one _) (by unfold maxLen; omega) (by omega) hG10 ?_; intro v2 w11 ho2 g2)
              have B11 := Lib.hid (B10a.out.trans (below_of_grown g2 (fun j hj => (row_ge O10.out j hj).1) hG10))
              have h11s : G3 + 2 ≤ w11.heap.size := Nat.le_trans hG10 g2.size
              have O11 := Lib.hid ho2
              obtain ⟨hf1, hf2, hf3, hf4, hf5, hf6⟩ := hfar.out _ B11.out
              have x4 : w11.cell? ⟨G3, 4, none⟩ = some (.slice none nl q2) := by rw [cell_of_heap hf2]; rfl
              have hC3 := hP0
              clear hf1 hf2 hf3 hf4 hf5 hf6 d0 d1 ho2 g2 hC O10
              go_upto_region 28 with (at_builtin; refine wpList_append_raw Try.underlying95 info_r rfl (by decide) rfl (.tmp 125) (.tmp 129) rfl (G3 + 2) v2 (nl + 1) _ rfl O11.out _ _ _ (wAll (l.2.drop nl)) rfl (hC3.out _ _) (by rw [hd0.out]; simp [wAll]) (wAll_one _) (by unfold maxLen; omega) (by omega) h11s ?_; intro v3 w12 ho3 g3)
              have B12 := Lib.hid (B11.out.trans (below_of_grown g3 (fun j hj => (row_ge O11.out j hj).1) h11s))
              obtain ⟨a11, q11, rfl⟩ := row_shape ho3
              have O12 : Hid (OwnR w12 (G3 + 2) _ (insL l.2 nl (t, M))) := Lib.hid (hOwn.out _ _ _ ho3 (by omega))
              obtain ⟨hf1, hf2, hf3, hf4, hf5, hf6⟩ := hfar.out _ B12.out
              have x4 : w12.cell? ⟨G3, 4, none⟩ = some (.slice none nl q2) := by rw [cell_of_heap hf2]; rfl
              have z4 : w12.frozen? ⟨G3, 4, none⟩ = false := by simp [World.frozen?, hf2]
              clear hf1 hf2 hf3 hf4 hf5 hf6 ho3 g3 O11 hCdrop
              go_upto_region 29 with fail
              have gS := grown_set w12 G3 4 (.slice a11 (nl + 1 + 0) q11)
              obtain ⟨hf1, hf2, hf3, hf4, hf5, hf6⟩ := hfar.out _ B12.out
              have hnW : ¬ WBR w12 G3 := by rintro ⟨cs, fr, he⟩; rw [hf2] at he; cases he
              have S13 := hf1.other gS (by omega) (by simp only [Value.ownBlock, ne_eq, Option.some.injEq]; omega) hnW
              have hX13 : (w12.setCell ⟨G3, 4, none⟩ (.slice a11 (nl + 1 + 0) q11)).heap[G3]? = some (.cells #[.int .u8 k1, .int .u32 k2, .int .u32 k3, .slice a1 nh q1, .slice a11 (nl + 1 + 0) q11] 97) := by simp [World.setCell, Array.getElem?_modify, hf2]
              have W13b := (O12.out.wants).same fun eb (he : WBR w12 eb) => gS.block eb he.lt (fun e => by obtain rfl : eb = G3 := Option.some.inj e; exact hnW he)
              have W13a := hf4.same fun eb (he : WBR w12 eb) => gS.block eb he.lt (fun e => by obtain rfl : eb = G3 := Option.some.inj e; exact hnW he)
              have b313 : RowKit.Below G3 w3 (w12.setCell ⟨G3, 4, none⟩ (.slice a11 (nl + 1 + 0) q11)) := hf6.setCell (p := ⟨G3, 4, none⟩) (Nat.le_refl _) _
              clear hf1 hf2 hf3 hf4 hf5 hf6 gS hnW x4 z4
              obtain ⟨w13, hw13⟩ : ∃ x, w12.setCell ⟨G3, 4, none⟩ (.slice a11 (nl + 1 + 0) q11) = x := ⟨_, rfl⟩
              try rw [hw13]
              rw [hw13] at S13 hX13 W13a W13b b313
              obtain ⟨g', cap'', p', e', he', _, hgl', _, _, _, _, _, c0, c1, c2, c3, c4⟩ := S13.at (i := i) (by have := hn.out; omega)
              obtain ⟨rfl, -, -⟩ : g = g' ∧ n = L1.length ∧ cap = cap'' := by simpa using he'
              have cR := S13.c0
              have y0 : w13.cell? ⟨G3, 0, none⟩ = some (.int .u8 k1) := by rw [cell_of_heap hX13]; rfl
              have y1 : w13.cell? ⟨G3, 1, none⟩ = some (.int .u32 k2) := by rw [cell_of_heap hX13]; rfl
              have y2 : w13.cell? ⟨G3, 2, none⟩ = some (.int .u32 k3) := by rw [cell_of_heap hX13]; rfl
              have y3 : w13.cell? ⟨G3, 3, none⟩ = some (.slice a1 nh q1) := by rw [cell_of_heap hX13]; rfl
              have y4 : w13.cell? ⟨G3, 4, none⟩ = some (.slice a11 (nl + 1 + 0) q11) := by rw [cell_of_heap hX13]; rfl
              have u0 := S13.froz (i * 5)
              have u1 := S13.froz (i * 5 + 1)
              have u2 := S13.froz (i * 5 + 2)
              have u3 := S13.froz (i * 5 + 3)
              have u4 := S13.froz (i * 5 + 4)
              obtain ⟨hp1, hp2⟩ := S13.put (i := i) (by have := hn.out; omega) (k1, k2, k3) (va := .slice a1 nh q1) (vb := .slice a11 (nl + 1 + 0) q11) (l := (l.1, insL l.2 nl (t, M))) W13a W13b
              have hRq : R = (false, L1.set i ((k1, k2, k3), (l.1, insL l.2 nl (t, M)))) := by have h := hRun2.out; rw [hplu.out] at h; simpa using h
              have hfin := ask_end (v0 := v) (N := N) hRq hp1 hFr.out ((Two.of0 (b1 := RB) (b2 := v.ownBlock.getD RB) (by rw [hN.out]; exact hBk.out)).trans (frame_two g3'.out (by rw [hG3.out]; exact b313) hp2 rfl (fun g hg => (hv''.out g hg).imp id fun h => by have := hs1.out; omega)))
              replace hfin := Lib.hid hfin
              replace hX13 := Lib.hid hX13
              clear hRq hp1 hp2 hw13 he' W13a W13b b313 S13
              first | go_region | fail
              all_goals (
                go_wp2
                go_ret
                first
                  | exact ⟨by rw [hfin.out.1]; rfl, hfin.out.2⟩
                  | exact ⟨by rw [hfin.out.1]; rfl, (ask_drew hfin.out).2⟩)
          | some ad =>
            by_cases hck : nl = q2
            · subst hck
              have B10 := hB9
              obtain ⟨hf1, hf2, hf3, hf4, hf5, hf6⟩ := hfar.out _ hB9.out
              have x4 : wc.cell? ⟨G3, 4, none⟩ = some (.slice (some ad) nl nl) := by rw [cell_of_heap hf2]; rfl
              have h9s : G3 + 2 ≤ wc.heap.size := by have := hB9.out.size; omega
              clear hf1 hf2 hf3 hf4 hf5 hf6
              go_upto_region 26 with (at_builtin; refine wpList_append_raw Try.underlying95 info_r rfl (by decide) rfl (.tmp 115) (.tmp 119) rfl (G3 + 2) (.slice none 0 0) 0 [] rfl (World.ownsRow_nil _ _ _ _) _ _ _ (wAll (l.2.take nl)) rfl hC1.out hl1'.out (wAll_one _) (by unfold maxLen; omega) (by omega) h9s ?_; intro v1 w10 ho1 g1)
              rw [Nat.zero_add, List.nil_append] at ho1
              have B10 := Lib.hid (hB9.out.trans (below_of_grown g1 (by simp [Value.ownBlock]) h9s))
              have h10s : G3 + 2 ≤ w10.heap.size := Nat.le_trans h9s g1.size
              obtain ⟨hf1, hf2, hf3, hf4, hf5, hf6⟩ := hfar.out _ B10.out
              have d0 : w10.cell? ⟨G3 + 1, 0, none⟩ = some (.int .u32 t) := by rw [cell_of_heap hf3]; rfl
              have d1 : w10.cell? ⟨G3 + 1, 1, none⟩ = some (.int .u8 M) := by rw [cell_of_heap hf3]; rfl
              have hnc := heap_alloc_new w10 (.cells #[.int .u32 t, .int .u8 M] 99)
              have bN := below_alloc w10 (.cells #[.int .u32 t, .int .u8 M] 99)
              have O10 := Lib.hid (ho1.alloc (.cells #[.int .u32 t, .int .u8 M] 99))
              have B10a := Lib.hid (B10.out.trans (bN.mono h10s))
              have hC : Hid (CellsAt (w10.alloc (.cells #[.int .u32 t, .int .u8 M] 99)) (some ⟨w10.heap.size, 0, none⟩) (wAll [(t, M)])) := Lib.hid (cellsAt_block hnc fun j u hj => by
                match j, hj with
                | 0, hj => simpa [wAll, wCells] using hj
                | 1, hj => simpa [wAll, wCells] using hj
                | j + 2, hj => simp [wAll, wCells] at hj)
              have hG10 : G3 + 2 ≤ (w10.alloc (.cells #[.int .u32 t, .int .u8 M] 99)).heap.size := by simp; omega
              clear hf1 hf2 hf3 hf4 hf5 hf6 x4 hnc bN ho1 g1 hC1
              go_upto_region 27 with (at_builtin; refine wpList_append_raw Try.underlying95 info_r rfl (by decide) rfl (.tmp 121) (.tmp 123) rfl (G3 + 2) v1 nl (wAll (l.2.take nl)) rfl O10.out (some ⟨w10.heap.size, 0, none⟩) 1 1 (wAll [(t, M)]) rfl hC.out rfl (wAll_one _) (by unfold maxLen; omega) (by omega) hG10 ?_; intro v2 w11 ho2 g2)
              have B11 := Lib.hid (B10a.out.trans (below_of_grown g2 (fun j hj => (row_ge O10.out j hj).1) hG10))
              have h11s : G3 + 2 ≤ w11.heap.size := Nat.le_trans hG10 g2.size
              have O11 := Lib.hid ho2
              obtain ⟨hf1, hf2, hf3, hf4, hf5, hf6⟩ := hfar.out _ B11.out
              have x4 : w11.cell? ⟨G3, 4, none⟩ = some (.slice (some ad) nl nl) := by rw [cell_of_heap hf2]; rfl
              have hC3 := hP0
              clear hf1 hf2 hf3 hf4 hf5 hf6 d0 d1 ho2 g2 hC O10
              go_upto_region 28 with (at_builtin; refine wpList_append_raw Try.underlying95 info_r rfl (by decide) rfl (.tmp 125) (.tmp 129) rfl (G3 + 2) v2 (nl + 1) _ rfl O11.out _ _ _ (wAll (l.2.drop nl)) rfl (hC3.out _ _) (by rw [hd0.out]; simp [wAll]) (wAll_one _) (by unfold maxLen; omega) (by omega) h11s ?_; intro v3 w12 ho3 g3)
              have B12 := Lib.hid (B11.out.trans (below_of_grown g3 (fun j hj => (row_ge O11.out j hj).1) h11s))
              obtain ⟨a11, q11, rfl⟩ := row_shape ho3
              have O12 : Hid (OwnR w12 (G3 + 2) _ (insL l.2 nl (t, M))) := Lib.hid (hOwn.out _ _ _ ho3 (by omega))
              obtain ⟨hf1, hf2, hf3, hf4, hf5, hf6⟩ := hfar.out _ B12.out
              have x4 : w12.cell? ⟨G3, 4, none⟩ = some (.slice (some ad) nl nl) := by rw [cell_of_heap hf2]; rfl
              have z4 : w12.frozen? ⟨G3, 4, none⟩ = false := by simp [World.frozen?, hf2]
              clear hf1 hf2 hf3 hf4 hf5 hf6 ho3 g3 O11 hCdrop
              go_upto_region 29 with fail
              have gS := grown_set w12 G3 4 (.slice a11 (nl + 1 + 0) q11)
              obtain ⟨hf1, hf2, hf3, hf4, hf5, hf6⟩ := hfar.out _ B12.out
              have hnW : ¬ WBR w12 G3 := by rintro ⟨cs, fr, he⟩; rw [hf2] at he; cases he
              have S13 := hf1.other gS (by omega) (by simp only [Value.ownBlock, ne_eq, Option.some.injEq]; omega) hnW
              have hX13 : (w12.setCell ⟨G3, 4, none⟩ (.slice a11 (nl + 1 + 0) q11)).heap[G3]? = some (.cells #[.int .u8 k1, .int .u32 k2, .int .u32 k3, .slice a1 nh q1, .slice a11 (nl + 1 + 0) q11] 97) := by simp [World.setCell, Array.getElem?_modify, hf2]
              have W13b := (O12.out.wants).same fun eb (he : WBR w12 eb) => gS.block eb he.lt (fun e => by obtain rfl : eb = G3 := Option.some.inj e; exact hnW he)
              have W13a := hf4.same fun eb (he : WBR w12 eb) => gS.block eb he.lt (fun e => by obtain rfl : eb = G3 := Option.some.inj e; exact hnW he)
              have b313 : RowKit.Below G3 w3 (w12.setCell ⟨G3, 4, none⟩ (.slice a11 (nl + 1 + 0) q11)) := hf6.setCell (p := ⟨G3, 4, none⟩) (Nat.le_refl _) _
              clear hf1 hf2 hf3 hf4 hf5 hf6 gS hnW x4 z4
              obtain ⟨w13, hw13⟩ : ∃ x, w12.setCell ⟨G3, 4, none⟩ (.slice a11 (nl + 1 + 0) q11) = x := ⟨_, rfl⟩
              try rw [hw13]
              rw [hw13] at S13 hX13 W13a W13b b313
              obtain ⟨g', cap'', p', e', he', _, hgl', _, _, _, _, _, c0, c1, c2, c3, c4⟩ := S13.at (i := i) (by have := hn.out; omega)
              obtain ⟨rfl, -, -⟩ : g = g' ∧ n = L1.length ∧ cap = cap'' := by simpa using he'
              have cR := S13.c0
              have y0 : w13.cell? ⟨G3, 0, none⟩ = some (.int .u8 k1) := by rw [cell_of_heap hX13]; rfl
              have y1 : w13.cell? ⟨G3, 1, none⟩ = some (.int .u32 k2) := by rw [cell_of_heap hX13]; rfl
              have y2 : w13.cell? ⟨G3, 2, none⟩ = some (.int .u32 k3) := by rw [cell_of_heap hX13]; rfl
              have y3 : w13.cell? ⟨G3, 3, none⟩ = some (.slice a1 nh q1) := by rw [cell_of_heap hX13]; rfl
              have y4 : w13.cell? ⟨G3, 4, none⟩ = some (.slice a11 (nl + 1 + 0) q11) := by rw [cell_of_heap hX13]; rfl
              have u0 := S13.froz (i * 5)
              have u1 := S13.froz (i * 5 + 1)
              have u2 := S13.froz (i * 5 + 2)
              have u3 := S13.froz (i * 5 + 3)
              have u4 := S13.froz (i * 5 + 4)
              obtain ⟨hp1, hp2⟩ := S13.put (i := i) (by have := hn.out; omega) (k1, k2, k3) (va := .slice a1 nh q1) (vb := .slice a11 (nl + 1 + 0) q11) (l := (l.1, insL l.2 nl (t, M))) W13a W13b
              have hRq : R = (false, L1.set i ((k1, k2, k3), (l.1, insL l.2 nl (t, M)))) := by have h := hRun2.out; rw [hplu.out] at h; simpa using h
              have hfin := ask_end (v0 := v) (N := N) hRq hp1 hFr.out ((Two.of0 (b1 := RB) (b2 := v.ownBlock.getD RB) (by rw [hN.out]; exact hBk.out)).trans (frame_two g3'.out (by rw [hG3.out]; exact b313) hp2 rfl (fun g hg => (hv''.out g hg).imp id fun h => by have := hs1.out; omega)))
              replace hfin := Lib.hid hfin
              replace hX13 := Lib.hid hX13
              clear hRq hp1 hp2 hw13 he' W13a W13b b313 S13
              first | go_region | fail
              all_goals (
                go_wp2
                go_ret
                first
                  | exact ⟨by rw [hfin.out.1]; rfl, hfin.out.2⟩
                  | exact ⟨by rw [hfin.out.1]; rfl, (ask_drew hfin.out).2⟩)
            · have hck2 : (nl : Int) < (q2 : Int) := by omega
              have hck3 : ¬ (q2 = nl) := by omega
              have B10 := hB9
              obtain ⟨hf1, hf2, hf3, hf4, hf5, hf6⟩ := hfar.out _ hB9.out
              have x4 : wc.cell? ⟨G3, 4, none⟩ = some (.slice (some ad) nl q2) := by rw [cell_of_heap hf2]; rfl
              have h9s : G3 + 2 ≤ wc.heap.size := by have := hB9.out.size; omega
              clear hf1 hf2 hf3 hf4 hf5 hf6
              go_upto_region 26 with (at_builtin; refine wpList_append_raw Try.underlying95 info_r rfl (by decide) rfl (.tmp 115) (.tmp 119) rfl (G3 + 2) (.slice none 0 0) 0 [] rfl (World.ownsRow_nil _ _ _ _) _ _ _ (wAll (l.2.take nl)) rfl hC1.out hl1'.out (wAll_one _) (by unfold maxLen; omega) (by omega) h9s ?_; intro v1 w10 ho1 g1)
              rw [Nat.zero_add, List.nil_append] at ho1
              have B10 := Lib.hid (hB9.out.trans (below_of_grown g1 (by simp [Value.ownBlock]) h9s))
              have h10s : G3 + 2 ≤ w10.heap.size := Nat.le_trans h9s g1.size
              obtain ⟨hf1, hf2, hf3, hf4, hf5, hf6⟩ := hfar.out _ B10.out
              have d0 : w10.cell? ⟨G3 + 1, 0, none⟩ = some (.int .u32 t) := by rw [cell_of_heap hf3]; rfl
              have d1 : w10.cell? ⟨G3 + 1, 1, none⟩ = some (.int .u8 M) := by rw [cell_of_heap hf3]; rfl
              have hnc := heap_alloc_new w10 (.cells #[.int .u32 t, .int .u8 M] 99)
              have bN := below_alloc w10 (.cells #[.int .u32 t, .int .u8 M] 99)
              have O10 := Lib.hid (ho1.alloc (.cells #[.int .u32 t, .int .u8 M] 99))
              have B10a := Lib.hid (B10.out.trans (bN.mono h10s))
              have hC : Hid (CellsAt (w10.alloc (.cells #[.int .u32 t, .int .u8 M] 99)) (some ⟨w10.heap.size, 0, none⟩) (wAll [(t, M)])) := Lib.hid (cellsAt_block hnc fun j u hj => by
                match j, hj with
                | 0, hj => simpa [wAll, wCells] using hj
                | 1, hj => simpa [wAll, wCells] using hj
                | j + 2, hj => simp [wAll, wCells] at hj)
              have hG10 : G3 + 2 ≤ (w10.alloc (.cells #[.int .u32 t, .int .u8 M] 99)).heap.size := by simp; omega
              clear hf1 hf2 hf3 hf4 hf5 hf6 x4 hnc bN ho1 g1 hC1
              go_upto_region 27 with (at_builtin; refine wpList_append_raw Try.underlying95 info_r rfl (by decide) rfl (.tmp 121) (.tmp 123) rfl (G3 + 2) v1 nl (wAll (l.2.take nl)) rfl O10.out (some ⟨w10.heap.size, 0, none⟩) 1 1 (wAll [(t, M)]) rfl hC.out rfl (wAll_one _) (by unfold maxLen; omega) (by omega) hG10 ?_; intro v2 w11 ho2 g2)
              have B11 := Lib.hid (B10a.out.trans (below_of_grown g2 (fun j hj => (row_ge O10.out j hj).1) hG10))
              have h11s : G3 + 2 ≤ w11.heap.size := Nat.le_trans hG10 g2.size
              have O11 := Lib.hid ho2
              obtain ⟨hf1, hf2, hf3, hf4, hf5, hf6⟩ := hfar.out _ B11.out
              have x4 : w11.cell? ⟨G3, 4, none⟩ = some (.slice (some ad) nl q2) := by rw [cell_of_heap hf2]; rfl
              have hC3 := hP0
              clear hf1 hf2 hf3 hf4 hf5 hf6 d0 d1 ho2 g2 hC O10
              go_upto_region 28 with (at_builtin; refine wpList_append_raw Try.underlying95 info_r rfl (by decide) rfl (.tmp 125) (.tmp 129) rfl (G3 + 2) v2 (nl + 1) _ rfl O11.out _ _ _ (wAll (l.2.drop nl)) rfl (hC3.out _ _) (by rw [hd0.out]; simp [wAll]) (wAll_one _) (by unfold maxLen; omega) (by omega) h11s ?_; intro v3 w12 ho3 g3)
              have B12 := Lib.hid (B11.out.trans (below_of_grown g3 (fun j hj => (row_ge O11.out j hj).1) h11s))
              obtain ⟨a11, q11, rfl⟩ := row_shape ho3
              have O12 : Hid (OwnR w12 (G3 + 2) _ (insL l.2 nl (t, M))) := Lib.hid (hOwn.out _ _ _ ho3 (by omega))
              obtain ⟨hf1, hf2, hf3, hf4, hf5, hf6⟩ := hfar.out _ B12.out
              have x4 : w12.cell? ⟨G3, 4, none⟩ = some (.slice (some ad) nl q2) := by rw [cell_of_heap hf2]; rfl
              have z4 : w12.frozen? ⟨G3, 4, none⟩ = false := by simp [World.frozen?, hf2]
              clear hf1 hf2 hf3 hf4 hf5 hf6 ho3 g3 O11 hCdrop
              go_upto_region 29 with fail
              have gS := grown_set w12 G3 4 (.slice a11 (nl + 1 + 0) q11)
              obtain ⟨hf1, hf2, hf3, hf4, hf5, hf6⟩ := hfar.out _ B12.out
              have hnW : ¬ WBR w12 G3 := by rintro ⟨cs, fr, he⟩; rw [hf2] at he; cases he
              have S13 := hf1.other gS (by omega) (by simp only [Value.ownBlock, ne_eq, Option.some.injEq]; omega) hnW
              have hX13 : (w12.setCell ⟨G3, 4, none⟩ (.slice a11 (nl + 1 + 0) q11)).heap[G3]? = some (.cells #[.int .u8 k1, .int .u32 k2, .int .u32 k3, .slice a1 nh q1, .slice a11 (nl + 1 + 0) q11] 97) := by simp [World.setCell, Array.getElem?_modify, hf2]
              have W13b := (O12.out.wants).same fun eb (he : WBR w12 eb) => gS.block eb he.lt (fun e => by obtain rfl : eb = G3 := Option.some.inj e; exact hnW he)
              have W13a := hf4.same fun eb (he : WBR w12 eb) => gS.block eb he.lt (fun e => by obtain rfl : eb = G3 := Option.some.inj e; exact hnW he)
              have b313 : RowKit.Below G3 w3 (w12.setCell ⟨G3, 4, none⟩ (.slice a11 (nl + 1 + 0) q11)) := hf6.setCell (p := ⟨G3, 4, none⟩) (Nat.le_refl _) _
              clear hf1 hf2 hf3 hf4 hf5 hf6 gS hnW x4 z4
              obtain ⟨w13, hw13⟩ : ∃ x, w12.setCell ⟨G3, 4, none⟩ (.slice a11 (nl + 1 + 0) q11) = x := ⟨_, rfl⟩
              try rw [hw13]
              rw [hw13] at S13 hX13 W13a W13b b313
              obtain ⟨g', cap'', p', e', he', _, hgl', _, _, _, _, _, c0, c1, c2, c3, c4⟩ := S13.at (i := i) (by have := hn.out; omega)
              obtain ⟨rfl, -, -⟩ : g = g' ∧ n = L1.length ∧ cap = cap'' := by simpa using he'
              have cR := S13.c0
              have y0 : w13.cell? ⟨G3, 0, none⟩ = some (.int .u8 k1) := by rw [cell_of_heap hX13]; rfl
              have y1 : w13.cell? ⟨G3, 1, none⟩ = some (.int .u32 k2) := by rw [cell_of_heap hX13]; rfl
              have y2 : w13.cell? ⟨G3, 2, none⟩ = some (.int .u32 k3) := by rw [cell_of_heap hX13]; rfl
              have y3 : w13.cell? ⟨G3, 3, none⟩ = some (.slice a1 nh q1) := by rw [cell_of_heap hX13]; rfl
              have y4 : w13.cell? ⟨G3, 4, none⟩ = some (.slice a11 (nl + 1 + 0) q11) := by rw [cell_of_heap hX13]; rfl
              have u0 := S13.froz (i * 5)
              have u1 := S13.froz (i * 5 + 1)
              have u2 := S13.froz (i * 5 + 2)
              have u3 := S13.froz (i * 5 + 3)
              have u4 := S13.froz (i * 5 + 4)
              obtain ⟨hp1, hp2⟩ := S13.put (i := i) (by have := hn.out; omega) (k1, k2, k3) (va := .slice a1 nh q1) (vb := .slice a11 (nl + 1 + 0) q11) (l := (l.1, insL l.2 nl (t, M))) W13a W13b
              have hRq : R = (false, L1.set i ((k1, k2, k3), (l.1, insL l.2 nl (t, M)))) := by have h := hRun2.out; rw [hplu.out] at h; simpa using h
              have hfin := ask_end (v0 := v) (N := N) hRq hp1 hFr.out ((Two.of0 (b1 := RB) (b2 := v.ownBlock.getD RB) (by rw [hN.out]; exact hBk.out)).trans (frame_two g3'.out (by rw [hG3.out]; exact b313) hp2 rfl (fun g hg => (hv''.out g hg).imp id fun h => by have := hs1.out; omega)))
              replace hfin := Lib.hid hfin
              replace hX13 := Lib.hid hX13
              clear hRq hp1 hp2 hw13 he' W13a W13b b313 S13
              first | go_region | fail
              all_goals (
                go_wp2
                go_ret
                first
                  | exact ⟨by rw [hfin.out.1]; rfl, hfin.out.2⟩
                  | exact ⟨by rw [hfin.out.1]; rfl, (ask_drew hfin.out).2⟩)
      · have hwi := without_r _ l.1 t w8 hf4 (by have := hnh.out; omega)
        clear hf1 hf2 hf3 hf4 hf5 hf6 x4
        go_upto_region 15 with (go_at_call 75; refine hwi.mono ?_; rintro e w9 ⟨v9, rfl, o9, b9⟩)
        have B9 := Lib.hid (B8.out.trans (b9.mono h8s))
        obtain ⟨hf1, hf2, hf3, hf4, hf5, hf6⟩ := hfar.out _ B9.out
        have d0 : w9.cell? ⟨G3 + 1, 0, none⟩ = some (.int .u32 t) := by rw [cell_of_heap hf3]; rfl
        have d1 : w9.cell? ⟨G3 + 1, 1, none⟩ = some (.int .u8 M) := by rw [cell_of_heap hf3]; rfl
        have h9s : G3 + 2 ≤ w9.heap.size := Nat.le_trans h8s b9.size
        have O9 : Hid (OwnR w9 (G3 + 2) v9 (notL l.1 t)) := Lib.hid (row_low o9 h8s)
        have hnc := heap_alloc_new w9 (.cells #[.int .u32 t, .int .u8 M] 99)
        have bN := below_alloc w9 (.cells #[.int .u32 t, .int .u8 M] 99)
        have O10 := Lib.hid (O9.out.alloc (.cells #[.int .u32 t, .int .u8 M] 99))
        have B10 := Lib.hid (B9.out.trans (bN.mono h9s))
        have hC : Hid (CellsAt (w9.alloc (.cells #[.int .u32 t, .int .u8 M] 99)) (some ⟨w9.heap.size, 0, none⟩) (wAll [(t, M)])) := Lib.hid (cellsAt_block hnc fun j u hj => by
          match j, hj with
          | 0, hj => simpa [wAll, wCells] using hj
          | 1, hj => simpa [wAll, wCells] using hj
          | j + 2, hj => simp [wAll, wCells] at hj)
        have hG10 : G3 + 2 ≤ (w9.alloc (.cells #[.int .u32 t, .int .u8 M] 99)).heap.size := by simp; omega
        have hnn := notL_length l.1 t
        rw [hnh.out] at hnn
        obtain ⟨LL, hLL⟩ : ∃ x, notL l.1 t = x := ⟨_, rfl⟩
        rw [hLL] at O9 O10 hnn
        replace hRun2 := hRun2.out
        rw [hLL] at hRun2
        replace hRun2 := Lib.hid hRun2
        clear hf1 hf2 hf3 hf4 hf5 hf6 x3 hnc bN o9 b9 hwi hLL O9
        go_upto_region 16 with (at_builtin; refine wpList_append_raw Try.underlying95 info_r rfl (by decide) rfl (.tmp 78) (.tmp 80) rfl (G3 + 2) v9 LL.length (wAll LL) rfl O10.out (some ⟨w9.heap.size, 0, none⟩) 1 1 (wAll [(t, M)]) rfl hC.out rfl (wAll_one _) (by unfold maxLen; omega) (by omega) hG10 ?_; intro v11 w11 O11 g11)
        have B11 := Lib.hid (B10.out.trans (below_of_grown g11 (fun j hj => (row_ge O10.out j hj).1) hG10))
        have O12 : Hid (OwnR w11 (G3 + 2) v11 (LL ++ [(t, M)])) := Lib.hid (by rw [OwnR, wAll_append, List.length_append]; exact O11)
        obtain ⟨a11, q11, rfl⟩ := row_shape O11
        obtain ⟨hf1, hf2, hf3, hf4, hf5, hf6⟩ := hfar.out _ B11.out
        have gS := grown_set w11 G3 3 (.slice a11 (LL.length + 1) q11)
        have hnW : ¬ WBR w11 G3 := by rintro ⟨cs, fr, he⟩; rw [hf2] at he; cases he
        have S12 := hf1.other gS (by omega) (by simp only [Value.ownBlock, ne_eq, Option.some.injEq]; omega) hnW
        have hX12 : (w11.setCell ⟨G3, 3, none⟩ (.slice a11 (LL.length + 1) q11)).heap[G3]? = some (.cells #[.int .u8 k1, .int .u32 k2, .int .u32 k3, .slice a11 (LL.length + 1) q11, .slice a2 nl q2] 97) := by simp [World.setCell, Array.getElem?_modify, hf2]
        have W12a := (O12.out.wants).same fun eb (he : WBR w11 eb) => gS.block eb he.lt (fun e => by obtain rfl : eb = G3 := Option.some.inj e; exact hnW he)
        have W12b := hf5.same fun eb (he : WBR w11 eb) => gS.block eb he.lt (fun e => by obtain rfl : eb = G3 := Option.some.inj e; exact hnW he)
        have b312 : RowKit.Below G3 w3 (w11.setCell ⟨G3, 3, none⟩ (.slice a11 (LL.length + 1) q11)) := hf6.setCell (p := ⟨G3, 3, none⟩) (Nat.le_refl _) _
        have x3 : w11.cell? ⟨G3, 3, none⟩ = some (.slice a1 nh q1) := by rw [cell_of_heap hf2]; rfl
        have z3 : w11.frozen? ⟨G3, 3, none⟩ = false := by simp [World.frozen?, hf2]
        replace S12 := Lib.hid S12
        replace hX12 := Lib.hid hX12
        replace W12a := Lib.hid W12a
        replace W12b := Lib.hid W12b
        replace b312 := Lib.hid b312
        clear hf1 hf2 hf3 hf4 hf5 hf6 gS hnW d0 d1 O11 g11
        go_upto_region 17 with fail
        obtain ⟨w12, hw12⟩ : ∃ x, w11.setCell ⟨G3, 3, none⟩ (.slice a11 (LL.length + 1) q11) = x := ⟨_, rfl⟩
        rw [hw12] at S12 hX12 W12a W12b b312 ⊢
        obtain ⟨g', cap'', p', e', he', _, hgl', _, _, _, _, _, c0, c1, c2, c3, c4⟩ := S12.out.at (i := i) (by have := hn.out; omega)
        obtain ⟨rfl, -, -⟩ : g = g' ∧ n = L1.length ∧ cap = cap'' := by simpa using he'
        have cR := S12.out.c0
        have y0 : w12.cell? ⟨G3, 0, none⟩ = some (.int .u8 k1) := by rw [cell_of_heap hX12.out]; rfl
        have y1 : w12.cell? ⟨G3, 1, none⟩ = some (.int .u32 k2) := by rw [cell_of_heap hX12.out]; rfl
        have y2 : w12.cell? ⟨G3, 2, none⟩ = some (.int .u32 k3) := by rw [cell_of_heap hX12.out]; rfl
        have y3 : w12.cell? ⟨G3, 3, none⟩ = some (.slice a11 (LL.length + 1) q11) := by rw [cell_of_heap hX12.out]; rfl
        have y4 : w12.cell? ⟨G3, 4, none⟩ = some (.slice a2 nl q2) := by rw [cell_of_heap hX12.out]; rfl
        have u0 := S12.out.froz (i * 5)
        have u1 := S12.out.froz (i * 5 + 1)
        have u2 := S12.out.froz (i * 5 + 2)
        have u3 := S12.out.froz (i * 5 + 3)
        have u4 := S12.out.froz (i * 5 + 4)
        have hput := S12.out.put (i := i) (by have := hn.out; omega) (k1, k2, k3) (va := .slice a11 (LL.length + 1) q11) (vb := .slice a2 nl q2) (l := (LL ++ [(t, M)], l.2)) W12a.out W12b.out
        obtain ⟨hp1, hp2⟩ := hput
        have hRq : R = (true, L1.set i ((k1, k2, k3), (LL ++ [(t, M)], l.2))) := by have h := hRun2.out; simpa using h
        have hfin := ask_end (v0 := v) (N := N) hRq hp1 hFr.out ((Two.of0 (b1 := RB) (b2 := v.ownBlock.getD RB) (by rw [hN.out]; exact hBk.out)).trans (frame_two g3'.out (by rw [hG3.out]; exact b312.out) hp2 rfl (fun g hg => (hv''.out g hg).imp id fun h => by have := hs1.out; omega)))
        clear hRq
        replace hfin := Lib.hid hfin
        clear hp1 hp2 hw12 he'
        first | go_region | fail
        all_goals (
          go_wp2
          go_ret
          first
            | exact ⟨by rw [hfin.out.1]; rfl, hfin.out.2⟩
            | exact ⟨by rw [hfin.out.1]; rfl, (ask_drew hfin.out).2⟩)
    · have hfin : R.1 = false ∧ AskF w7 RB N v R.2 ∧ Two RB (v.ownBlock.getD RB) w w7 := by
        have h := hRun.out
        simp only [if_true] at h
        subst h
        obtain ⟨h1, _, _, _, _, h2⟩ := hfar.out _ B7.out
        have hb : Two RB (v.ownBlock.getD RB) w1 w7 := frame_none _ g3'.out (by rw [hG3.out]; exact h2)
        exact ⟨rfl, ⟨_, _, h1, hFr.out⟩, (Two.of0 (by rw [hN.out]; exact hBk.out)).trans hb⟩
      replace hfin := Lib.hid hfin
      go_wp2
      go_ret
      exact ⟨by rw [hfin.out.1]; rfl, hfin.out.2⟩
end Go.Proofs.Ytilknhackmccpaa
