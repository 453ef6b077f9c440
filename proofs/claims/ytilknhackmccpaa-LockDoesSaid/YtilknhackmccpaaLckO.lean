/- Package lock: Ask, its walk. -/
import Derived.Test.YtilknhackmccpaaLckN
set_option linter.unusedVariables false
set_option linter.unusedSimpArgs false
namespace Go.Proofs.Ytilknhackmccpaa
open Go.RowKit Go.Sort Go.Lib

theorem wants_of {w : World} {f : Ky → Option Value} {T : Tb} {TB b1 b2 : Nat} (S : TabIs w TB b1 b2 T f) (k : Ky) : ∃ a1 c1 a2 c2, (f k).getD noLk = .agg #[.slice a1 (T.F k).1.length c1, .slice a2 (T.F k).2.length c2] ∧ Wants w (.slice a1 (T.F k).1.length c1) (T.F k).1 ∧ Wants w (.slice a2 (T.F k).2.length c2) (T.F k).2 := by
  obtain ⟨a, b, e, h1, h2⟩ := S.at_ k
  obtain ⟨a1, c1, rfl, r1⟩ := id h1
  obtain ⟨a2, c2, rfl, r2⟩ := id h2
  exact ⟨a1, c1, a2, c2, e, h1, h2⟩
theorem TabIs.wantsAt {w : World} {f : Ky → Option Value} {T : Tb} {TB b1 b2 : Nat} (S : TabIs w TB b1 b2 T f) {k : Ky} {a b : Value} (hfv : (f k).getD noLk = .agg #[a, b]) : Wants w a (T.F k).1 ∧ Wants w b (T.F k).2 := by
  obtain ⟨a', b', e, h1, h2⟩ := S.at_ k
  rw [hfv] at e
  simp only [Value.agg.injEq, Array.mk.injEq, List.cons.injEq, and_true] at e
  obtain ⟨rfl, rfl⟩ := e
  exact ⟨h1, h2⟩
/-- A lock is stored at a key. -/
theorem TabIs.storeL {w : World} {f : Ky → Option Value} {T : Tb} {TB b1 b2 : Nat} (S : TabIs w TB b1 b2 T f) (hn : T.ks.length < 1000000) {k : Ky} (hk : KyOk k) {a b : Value} {l : Lk} (h1 : Wants w a l.1) (h2 : Wants w b l.2) :
    ∃ w', (Instr.mapUpdate 72 (.map (some b1)) (kyV k) (.agg #[a, b])).run Try.prog w = .ok () w' ∧ TabIs w' TB b1 b2 ⟨insK T.ks k, setF T.F k l, T.hs, T.W⟩ (putF f k (.agg #[a, b])) ∧ w.grownBy w' (some b1) := by
  obtain ⟨w', hrun, hM, hg⟩ := S.locks.store Try.underlying72 (k := k) hk (.agg #[a, b]) (ks' := insK T.ks k) ⟨insR_len _ _ _, insK_mem T.ks k⟩ (by unfold maxLen; omega)
  refine ⟨w', hrun, S.turn1 hg hM (insK_rise S.sorted k) fun k' => ?_, hg⟩
  by_cases e : k' = k
  · subst e
    exact ⟨a, b, by simp [putF], by simpa [setF] using h1, by simpa [setF] using h2⟩
  · obtain ⟨a', b', e1, e2, e3⟩ := S.at_ k'
    exact ⟨a', b', by simpa [putF, e] using e1, by simpa [setF, e] using e2, by simpa [setF, e] using e3⟩
/-- Who waits for what is stored. -/
theorem TabIs.storeW {w : World} {f : Ky → Option Value} {T : Tb} {TB b1 b2 : Nat} (S : TabIs w TB b1 b2 T f) (hn : T.hs.length < 1000000) {t : Int} (ht : U t) (h : Ky × Int) :
    ∃ w', (Instr.mapUpdate 73 (.map (some b2)) (.int .u32 t) (holdV h)).run Try.prog w = .ok () w' ∧ TabIs w' TB b1 b2 ⟨T.ks, T.F, insH T.hs t, setW T.W t (some h)⟩ f ∧ w.grownBy w' (some b2) := by
  obtain ⟨w', hrun, hM, hg⟩ := S.waits.store Try.underlying73 (k := t) ht (holdV h) (ks' := insH T.hs t) ⟨insR_len _ _ _, insH_mem T.hs t⟩ (by unfold maxLen; omega)
  have e : putF (fun t => (T.W t).map holdV) t (holdV h) = fun t' => (setW T.W t (some h) t').map holdV := by
    funext t'
    by_cases e : t' = t
    · subst e; simp [putF, setW]
    · simp [putF, setW, e]
  rw [e] at hM
  exact ⟨w', hrun, S.turn2 hg hM (insH_rise S.rising t), hg⟩

set_option maxRecDepth 100000 in
set_option maxHeartbeats 16000000 in
theorem ask_u {w : World} {TB b1 b2 : Nat} {T : Tb} {f : Ky → Option Value} (S : TabIs w TB b1 b2 T f) (hn : T.ks.length < 1000000) (hh : T.hs.length < 1000000) (t : Int) (ht : U t) (k : Ky) (hk : KyOk k) (m : Int) (hl1 : (T.F k).1.length < 900000) (hl2 : (T.F k).2.length < 900000) :
    Calls Try.prog 25 #[.pointer (some ⟨TB, 0, none⟩), .int .u32 t, .agg #[.int .u8 k.1, .int .u32 k.2.1, .int .u32 k.2.2], .int .u8 m] w fun e w' => ∃ f', e = .returned (.bool (askT T t k m).1) ∧ TabIs w' TB b1 b2 (askT T t k m).2 f' ∧ Two b1 b2 w w' := by
  obtain ⟨k1, k2, k3⟩ := k
  have B1 := below_alloc w (.cells #[.int .u8 k1, .int .u32 k2, .int .u32 k3] 38)
  have kb := heap_alloc_new w (.cells #[.int .u8 k1, .int .u32 k2, .int .u32 k3] 38)
  obtain ⟨N, hN⟩ : ∃ N, w.heap.size = N := ⟨_, rfl⟩
  obtain ⟨w1, hw1⟩ : ∃ x, w.alloc (.cells #[.int .u8 k1, .int .u32 k2, .int .u32 k3] 38) = x := ⟨_, rfl⟩
  have hs1 : w1.heap.size = N + 1 := by rw [← hw1, ← hN]; simp
  rw [hw1, hN] at kb B1
  have hB1 := Lib.hid B1
  obtain ⟨wm, hwm⟩ : ∃ x, askM m = x := ⟨_, rfl⟩
  have cut2 : ∀ x : Int, Hid (RowKit.Below N w (w1.alloc (.cells #[.int .u32 t, .int .u8 x] 77)) ∧ (w1.alloc (.cells #[.int .u32 t, .int .u8 x] 77)).heap[N]? = some (.cells #[.int .u8 k1, .int .u32 k2, .int .u32 k3] 38) ∧ (w1.alloc (.cells #[.int .u32 t, .int .u8 x] 77)).heap[N + 1]? = some (.cells #[.int .u32 t, .int .u8 x] 77)) := fun x => by
    have B2 := below_alloc w1 (.cells #[.int .u32 t, .int .u8 x] 77)
    have h := heap_alloc_new w1 (.cells #[.int .u32 t, .int .u8 x] 77)
    rw [hs1] at h
    exact Lib.hid ⟨B1.trans (B2.mono (by omega)), (B2.block N (by omega)).trans kb, h⟩
  have hT1 := Lib.hid S
  have hkk := Lib.hid hk
  have htt := Lib.hid ht
  obtain ⟨R, hR⟩ : ∃ R, askT T t (k1, k2, k3) m = R := ⟨_, rfl⟩
  rw [hR]
  replace hR := Lib.hid hR
  clear S hk ht kb B1
  go_enter Try.func25, Try.ntmps25
  go_upto_region 1 with fail
  clear hw1
  replace hN := Lib.hid hN
  go_upto_if 18 with fail
  go_cut [19, 20] (fun _ _ wx => Hid (RowKit.Below N w wx ∧ wx.heap[N]? = some (.cells #[.int .u8 k1, .int .u32 k2, .int .u32 k3] 38) ∧ wx.heap[N + 1]? = some (.cells #[.int .u32 t, .int .u8 wm] 77)))
  case first =>
    by_cases hm1 : m = 1
    · subst hm1
      obtain rfl : wm = 1 := by rw [← hwm]; rfl
      have hc := cut2 1
      clear cut2
      go_wp2
      go_meet
      exact hc
    · obtain rfl : wm = 2 := by rw [← hwm, askM, if_neg hm1]
      have hc := cut2 2
      clear cut2
      go_wp2
      go_meet
      exact hc
  case rest =>
  have hX := hcut
  clear cut2 hcut
  have S1 := hT1.out.below hX.out.1 (by have := hN.out; omega)
  obtain ⟨a1, c1, a2, c2, hfv, hA, hB⟩ := wants_of S1 (k1, k2, k3)
  have kw := hX.out.2.2
  have kb := hX.out.2.1
  have lW : N + 1 < wc.heap.size := (Array.getElem?_eq_some_iff.1 kw).1
  have lK : N < wc.heap.size := by omega
  have lT := S1.lt
  obtain ⟨b0, b1', b2'⟩ := three_cells kb
  have c0 := S1.c0
  obtain ⟨n1, hn1⟩ : ∃ n, (T.F (k1, k2, k3)).1.length = n := ⟨_, rfl⟩
  obtain ⟨n2, hn2⟩ : ∃ n, (T.F (k1, k2, k3)).2.length = n := ⟨_, rfl⟩
  rw [hn1] at hfv hA hl1
  rw [hn2] at hfv hB hl2
  replace hn1 := Lib.hid hn1
  replace hn2 := Lib.hid hn2
  have hkeep : Hid (∀ w', RowKit.Below wc.heap.size wc w' → w'.cell? ⟨TB, 0, none⟩ = some (.map (some b1)) ∧ w'.cell? ⟨N, 0, none⟩ = some (.int .u8 k1) ∧ w'.cell? ⟨N, 1, none⟩ = some (.int .u32 k2) ∧ w'.cell? ⟨N, 2, none⟩ = some (.int .u32 k3) ∧
          (Instr.lookup 72 (.map (some b1)) (.agg #[.int .u8 k1, .int .u32 k2, .int .u32 k3]) false).run Try.prog w' = .ok (.agg #[.slice a1 n1 c1, .slice a2 n2 c2]) w') := Lib.hid fun w' h => by
    have S3 := S1.below h (Nat.le_refl _)
    have hl := S3.lookL hkk.out
    rw [hfv] at hl
    exact ⟨S3.c0, (h.cell (p := ⟨N, 0, none⟩) lK).trans b0, (h.cell (p := ⟨N, 1, none⟩) lK).trans b1', (h.cell (p := ⟨N, 2, none⟩) lK).trans b2', hl⟩
  replace kw := Lib.hid kw
  replace kb := Lib.hid kb
  replace S1 := Lib.hid S1
  replace hfv := Lib.hid hfv
  clear b0 b1' b2' c0
  go_upto_region 4 with fail
  obtain ⟨L0, hL0⟩ : ∃ x, wc.heap.size = x := ⟨_, rfl⟩
  go_cut [10, 21, 22, 23, 24, 25, 26] (fun v10 _ _ _ _ _ _ wx => v10 = .pointer (some ⟨L0, 0, none⟩) ∧ Hid (LockB wx L0 (.slice a1 n1 c1) (.slice a2 n2 c2)) ∧ Hid (RowKit.Below L0 wc wx))
  case first =>
    go_region_held2 (fun w' => w'.cell? ⟨TB, 0, none⟩ = some (.map (some b1)) ∧ w'.cell? ⟨N, 0, none⟩ = some (.int .u8 k1) ∧ w'.cell? ⟨N, 1, none⟩ = some (.int .u32 k2) ∧ w'.cell? ⟨N, 2, none⟩ = some (.int .u32 k3) ∧
          (Instr.lookup 72 (.map (some b1)) (.agg #[.int .u8 k1, .int .u32 k2, .int .u32 k3]) false).run Try.prog w' = .ok (.agg #[.slice a1 n1 c1, .slice a2 n2 c2]) w')
        (first | exact hkeep.out _ (RowKit.Below.refl _ _).drew | exact hkeep.out _ (below_alloc _ _).drew | exact hkeep.out _ (below_alloc _ _) | go_keep)
        (fail)
    all_goals (
      go_wp2
      go_meet
      subst hL0
      exact ⟨rfl, Lib.hid (heap_alloc_new wc (.cells #[.slice a1 n1 c1, .slice a2 n2 c2] 80)), Lib.hid (below_alloc wc _).drew⟩)
  case rest =>
  obtain ⟨rfl, LB, Bc⟩ := hcut
  have S3 := Lib.hid (S1.out.below Bc.out (by omega))
  have kb3 := Lib.hid ((Bc.out.block N (by omega)).trans kb.out)
  have kw3 := Lib.hid ((Bc.out.block (N + 1) (by omega)).trans kw.out)
  have A3 := Lib.hid (hA.keep Bc.out (by omega))
  have L3 := Lib.hid (hB.keep Bc.out (by omega))
  have B3 := Lib.hid (hX.out.1.trans (Bc.out.mono (by omega)))
  have hNL : N + 1 < L0 := by omega
  clear S1 kb kw hA hB hX Bc hL0 hkeep lW lK lT
  have e0 := LB.out.c0
  have lL := LB.out.lt
  have hm := mode_u _ _ t _ A3.out
  obtain ⟨has, hhas⟩ : ∃ x, modeL (T.F (k1, k2, k3)).1 t = x := ⟨_, rfl⟩
  rw [hhas] at hm
  replace hhas := Lib.hid hhas
  go_upto_region 6 with (go_at_call 44; refine hm.mono ?_; rintro e w4 ⟨rfl, b4⟩)
  have S4 := Lib.hid (S3.out.below b4 (Nat.le_refl _))
  have kb4 := Lib.hid ((b4.block N (by omega)).trans kb3.out)
  have kw4 := Lib.hid ((b4.block (N + 1) (by omega)).trans kw3.out)
  have A4 := Lib.hid (A3.out.keep b4 (Nat.le_refl _))
  have L4 := Lib.hid (L3.out.keep b4 (Nat.le_refl _))
  have LB4 := Lib.hid (LB.out.below b4 lL)
  have B4 := Lib.hid (B3.out.trans (b4.mono (by omega)))
  have f1 : w4.cell? ⟨N + 1, 1, none⟩ = some (.int .u8 wm) := by rw [cell_of_heap kw4.out]; rfl
  clear S3 kb3 kw3 A3 L3 B3 LB e0 lL hm b4
  obtain ⟨q, hq⟩ : ∃ q, (has == 2) = q := ⟨_, rfl⟩
  obtain ⟨q2, hq2⟩ : ∃ q, (has == wm) = q := ⟨_, rfl⟩
  have hR2 : Hid ((q || q2) = true → R = (true, T)) := Lib.hid fun h => by
    rw [← hR.out, askT, hhas.out, hwm, if_pos]
    rw [← hq, ← hq2] at h
    simpa using h
  have hTrue : Hid ((q || q2) = true → ∃ f', Ending.returned (.bool true) = Ending.returned (.bool R.1) ∧ TabIs w4 TB b1 b2 R.2 f' ∧ Two b1 b2 w w4) := Lib.hid fun h => by
    rw [hR2.out h]
    exact ⟨f, rfl, S4.out, Two.of0 (by rw [hN.out]; exact B4.out)⟩
  cases q
  · have hq' : ¬ has = 2 := by simpa using hq
    cases q2
    · have hq2' : ¬ has = wm := by simpa using hq2
      have hq3 : Hid ¬ (has = 2 ∨ has = wm) := Lib.hid (by rintro (h | h); exact hq' h; exact hq2' h)
      clear hR2 hTrue
      go_upto_region 8 with fail
      clear hq hq2
      have c1 := S4.out.c1
      have lT4 := S4.out.lt
      have lN4 : N + 1 < w4.heap.size := (Array.getElem?_eq_some_iff.1 kw4.out).1
      have lL4 := LB4.out.lt
      have hlw := (S4.out.lookW htt.out).1
      obtain ⟨⟨⟨h1, h2, h3⟩, h4⟩, hW⟩ : ∃ h, (T.W t).getD ((0, 0, 0), 0) = h := ⟨_, rfl⟩
      obtain ⟨q9, hq9⟩ : ∃ b, (T.W t).isSome = b := ⟨_, rfl⟩
      rw [hW, hq9] at hlw
      simp only [holdV] at hlw
      clear hW
      replace hq9 := Lib.hid hq9
      cases q9
      · have b5 := below_alloc w4 (.cells #[.int .u8 h1, .int .u32 h2, .int .u32 h3, .int .u8 h4] 54)
        have S5 := Lib.hid (S4.out.below b5 (Nat.le_refl _))
        have kb5 := Lib.hid ((b5.block N (by omega)).trans kb4.out)
        have kw5 := Lib.hid ((b5.block (N + 1) (by omega)).trans kw4.out)
        have A5 := Lib.hid (A4.out.keep b5 (Nat.le_refl _))
        have L5 := Lib.hid (L4.out.keep b5 (Nat.le_refl _))
        have LB5 := Lib.hid (LB4.out.below b5 lL4)
        have B5 := Lib.hid (B4.out.trans (b5.mono (by omega)))
        go_upto_region 11 with fail
        obtain ⟨w5, hw5⟩ : ∃ x, w4.alloc (.cells #[.int .u8 h1, .int .u32 h2, .int .u32 h3, .int .u8 h4] 54) = x := ⟨_, rfl⟩
        rw [hw5] at S5 kb5 kw5 A5 L5 LB5 B5 ⊢
        clear hw5 b5 S4 kb4 kw4 A4 L4 LB4 B4 hlw f1 c1
        have g0 : w5.cell? ⟨N + 1, 0, none⟩ = some (.int .u32 t) := by rw [cell_of_heap kw5.out]; rfl
        have g1 : w5.cell? ⟨N + 1, 1, none⟩ = some (.int .u8 wm) := by rw [cell_of_heap kw5.out]; rfl
        have hfr := free_u L0 _ _ (t, wm) w5 LB5.out.lt LB5.out.c0 A5.out
        obtain ⟨fr, hfree⟩ : ∃ x, freeB (T.F (k1, k2, k3)).1 (t, wm) = x := ⟨_, rfl⟩
        rw [hfree] at hfr
        obtain ⟨got, hgot⟩ : ∃ x, (fr && (has != 0 || n2 == 0)) = x := ⟨_, rfl⟩
        have hlc := Lib.hid LB5.out.c1
        go_cut [14, 49, 50, 51, 52, 53, 54, 55, 56, 57, 58, 59, 60] (fun v14 _ _ _ _ _ _ _ _ _ _ _ _ wx => v14 = .bool got ∧ Hid (RowKit.Below w5.heap.size w5 wx))
        case first =>
          cases fr
          · obtain rfl : got = false := by rw [← hgot]; rfl
            go_wp2_with (go_at_call 45; refine hfr.mono ?_; rintro e w6 ⟨rfl, b6⟩)
            go_meet
            exact ⟨rfl, Lib.hid b6⟩
          · by_cases h0 : has = 0
            · subst h0
              have hz : ((n2 : Int) == 0) = got := by
                rw [← hgot, Bool.eq_iff_iff]
                simp
              clear hgot
              go_wp2_with (go_at_call 45; refine hfr.mono ?_; rintro e w6 ⟨rfl, b6⟩; have e6 := (b6.cell (p := ⟨L0, 1, none⟩) LB5.out.lt).trans hlc.out)
              go_meet
              exact ⟨rfl, Lib.hid b6⟩
            · obtain rfl : got = true := by rw [← hgot]; simp [h0]
              have hz : (has != 0) = true := by simp [h0]
              clear hgot
              go_wp2_with (go_at_call 45; refine hfr.mono ?_; rintro e w6 ⟨rfl, b6⟩)
              go_meet
              exact ⟨rfl, Lib.hid b6⟩
        case rest =>
        obtain ⟨rfl, B6⟩ := hcut
        have Bn := Lib.hid (B5.out.trans (B6.out.mono (by have := (Array.getElem?_eq_some_iff.1 kw5.out).1; omega)))
        have kb6 := Lib.hid ((B6.out.block N (by have := (Array.getElem?_eq_some_iff.1 kb5.out).1; omega)).trans kb5.out)
        have kw6 := Lib.hid ((B6.out.block (N + 1) (by have := (Array.getElem?_eq_some_iff.1 kw5.out).1; omega)).trans kw5.out)
        have LB6 := Lib.hid (LB5.out.below B6.out LB5.out.lt)
        have hgf : Hid (R = if got = true then (true, ⟨insK T.ks (k1, k2, k3), setF T.F (k1, k2, k3) (notL (T.F (k1, k2, k3)).1 t ++ [(t, wm)], (T.F (k1, k2, k3)).2), T.hs, T.W⟩) else (false, ⟨insK T.ks (k1, k2, k3), setF T.F (k1, k2, k3) ((T.F (k1, k2, k3)).1, insL (T.F (k1, k2, k3)).2 (place (T.F (k1, k2, k3)).1 (T.F (k1, k2, k3)).2 t) (t, wm)), insH T.hs t, setW T.W t (some ((k1, k2, k3), wm))⟩)) := by
          rw [← hR.out, askT, hhas.out, hwm, if_neg hq3.out, if_neg (by rw [hq9.out]; decide), hfree, hn2.out, hgot]
          exact Lib.hid rfl
        clear kb5 kw5 A5 L5 LB5 B5 B6 hfr hlc g0 g1 S5
        have S6 := Lib.hid (hT1.out.below Bn.out (by have := hN.out; omega))
        have hWa := Lib.hid (S6.out.wantsAt hfv.out).1
        have hWb := Lib.hid (S6.out.wantsAt hfv.out).2
        have hNb1 : Hid (b1 < N ∧ b2 < N ∧ TB < N ∧ TB ≠ b1 ∧ TB ≠ b2) := Lib.hid ⟨by have := hT1.out.locks.lt; have := hN.out; omega, by have := hT1.out.waits.lt; have := hN.out; omega, by have := hT1.out.lt; have := hN.out; omega, hT1.out.n1, hT1.out.n2⟩
        have g0 : wc.cell? ⟨N + 1, 0, none⟩ = some (.int .u32 t) := by rw [cell_of_heap kw6.out]; rfl
        have g1 : wc.cell? ⟨N + 1, 1, none⟩ = some (.int .u8 wm) := by rw [cell_of_heap kw6.out]; rfl
        go_upto_if 61 with fail
        go_cut [62, 63, 64, 65, 66, 67, 68, 69, 70, 71, 72, 73, 74] (fun _ _ _ _ _ _ _ _ _ _ _ _ _ wx => ∃ (T2 : Tb) (v1 v2 : Value) (l : Lk), Hid (TabIs wx TB b1 b2 T2 f) ∧ Hid (T2.ks = T.ks ∧ T2.F = T.F ∧ R = (got, ⟨insK T.ks (k1, k2, k3), setF T.F (k1, k2, k3) l, T2.hs, T2.W⟩)) ∧ Hid (LockB wx L0 v1 v2) ∧ Hid (Wants wx v1 l.1 ∧ Wants wx v2 l.2) ∧ Hid (Two b1 b2 w wx) ∧ Hid (wx.heap[N]? = some (.cells #[.int .u8 k1, .int .u32 k2, .int .u32 k3] 38)))
        case first =>
          cases got
          · have hw := wait_u L0 (.slice a1 n1 c1) (.slice a2 n2 c2) _ _ (t, wm) wc LB6.out hWa.out hWb.out (by rw [hn2.out]; omega)
            go_upto_region 15 with (go_at_call 47; refine hw.mono ?_; rintro e w7 ⟨v7, rfl, o7, LB7, g7⟩)
            have B7 := Bn.out.trans (below_of_grown g7 (by intro j hj; cases hj; omega) (by have := Bn.out.size; have := hN.out; omega))
            have S7 := (hT1.out.below B7 (by have := hN.out; omega)).below (RowKit.Below.refl w7.heap.size w7).drew (Nat.le_refl _)
            have kb7 := (g7.block N (Array.getElem?_eq_some_iff.1 kb6.out).1 (by simp; omega)).trans kb6.out
            have kw7 := (g7.block (N + 1) (Array.getElem?_eq_some_iff.1 kw6.out).1 (by simp; omega)).trans kw6.out
            obtain ⟨w8, hrun, S8, g8⟩ := S7.storeW hh htt.out ((k1, k2, k3), wm)
            simp only [holdV] at hrun
            have c1' : w7.cell? ⟨TB, 1, none⟩ = some (.map (some b2)) := S7.c1
            obtain ⟨e0, e1, e2⟩ := three_cells kb7
            have e3 : w7.cell? ⟨N + 1, 1, none⟩ = some (.int .u8 wm) := by rw [cell_of_heap kw7]; rfl
            have lT7 := (hT1.out.below B7 (by have := hN.out; omega)).lt
            have lN7 : N < w7.heap.size := (Array.getElem?_eq_some_iff.1 kb7).1
            have lW7 : N + 1 < w7.heap.size := (Array.getElem?_eq_some_iff.1 kw7).1
            have hkp : Hid (w8.cell? ⟨TB, 1, none⟩ = some (.map (some b2)) ∧ w8.cell? ⟨N, 0, none⟩ = some (.int .u8 k1) ∧ w8.cell? ⟨N, 1, none⟩ = some (.int .u32 k2) ∧ w8.cell? ⟨N, 2, none⟩ = some (.int .u32 k3) ∧ w8.cell? ⟨N + 1, 1, none⟩ = some (.int .u8 wm)) := by
              have h := hNb1.out
              exact Lib.hid ⟨(g8.cell_far ⟨TB, 1, none⟩ lT7 (by simp; exact h.2.2.2.2)).trans c1', (g8.cell_far ⟨N, 0, none⟩ lN7 (by simp; omega)).trans e0, (g8.cell_far ⟨N, 1, none⟩ lN7 (by simp; omega)).trans e1, (g8.cell_far ⟨N, 2, none⟩ lN7 (by simp; omega)).trans e2, (g8.cell_far ⟨N + 1, 1, none⟩ lW7 (by simp; omega)).trans e3⟩
            have hend : Hid (∃ (T2 : Tb) (v1 v2 : Value) (l : Lk), Hid (TabIs w8 TB b1 b2 T2 f) ∧ Hid (T2.ks = T.ks ∧ T2.F = T.F ∧ R = (false, ⟨insK T.ks (k1, k2, k3), setF T.F (k1, k2, k3) l, T2.hs, T2.W⟩)) ∧ Hid (LockB w8 L0 v1 v2) ∧ Hid (Wants w8 v1 l.1 ∧ Wants w8 v2 l.2) ∧ Hid (Two b1 b2 w w8) ∧ Hid (w8.heap[N]? = some (.cells #[.int .u8 k1, .int .u32 k2, .int .u32 k3] 38))) := by
              have h := hNb1.out
              refine Lib.hid ⟨_, _, _, ((T.F (k1, k2, k3)).1, insL (T.F (k1, k2, k3)).2 (place (T.F (k1, k2, k3)).1 (T.F (k1, k2, k3)).2 t) (t, wm)), Lib.hid S8, Lib.hid ⟨rfl, rfl, ?_⟩, Lib.hid ((show LockB w7.drew L0 _ _ from LB7).kept g8 (by simp; omega)), Lib.hid ⟨(S8.wantsAt hfv.out).1, (show Wants w7.drew v7 _ from o7.wants).two (b1 := b1) (Two.of2 g8) S7.locks.nocells S7.waits.nocells⟩, Lib.hid ((Two.of0 (by rw [hN.out]; exact B7.drew)).trans (Two.of2 g8)), Lib.hid ((g8.block N lN7 (by simp; omega)).trans kb7)⟩
              rw [hgf.out]
              rfl
            replace S7 := Lib.hid S7
            replace S8 := Lib.hid S8
            replace g8 := Lib.hid g8
            replace kb7 := Lib.hid kb7
            replace kw7 := Lib.hid kw7
            clear hw g0 g1 B7 o7 g7
            go_region_held2 (fun w' => w'.cell? ⟨TB, 1, none⟩ = some (.map (some b2)) ∧ w'.cell? ⟨N, 0, none⟩ = some (.int .u8 k1) ∧ w'.cell? ⟨N, 1, none⟩ = some (.int .u32 k2) ∧ w'.cell? ⟨N, 2, none⟩ = some (.int .u32 k3) ∧ w'.cell? ⟨N + 1, 1, none⟩ = some (.int .u8 wm))
              (first | exact ⟨c1', e0, e1, e2, e3⟩ | exact hkp.out | go_keep)
              (fail)
            all_goals (
              go_wp2
              go_meet
              exact hend.out)
          · have hw := give_u L0 (.slice a1 n1 c1) (.slice a2 n2 c2) _ (t, wm) wc LB6.out hWa.out (by rw [hn1.out]; omega)
            go_wp2_with (go_at_call 46; refine hw.mono ?_; rintro e w7 ⟨v7, rfl, o7, LB7, g7⟩)
            have B7 := Bn.out.trans (below_of_grown g7 (by intro j hj; cases hj; omega) (by have := Bn.out.size; have := hN.out; omega))
            have S7 := hT1.out.below B7 (by have := hN.out; omega)
            have kb7 := (g7.block N (Array.getElem?_eq_some_iff.1 kb6.out).1 (by simp; omega)).trans kb6.out
            go_meet
            refine ⟨T, _, _, (notL (T.F (k1, k2, k3)).1 t ++ [(t, wm)], (T.F (k1, k2, k3)).2), Lib.hid S7, Lib.hid ⟨rfl, rfl, ?_⟩, Lib.hid LB7, Lib.hid ⟨o7.wants, (S7.wantsAt hfv.out).2⟩, Lib.hid (Two.of0 (by rw [hN.out]; exact B7)), Lib.hid kb7⟩
            rw [hgf.out]
            rfl
        case rest =>
        obtain ⟨T2, v1, v2, l, S8, hR8, LB8, hW8, hT8, kb8⟩ := hcut
        have S7 := S8.out.below (RowKit.Below.refl wc.heap.size wc).drew (Nat.le_refl _)
        obtain ⟨w9, hrun, S9, g9⟩ := S7.storeL (by rw [hR8.out.1]; exact hn) hkk.out (a := v1) (b := v2) (l := l) hW8.out.1 hW8.out.2
        simp only [kyV] at hrun
        have c0' := S8.out.c0
        obtain ⟨e0, e1, e2⟩ := three_cells kb8.out
        have e3 := LB8.out.c0
        have e4 := LB8.out.c1
        have lT8 := S8.out.lt
        have lN8 : N < wc.heap.size := (Array.getElem?_eq_some_iff.1 kb8.out).1
        have lL8 := LB8.out.lt
        have hkp : Hid (w9.cell? ⟨TB, 0, none⟩ = some (.map (some b1)) ∧ w9.cell? ⟨N, 0, none⟩ = some (.int .u8 k1) ∧ w9.cell? ⟨N, 1, none⟩ = some (.int .u32 k2) ∧ w9.cell? ⟨N, 2, none⟩ = some (.int .u32 k3) ∧ w9.cell? ⟨L0, 0, none⟩ = some v1 ∧ w9.cell? ⟨L0, 1, none⟩ = some v2) := by
          have h := hNb1.out
          exact Lib.hid ⟨(g9.cell_far ⟨TB, 0, none⟩ lT8 (by simp; exact h.2.2.2.1)).trans c0', (g9.cell_far ⟨N, 0, none⟩ lN8 (by simp; omega)).trans e0, (g9.cell_far ⟨N, 1, none⟩ lN8 (by simp; omega)).trans e1, (g9.cell_far ⟨N, 2, none⟩ lN8 (by simp; omega)).trans e2, (g9.cell_far ⟨L0, 0, none⟩ lL8 (by simp; omega)).trans e3, (g9.cell_far ⟨L0, 1, none⟩ lL8 (by simp; omega)).trans e4⟩
        have hend : Hid (∃ f', Ending.returned (.bool got) = Ending.returned (.bool R.1) ∧ TabIs w9 TB b1 b2 R.2 f' ∧ Two b1 b2 w w9) := by
          refine Lib.hid ⟨putF f (k1, k2, k3) (.agg #[v1, v2]), by rw [hR8.out.2.2], ?_, (hT8.out.trans (Two.of0 (RowKit.Below.refl wc.heap.size wc).drew)).trans (Two.of1 g9)⟩
          rw [hR8.out.2.2]
          rw [hR8.out.1, hR8.out.2.1] at S9
          exact S9
        replace S7 := Lib.hid S7
        replace S9 := Lib.hid S9
        replace g9 := Lib.hid g9
        clear g0 g1
        go_upto_region 16 with fail
        go_region_held2 (fun w' => w'.cell? ⟨TB, 0, none⟩ = some (.map (some b1)) ∧ w'.cell? ⟨N, 0, none⟩ = some (.int .u8 k1) ∧ w'.cell? ⟨N, 1, none⟩ = some (.int .u32 k2) ∧ w'.cell? ⟨N, 2, none⟩ = some (.int .u32 k3) ∧ w'.cell? ⟨L0, 0, none⟩ = some v1 ∧ w'.cell? ⟨L0, 1, none⟩ = some v2)
          (first | exact ⟨c0', e0, e1, e2, e3, e4⟩ | exact hkp.out | go_keep)
          (fail)
        all_goals (
          go_wp2
          go_ret
          exact hend.out)
      · have hR3 : R = (false, T) := by rw [← hR.out, askT, hhas.out, hwm, if_neg hq3.out, if_pos hq9.out]
        replace hR3 := Lib.hid hR3
        go_wp2
        go_ret
        rw [hR3.out]
        have b5 := below_alloc w4 (.cells #[.int .u8 h1, .int .u32 h2, .int .u32 h3, .int .u8 h4] 54)
        exact ⟨f, rfl, S4.out.below b5 (Nat.le_refl _), Two.of0 (by rw [hN.out]; exact B4.out.trans (b5.mono (by omega)))⟩
    · obtain rfl : has = wm := by simpa using hq2
      clear hq hq2
      go_wp2
      go_ret
      exact hTrue.out rfl
  · obtain rfl : has = 2 := by simpa using hq
    clear hq hq2
    go_wp2
    go_ret
    exact hTrue.out rfl
end Go.Proofs.Ytilknhackmccpaa
