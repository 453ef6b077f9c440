/- Package lock: Release, its walk. -/
import Derived.Test.YtilknhackmccpaaLckQ
set_option linter.unusedVariables false
set_option linter.unusedSimpArgs false
namespace Go.Proofs.Ytilknhackmccpaa
open Go.RowKit Go.Sort Go.Lib Go.Maps

set_option maxRecDepth 100000 in
set_option maxHeartbeats 16000000 in
theorem release_u {w : World} {TB b1 b2 : Nat} {T : Tb} {f : Ky → Option Value} (S : TabIs w TB b1 b2 T f) {n0 : Nat} (hfit : Fit T n0 n0) (hn0 : n0 ≤ 900) (t : Int) (ht : U t) :
    Calls Try.prog 26 #[.pointer (some ⟨TB, 0, none⟩), .int .u32 t] w fun e w' => ∃ f' v, e = .returned v ∧ TabIs w' TB b1 b2 (relT T t).1 f' ∧ w'.ownsInts w.heap.size 23 .u32 v (relT T t).2 ∧ Two b1 b2 w w' := by
  have hK := keys_u S (by have := hfit.keys; omega)
  have hok : Hid (∀ k ∈ T.ks, KyOk k) := Lib.hid S.locks.2.2
  have htt := Lib.hid ht
  obtain ⟨n, hnn⟩ : ∃ n, T.ks.length = n := ⟨_, rfl⟩
  obtain ⟨R, hR⟩ : ∃ R, w.heap.size = R := ⟨_, rfl⟩
  have hn : n ≤ 900 := by have := hfit.keys; omega
  have hF := Lib.hid hfit
  have hlow : Hid (b1 < R ∧ b2 < R ∧ TB < R ∧ TB ≠ b1 ∧ TB ≠ b2) := Lib.hid ⟨by rw [← hR]; exact S.locks.lt, by rw [← hR]; exact S.waits.lt, by rw [← hR]; exact S.lt, S.n1, S.n2⟩
  rw [hnn] at hK
  rw [hR] at hK ⊢
  have hRel : Hid (relT T t = (dropW (relFold t (T.ks.take n) T).1 t, (relFold t (T.ks.take n) T).2)) := Lib.hid (by rw [← hnn, List.take_length]; rfl)
  rw [hRel.out]
  go_enter Try.func26, Try.ntmps26
  go_wp2_with (go_at_call 48; refine hK.mono ?_; rintro e w1 ⟨a, cap, rfl, KA, B1⟩)
  have S1 := S.below B1 (by omega)
  have KA1 := Lib.hid KA
  have BB1 := Lib.hid B1
  have hnc : Hid ((∀ cs ty fr, w1.heap[b1]? ≠ some (.cells cs ty fr)) ∧ ∀ cs ty fr, w1.heap[b2]? ≠ some (.cells cs ty fr)) := Lib.hid ⟨S1.locks.nocells, S1.waits.nocells⟩
  obtain ⟨G, hG⟩ : ∃ G, w1.heap.size = G := ⟨_, rfl⟩
  have hRG : R ≤ G := by rw [← hG, ← hR]; exact B1.size
  replace hG := Lib.hid hG
  have hS0 : Hid (∃ f', TabIs w1 TB b1 b2 (relFold t (T.ks.take 0) T).1 f') := Lib.hid ⟨f, S1⟩
  have hO0 : Hid (w1.ownsInts G 23 .u32 (.slice none 0 0) (relFold t (T.ks.take 0) T).2) := Lib.hid (World.ownsInts_nil w1 G _ _)
  have hB0 : Hid (Two b1 b2 w1 w1) := Lib.hid (Two.refl _ _ _)
  have hST := Lib.hid S1
  clear S KA B1 hK S1 hfit ht
  go_loopw [5, 13] (fun u5 u13 wr => ∃ i : Nat, u13 = .int .i64 i ∧ i ≤ n ∧ Hid (∃ f', TabIs wr TB b1 b2 (relFold t (T.ks.take i) T).1 f') ∧ Hid (wr.ownsInts G 23 .u32 u5 (relFold t (T.ks.take i) T).2) ∧ Hid (Two b1 b2 w1 wr)) (fun _ u13 _ => n - (intOf u13).toNat)
  case atStart => exact ⟨0, rfl, Nat.zero_le _, hS0, hO0, hB0⟩
  case round =>
    clear hO0 hB0 hS0
    obtain ⟨i, rfl, hi, S, O, B⟩ := hrel
    by_cases hin : i < n
    · obtain ⟨k, hk⟩ : ∃ k, T.ks[i]? = some k := ⟨_, List.getElem?_eq_getElem (by omega)⟩
      obtain ⟨eb, rfl, hlt, hcc⟩ := (KA1.out.two B.out hnc.out.1 hnc.out.2) (by rintro e; rw [e] at hk; cases hk)
      obtain ⟨c0, c1, c2⟩ := hcc i k hk
      have hkok := Lib.hid (hok.out k (List.mem_of_getElem? hk))
      have hii : (i : Int) < (n : Int) := by omega
      have hGw : G ≤ wr.heap.size := by rw [← hG.out]; exact B.out.size
      have hsuc := Lib.hid (relFold_take (t := t) hk)
      obtain ⟨f1, S1⟩ := S.out
      obtain ⟨hft, hfo, hfu⟩ := relFold_fit t (T.ks.take i) T n0 n0 hF.out
      have hil : (T.ks.take i).length ≤ i := by rw [List.length_take]; omega
      obtain ⟨T1, hT1⟩ : ∃ x, (relFold t (T.ks.take i) T).1 = x := ⟨_, rfl⟩
      obtain ⟨out1, ho1⟩ : ∃ x, (relFold t (T.ks.take i) T).2 = x := ⟨_, rfl⟩
      rw [hT1] at S1 hft
      rw [ho1] at O hfo hfu
      have hsuc2 : Hid (relFold t (T.ks.take (i + 1)) T = ((relStep t T1 k).1, out1 ++ (relStep t T1 k).2)) := Lib.hid (by rw [hsuc.out, hT1, ho1])
      have hol : out1.length ≤ 810000 := by
        have h1 : n0 * (T.ks.take i).length ≤ 900 * 900 := Nat.mul_le_mul hn0 (by omega)
        omega
      replace hT1 := Lib.hid hT1
      replace ho1 := Lib.hid ho1
      clear hsuc hfo S hcc
      replace hft := Lib.hid hft
      replace hfu := Lib.hid hfu
      obtain ⟨k1, k2, k3⟩ := k
      simp only at c0 c1 c2
      have nb := heap_alloc_new wr (.cells #[.int .u8 k1, .int .u32 k2, .int .u32 k3] 38)
      have Ba := below_alloc wr (.cells #[.int .u8 k1, .int .u32 k2, .int .u32 k3] 38)
      have S2 := S1.below Ba (Nat.le_refl _)
      have O2 := Lib.hid (O.out.alloc (.cells #[.int .u8 k1, .int .u32 k2, .int .u32 k3] 38))
      have B2 := Lib.hid (B.out.row (World.grownBy_alloc wr (.cells #[.int .u8 k1, .int .u32 k2, .int .u32 k3] 38) none) (by simp))
      go_upto_region 5 with fail
      obtain ⟨KB, hKB⟩ : ∃ x, x = wr.heap.size := ⟨_, rfl⟩
      obtain ⟨wa, hwa⟩ : ∃ x, x = wr.alloc (.cells #[.int .u8 k1, .int .u32 k2, .int .u32 k3] 38) := ⟨_, rfl⟩
      rw [← hwa] at B2 S2 O2 nb ⊢
      rw [← hKB] at nb ⊢
      have hKR : G ≤ KB := by omega
      clear hwa hKB O B c0 c1 c2 hGw Ba S1 hlt
      obtain ⟨a1, c1, a2, c2, hfv, hA, hB⟩ := wants_of S2 (k1, k2, k3)
      have lK : KB < wa.heap.size := (Array.getElem?_eq_some_iff.1 nb).1
      obtain ⟨d0, d1, d2⟩ := three_cells nb
      obtain ⟨n1, hn1⟩ : ∃ n, (T1.F (k1, k2, k3)).1.length = n := ⟨_, rfl⟩
      obtain ⟨n2, hn2⟩ : ∃ n, (T1.F (k1, k2, k3)).2.length = n := ⟨_, rfl⟩
      have hsz := hft.out.size (k1, k2, k3)
      have hus := Lib.hid (hft.out.u (k1, k2, k3))
      rw [hn1, hn2] at hsz
      rw [hn1] at hfv hA
      rw [hn2] at hfv hB
      replace hn1 := Lib.hid hn1
      replace hn2 := Lib.hid hn2
      have hkeep : Hid (∀ w', RowKit.Below wa.heap.size wa w' → w'.cell? ⟨TB, 0, none⟩ = some (.map (some b1)) ∧ w'.cell? ⟨KB, 0, none⟩ = some (.int .u8 k1) ∧ w'.cell? ⟨KB, 1, none⟩ = some (.int .u32 k2) ∧ w'.cell? ⟨KB, 2, none⟩ = some (.int .u32 k3) ∧
          (Instr.lookup 72 (.map (some b1)) (.agg #[.int .u8 k1, .int .u32 k2, .int .u32 k3]) false).run Try.prog w' = .ok (.agg #[.slice a1 n1 c1, .slice a2 n2 c2]) w') := Lib.hid fun w' h => by
        have S3 := S2.below h (Nat.le_refl _)
        have hl := S3.lookL hkok.out
        rw [hfv] at hl
        exact ⟨S3.c0, (h.cell (p := ⟨KB, 0, none⟩) lK).trans d0, (h.cell (p := ⟨KB, 1, none⟩) lK).trans d1, (h.cell (p := ⟨KB, 2, none⟩) lK).trans d2, hl⟩
      replace nb := Lib.hid nb
      replace S2 := Lib.hid S2
      replace hfv := Lib.hid hfv
      clear d0 d1 d2
      obtain ⟨L0, hL0⟩ : ∃ x, wa.heap.size = x := ⟨_, rfl⟩
      go_cut [8, 17, 18, 19, 20, 21, 22] (fun v8 _ _ _ _ _ _ wx => v8 = .pointer (some ⟨L0, 0, none⟩) ∧ Hid (LockB wx L0 (.slice a1 n1 c1) (.slice a2 n2 c2)) ∧ Hid (RowKit.Below L0 wa wx))
      case first =>
        go_region_held2 (fun w' => w'.cell? ⟨TB, 0, none⟩ = some (.map (some b1)) ∧ w'.cell? ⟨KB, 0, none⟩ = some (.int .u8 k1) ∧ w'.cell? ⟨KB, 1, none⟩ = some (.int .u32 k2) ∧ w'.cell? ⟨KB, 2, none⟩ = some (.int .u32 k3) ∧
              (Instr.lookup 72 (.map (some b1)) (.agg #[.int .u8 k1, .int .u32 k2, .int .u32 k3]) false).run Try.prog w' = .ok (.agg #[.slice a1 n1 c1, .slice a2 n2 c2]) w')
            (first | exact hkeep.out _ (RowKit.Below.refl _ _).drew | exact hkeep.out _ (below_alloc _ _).drew | exact hkeep.out _ (below_alloc _ _) | go_keep)
            (fail)
        all_goals (
          go_wp2
          go_meet
          subst hL0
          exact ⟨rfl, Lib.hid (heap_alloc_new wa (.cells #[.slice a1 n1 c1, .slice a2 n2 c2] 80)), Lib.hid (below_alloc wa _).drew⟩)
      case rest =>
      obtain ⟨rfl, LB, Bc⟩ := hcut
      have Bc' : RowKit.Below wa.heap.size wa wc := by rw [hL0]; exact Bc.out
      have S3 := Lib.hid (S2.out.below Bc.out (by omega))
      have nb3 := Lib.hid ((Bc.out.block KB (by omega)).trans nb.out)
      have O3 := Lib.hid (O2.out.kept (grew Bc') (Classical.em _))
      have B3 := Lib.hid (B2.out.row (grew Bc') (by simp))
      have hLG : G ≤ L0 := by omega
      have hKL : KB < L0 := by omega
      have hmode : Hid (∀ wx, RowKit.Below wc.heap.size wc wx → (Calls Try.prog 44 #[.slice a1 n1 c1, .int .u32 t] wx fun e w' => e = .returned (.int .u8 (modeL (T1.F (k1, k2, k3)).1 t)) ∧ RowKit.Below wc.heap.size wc w') ∧ (Calls Try.prog 44 #[.slice a2 n2 c2, .int .u32 t] wx fun e w' => e = .returned (.int .u8 (modeL (T1.F (k1, k2, k3)).2 t)) ∧ RowKit.Below wc.heap.size wc w')) :=
        Lib.hid fun wx hx => ⟨(mode_u _ _ t wx ((hA.keep Bc.out (by omega)).keep hx (Nat.le_refl _))).mono fun e w' ⟨h1, h2⟩ => ⟨h1, hx.trans (h2.mono hx.size)⟩, (mode_u _ _ t wx ((hB.keep Bc.out (by omega)).keep hx (Nat.le_refl _))).mono fun e w' ⟨h1, h2⟩ => ⟨h1, hx.trans (h2.mono hx.size)⟩⟩
      obtain ⟨m1, hm1⟩ : ∃ x, modeL (T1.F (k1, k2, k3)).1 t = x := ⟨_, rfl⟩
      obtain ⟨m2, hm2⟩ : ∃ x, modeL (T1.F (k1, k2, k3)).2 t = x := ⟨_, rfl⟩
      rw [hm1, hm2] at hmode
      have e0 := LB.out.c0
      have lL := LB.out.lt
      have e1 := Lib.hid LB.out.c1
      obtain ⟨q, hq⟩ : ∃ x, ((m1 == 0) && (m2 == 0)) = x := ⟨_, rfl⟩
      clear S2 O2 B2 nb Bc Bc' hA hB hL0 hkeep lK
      go_upto_region 6 with fail
      go_cut [23, 24, 25, 26, 27, 28, 29, 30, 31, 32, 33, 34] (fun _ _ _ _ _ _ _ _ _ _ _ v34 wx => v34 = .bool q ∧ Hid (RowKit.Below wc.heap.size wc wx))
      case first =>
        by_cases h1 : m1 = 0
        · subst h1
          go_wp2_with (first
            | (go_at_call_of 44 (Value.slice a1 n1 c1); refine (hmode.out _ (RowKit.Below.refl _ _)).1.mono ?_; rintro e w4 ⟨rfl, b4⟩; have e4 := (b4.cell (p := ⟨L0, 1, none⟩) lL).trans e1.out)
            | (go_at_call_of 44 (Value.slice a2 n2 c2); refine (hmode.out _ b4).2.mono ?_; rintro e w5 ⟨rfl, b5⟩))
          go_meet
          exact ⟨by rw [← hq]; rfl, Lib.hid b5⟩
        · have h1' : (m1 == 0) = false := by simpa using h1
          obtain rfl : q = false := by rw [← hq, h1']; rfl
          clear hq
          go_wp2_with (first
            | (go_at_call_of 44 (Value.slice a1 n1 c1); refine (hmode.out _ (RowKit.Below.refl _ _)).1.mono ?_; rintro e w4 ⟨rfl, b4⟩))
          go_meet
          exact ⟨rfl, Lib.hid b4⟩
      case rest =>
      obtain ⟨rfl, B6⟩ := hcut
      have S4 := Lib.hid (S3.out.below B6.out (Nat.le_refl _))
      have nb4 := Lib.hid ((B6.out.block KB (by omega)).trans nb3.out)
      have O4 := Lib.hid (O3.out.kept (grew B6.out) (Classical.em _))
      have B4 := Lib.hid (B3.out.row (grew B6.out) (by simp))
      have LB4 := Lib.hid (LB.out.below B6.out lL)
      clear S3 nb3 O3 B3 LB B6 e0 e1 lL hmode
      cases q
      · have hq3 : Hid ¬ (m1 = 0 ∧ m2 = 0) := Lib.hid (by rintro ⟨rfl, rfl⟩; cases hq)
        clear hq
        have lL := LB4.out.lt
        have f0 := LB4.out.c0
        have f1' := LB4.out.c1
        have z0 := LB4.out.froz 0
        have z1 := LB4.out.froz 1
        have hwn := S4.out.wantsAt hfv.out
        have hwo : Hid (∀ wx, RowKit.Below wc.heap.size wc wx → (Calls Try.prog 49 #[.slice a1 n1 c1, .int .u32 t] wx fun e w' => ∃ aa ca, e = .returned (.slice aa (notL (T1.F (k1, k2, k3)).1 t).length ca) ∧ Wants w' (.slice aa (notL (T1.F (k1, k2, k3)).1 t).length ca) (notL (T1.F (k1, k2, k3)).1 t) ∧ RowKit.Below wc.heap.size wc w' ∧ RowKit.Below wx.heap.size wx w') ∧
            (Calls Try.prog 49 #[.slice a2 n2 c2, .int .u32 t] wx fun e w' => ∃ aa ca, e = .returned (.slice aa (notL (T1.F (k1, k2, k3)).2 t).length ca) ∧ Wants w' (.slice aa (notL (T1.F (k1, k2, k3)).2 t).length ca) (notL (T1.F (k1, k2, k3)).2 t) ∧ RowKit.Below wc.heap.size wc w' ∧ RowKit.Below wx.heap.size wx w')) := by
          refine Lib.hid fun wx hx => ⟨?_, ?_⟩
          · refine (without_u _ _ t wx (hwn.1.keep hx (Nat.le_refl _)) (by rw [hn1.out]; omega)).mono ?_
            rintro e w' ⟨v', rfl, o, b⟩
            obtain ⟨aa, ca, rfl⟩ := o.shape
            exact ⟨aa, ca, rfl, o.wants, hx.trans (b.mono hx.size), b⟩
          · refine (without_u _ _ t wx (hwn.2.keep hx (Nat.le_refl _)) (by rw [hn2.out]; omega)).mono ?_
            rintro e w' ⟨v', rfl, o, b⟩
            obtain ⟨aa, ca, rfl⟩ := o.shape
            exact ⟨aa, ca, rfl, o.wants, hx.trans (b.mono hx.size), b⟩
        obtain ⟨lh, hlh⟩ : ∃ x, notL (T1.F (k1, k2, k3)).1 t = x := ⟨_, rfl⟩
        obtain ⟨ll, hll⟩ : ∃ x, notL (T1.F (k1, k2, k3)).2 t = x := ⟨_, rfl⟩
        rw [hlh, hll] at hwo
        have hend : Hid (∀ wx v1 v2, RowKit.Below wc.heap.size wc wx → Wants wx v1 lh → Wants wx v2 ll → ∃ u1 u2, Hid (LockB ((wx.setCell ⟨L0, 0, none⟩ v1).setCell ⟨L0, 1, none⟩ v2) L0 u1 u2) ∧ Hid (Wants ((wx.setCell ⟨L0, 0, none⟩ v1).setCell ⟨L0, 1, none⟩ v2) u1 lh ∧ Wants ((wx.setCell ⟨L0, 0, none⟩ v1).setCell ⟨L0, 1, none⟩ v2) u2 ll) ∧ Hid (wc.grownBy ((wx.setCell ⟨L0, 0, none⟩ v1).setCell ⟨L0, 1, none⟩ v2) (some L0))) := Lib.hid fun wx v1 v2 b h1 h2 => by
          have L1 := LB4.out.below b lL
          have g := (grown_set wx L0 0 v1).trans (grown_set _ L0 1 v2)
          exact ⟨v1, v2, Lib.hid ((L1.set0 v1).set1 v2), Lib.hid ⟨h1.lock L1 g, h2.lock L1 g⟩, Lib.hid (((grew b).but _).trans g)⟩
        go_upto_region 7 with fail
        go_cut [35, 36, 37, 38, 39, 40, 41, 42, 43] (fun _ _ _ _ _ _ _ _ _ wx => ∃ u1 u2, Hid (LockB wx L0 u1 u2) ∧ Hid (Wants wx u1 lh ∧ Wants wx u2 ll) ∧ Hid (wc.grownBy wx (some L0)))
        case first =>
          go_region_law (first
            | (go_simp; go_at_call_of 49 (Value.slice a1 n1 c1); refine Calls.mono (hwo.out _ (by first | exact (RowKit.Below.refl _ _).drew | exact bB)).1 ?_; rintro e wA ⟨aA, cA, rfl, oA, bA, xA⟩; have gA0 := (bA.cell (p := ⟨L0, 0, none⟩) lL).trans f0; have gA1 := (bA.cell (p := ⟨L0, 1, none⟩) lL).trans f1'; have zA0 := (LB4.out.below bA lL).froz 0; have zA1 := (LB4.out.below bA lL).froz 1)
            | (go_simp; go_at_call_of 49 (Value.slice a2 n2 c2); refine Calls.mono (hwo.out _ (by first | exact (RowKit.Below.refl _ _).drew | exact bA)).2 ?_; rintro e wB ⟨aB, cB, rfl, oB, bB, xB⟩; have gB0 := (bB.cell (p := ⟨L0, 0, none⟩) lL).trans f0; have gB1 := (bB.cell (p := ⟨L0, 1, none⟩) lL).trans f1'; have zB0 := (LB4.out.below bB lL).froz 0; have zB1 := (LB4.out.below bB lL).froz 1))
          all_goals (
            go_wp2
            go_meet
            first
              | exact hend.out _ _ _ bB (oA.keep xB (Nat.le_refl _)) oB
              | exact hend.out _ _ _ bA oA (oB.keep xA (Nat.le_refl _)))
        case rest =>
        obtain ⟨u1, u2, LB5, W5, g5⟩ := hcut
        have S5 := Lib.hid (S4.out.lock LB4.out g5.out)
        have nb5 := Lib.hid ((g5.out.block KB (Array.getElem?_eq_some_iff.1 nb4.out).1 (by simp; omega)).trans nb4.out)
        have O5 := Lib.hid (O4.out.kept g5.out (nums_off O4.out LB4.out))
        have B5 := Lib.hid (B4.out.row g5.out (by intro j hj; cases hj; have := hG.out; omega))
        clear S4 nb4 O4 B4 LB4 g5 hwo hend lL f0 f1' z0 z1 hwn
        have hlh2 : Hid (lh.length + ll.length ≤ n0 ∧ (∀ x ∈ lh, U x.1) ∧ ∀ x ∈ ll, U x.1) := Lib.hid ⟨by
          have h1 := notL_length (T1.F (k1, k2, k3)).1 t
          have h2 := notL_length (T1.F (k1, k2, k3)).2 t
          rw [hlh, hn1.out] at h1
          rw [hll, hn2.out] at h2
          omega, fun x hx => hus.out.1 x (notL_sub (hlh ▸ hx)), fun x hx => hus.out.2 x (notL_sub (hll ▸ hx))⟩
        have hrl : Hid (relL (T1.F (k1, k2, k3)) t = wakeL (lh, ll)) := Lib.hid (by rw [relL, hm1, hm2, if_neg hq3.out, hlh, hll])
        replace hlh := Lib.hid hlh
        replace hll := Lib.hid hll
        replace hm1 := Lib.hid hm1
        replace hm2 := Lib.hid hm2
        go_upto_block 2 with fail
        go_cut [5, 9] from 44 to 77 (fun u5 _ wx => ∃ v1 v2, Hid (TabIs wx TB b1 b2 (dropAll T1 (wakeL (lh, ll)).2) f1) ∧ Hid (wx.ownsInts G 23 .u32 u5 (out1 ++ (wakeL (lh, ll)).2)) ∧ Hid (Two b1 b2 w1 wx) ∧ Hid (wx.heap[KB]? = some (.cells #[.int .u8 k1, .int .u32 k2, .int .u32 k3] 38)) ∧ Hid (LockB wx L0 v1 v2) ∧ Hid (Wants wx v1 (wakeL (lh, ll)).1.1 ∧ Wants wx v2 (wakeL (lh, ll)).1.2))
        case first =>
          have hS0 : Hid (TabIs wc TB b1 b2 (dropAll T1 []) f1) := S5
          have hO0 : Hid (wc.ownsInts G 23 .u32 u5 (out1 ++ [])) := Lib.hid (by rw [List.append_nil]; exact O5.out)
          have hW0 : Hid (wakeL (lh, ll) = ((wakeL (lh, ll)).1, [] ++ (wakeL (lh, ll)).2)) := Lib.hid rfl
          have hZ0 : Hid (lh.length + ll.length ≤ n0 ∧ ([] : List Int).length + ll.length ≤ n0 ∧ (∀ x ∈ lh, U x.1) ∧ ∀ x ∈ ll, U x.1) := Lib.hid ⟨hlh2.out.1, by have := hlh2.out.1; simp; omega, hlh2.out.2⟩
          go_wp2_with fail
          go_loopw [5] (fun u5 wr => ∃ (l : Lk) (ws : List Int) (v1 v2 : Value), Hid (TabIs wr TB b1 b2 (dropAll T1 ws) f1) ∧ Hid (wr.ownsInts G 23 .u32 u5 (out1 ++ ws)) ∧ Hid (Two b1 b2 w1 wr) ∧ Hid (wr.heap[KB]? = some (.cells #[.int .u8 k1, .int .u32 k2, .int .u32 k3] 38)) ∧ Hid (LockB wr L0 v1 v2) ∧ Hid (Wants wr v1 l.1 ∧ Wants wr v2 l.2) ∧ Hid (wakeL (lh, ll) = ((wakeL l).1, ws ++ (wakeL l).2)) ∧ Hid (l.1.length + l.2.length ≤ n0 ∧ ws.length + l.2.length ≤ n0 ∧ (∀ x ∈ l.1, U x.1) ∧ ∀ x ∈ l.2, U x.1)) (fun _ wr => lenAt wr L0 1)
          case atStart => exact ⟨(lh, ll), [], u1, u2, hS0, hO0, B5, nb5, LB5, W5, hW0, hZ0⟩
          case round =>
            clear hS0 hO0 hW0 hZ0
            obtain ⟨⟨h, l⟩, ws, v1, v2, S6, O6, B6, nb6, LB6, W6, hW, hZ⟩ := hrel
            obtain ⟨x1, y1, rfl, -⟩ := id W6.out.1
            obtain ⟨x2, y2, rfl, -⟩ := id W6.out.2
            simp only at LB6 W6 hZ
            have e1 := LB6.out.c1
            have lL6 := LB6.out.lt
            rcases l with _ | ⟨x, r⟩
            · have hend : Hid (∃ v1 v2, Hid (TabIs wr TB b1 b2 (dropAll T1 (wakeL (lh, ll)).2) f1) ∧ Hid (wr.ownsInts G 23 .u32 u5 (out1 ++ (wakeL (lh, ll)).2)) ∧ Hid (Two b1 b2 w1 wr) ∧ Hid (wr.heap[KB]? = some (.cells #[.int .u8 k1, .int .u32 k2, .int .u32 k3] 38)) ∧ Hid (LockB wr L0 v1 v2) ∧ Hid (Wants wr v1 (wakeL (lh, ll)).1.1 ∧ Wants wr v2 (wakeL (lh, ll)).1.2)) := by
                rw [hW.out, wakeL_nil, List.append_nil]
                exact Lib.hid ⟨_, _, S6, O6, B6, nb6, LB6, W6⟩
              go_wp2
              go_meet
              exact hend.out
            · obtain ⟨e2, o2, rfl, hx2, hy2⟩ : ∃ e2 o2, x2 = some ⟨e2, o2, none⟩ ∧ wr.cell? ⟨e2, o2, none⟩ = some (.int .u32 x.1) ∧ wr.cell? ⟨e2, o2 + 1, none⟩ = some (.int .u8 x.2) := by
                obtain ⟨a, cap, e, _, _, hc⟩ := W6.out.2
                obtain ⟨eb, off, h1, _, h3⟩ := hc (by simp)
                cases e
                have := h3 0 (by simp)
                simp only [Nat.zero_mul, Nat.add_zero, List.getD_cons_zero] at this
                exact ⟨eb, off, h1, this⟩
              have lE := World.block_lt_of_cell? _ _ hx2
              have hlr : (0 : Int) < ((x :: r).length : Int) := by simp only [List.length_cons]; omega
              obtain ⟨nl, hnl⟩ : ∃ m, (x :: r).length = m := ⟨_, rfl⟩
              rw [hnl] at LB6 W6 e1 hlr
              have hfr := free_u L0 _ h x wr LB6.out.lt LB6.out.c0 W6.out.1
              obtain ⟨fb, hfb⟩ : ∃ b, freeB h x = b := ⟨_, rfl⟩
              rw [hfb] at hfr
              have hnl0 : 0 < nl := by omega
              have hme := Lib.hid (lenAt_lock LB6.out)
              replace hnl := Lib.hid hnl
              obtain ⟨xa, xb⟩ := x
              simp only at hx2 hy2 hfr
              have hmv : Hid (∀ w', RowKit.Below wr.heap.size wr w' → TabIs w' TB b1 b2 (dropAll T1 ws) f1 ∧ w'.ownsInts G 23 .u32 u5 (out1 ++ ws) ∧ Two b1 b2 w1 w' ∧ w'.heap[KB]? = some (.cells #[.int .u8 k1, .int .u32 k2, .int .u32 k3] 38) ∧ LockB w' L0 (.slice x1 h.length y1) (.slice (some ⟨e2, o2, none⟩) nl y2) ∧ Wants w' (.slice x1 h.length y1) h ∧ Wants w' (.slice (some ⟨e2, o2, none⟩) nl y2) ((xa, xb) :: r)) :=
                Lib.hid fun w' b => ⟨S6.out.below b (Nat.le_refl _), O6.out.kept (grew b) (Classical.em _), B6.out.row (grew b) (by simp), (b.block KB (Array.getElem?_eq_some_iff.1 nb6.out).1).trans nb6.out, LB6.out.below b lL6, W6.out.1.keep b (Nat.le_refl _), W6.out.2.keep b (Nat.le_refl _)⟩
              cases fb
              · have hend : Hid (∀ w', RowKit.Below wr.heap.size wr w' → ∃ v1 v2, Hid (TabIs w' TB b1 b2 (dropAll T1 (wakeL (lh, ll)).2) f1) ∧ Hid (w'.ownsInts G 23 .u32 u5 (out1 ++ (wakeL (lh, ll)).2)) ∧ Hid (Two b1 b2 w1 w') ∧ Hid (w'.heap[KB]? = some (.cells #[.int .u8 k1, .int .u32 k2, .int .u32 k3] 38)) ∧ Hid (LockB w' L0 v1 v2) ∧ Hid (Wants w' v1 (wakeL (lh, ll)).1.1 ∧ Wants w' v2 (wakeL (lh, ll)).1.2)) := by
                  rw [hW.out, wakeL_stop hfb, List.append_nil]
                  refine Lib.hid fun w' b => ?_
                  obtain ⟨g1, g2, g3, g4, g5, g6, g7⟩ := hmv.out w' b
                  exact ⟨_, _, Lib.hid g1, Lib.hid g2, Lib.hid g3, Lib.hid g4, Lib.hid g5, Lib.hid ⟨g6, g7⟩⟩
                clear hfb
                go_wp2_with (go_at_call 45; refine hfr.mono ?_; rintro e w7 ⟨rfl, b7⟩)
                go_meet
                exact hend.out _ b7
              · replace hfb := Lib.hid hfb
                go_upto_region 10 with (go_at_call 45; refine hfr.mono ?_; rintro e w7 ⟨rfl, b7⟩; have k1' := (b7.cell (p := ⟨L0, 1, none⟩) lL6).trans e1; have k2' := (b7.cell (p := ⟨e2, o2, none⟩) lE).trans hx2; have k3' := (b7.cell (p := ⟨e2, o2 + 1, none⟩) lE).trans hy2)
                have b8 := b7.trans ((below_alloc w7 (.cells #[.int .u32 xa, .int .u8 xb] 77)).mono b7.size)
                have nb8 := heap_alloc_new w7 (.cells #[.int .u32 xa, .int .u8 xb] 77)
                obtain ⟨N9, hN9⟩ : ∃ x, w7.heap.size = x := ⟨_, rfl⟩
                obtain ⟨w8, hw8⟩ : ∃ x, w7.alloc (.cells #[.int .u32 xa, .int .u8 xb] 77) = x := ⟨_, rfl⟩
                rw [hw8] at b8 nb8 ⊢
                rw [hN9] at nb8 ⊢
                obtain ⟨S8, O8, B8, kb8, LB8, Wa8, Wb8⟩ := hmv.out w8 b8
                have lN9 : N9 < w8.heap.size := (Array.getElem?_eq_some_iff.1 nb8).1
                have hN9L : L0 < N9 := by have := b7.size; omega
                have hN9G : G ≤ N9 := by omega
                have p0 : w8.cell? ⟨N9, 0, none⟩ = some (.int .u32 xa) := by rw [cell_of_heap nb8]; rfl
                have p1 : w8.cell? ⟨N9, 1, none⟩ = some (.int .u8 xb) := by rw [cell_of_heap nb8]; rfl
                clear hw8 hN9 hmv b7 b8 k1' k2' k3' hx2 hy2 lE hfr S6 O6 B6 nb6 LB6 W6 e1 lL6
                have hgv := give_u L0 _ _ h (xa, xb) w8 LB8 Wa8 (by have := hZ.out.1; omega)
                go_upto_region 11 with (go_at_call 46; refine hgv.mono ?_; rintro e w9 ⟨v9, rfl, o9, LB9, g9⟩)
                have S9 := S8.lock LB8 g9
                have O9 := O8.kept g9 (nums_off O8 LB8)
                have B9 := B8.row g9 (by intro j hj; cases hj; have := hG.out; omega)
                have kb9 := (g9.block KB (Array.getElem?_eq_some_iff.1 kb8).1 (by simp; omega)).trans kb8
                have nb9 := (g9.block N9 lN9 (by simp; omega)).trans nb8
                have Wb9 := Wb8.lock LB8 g9
                have Wa9 := o9.wants
                clear hgv S8 O8 B8 kb8 nb8 Wb8 Wa8 LB8 g9 p0 p1 o9
                have p0 : w9.cell? ⟨N9, 0, none⟩ = some (.int .u32 xa) := by rw [cell_of_heap nb9]; rfl
                have q1 := LB9.c1
                have hwt := without_u _ ((xa, xb) :: r) xa w9 Wb9 (by have := hZ.out.1; simp only [List.length_cons] at this ⊢; omega)
                have lL9 := LB9.lt
                go_upto_region 12 with (go_at_call 49; refine hwt.mono ?_; rintro e w10 ⟨v10, rfl, o10, b10⟩; have LB10 := LB9.below b10 lL9; have q2 := LB10.froz 1; have q3 := LB10.c1; obtain ⟨a10, c10, hs10⟩ := o10.shape; rw [hs10])
                rw [← hs10]
                have hv10 := Lib.hid hs10
                have gs := grown_set w10 L0 1 v10
                have S10 := (S9.below b10 (Nat.le_refl _)).lock LB10 gs
                have O10 := (O9.kept (grew b10) (Classical.em _)).kept gs (nums_off (O9.kept (grew b10) (Classical.em _)) LB10)
                have B10 := (B9.row (grew b10) (by simp)).row gs (by intro j hj; cases hj; have := hG.out; omega)
                have kb10 := (gs.block KB (Nat.lt_of_lt_of_le (Array.getElem?_eq_some_iff.1 kb9).1 b10.size) (by simp; omega)).trans ((b10.block KB (Array.getElem?_eq_some_iff.1 kb9).1).trans kb9)
                have nb10 := (gs.block N9 (Nat.lt_of_lt_of_le (Array.getElem?_eq_some_iff.1 nb9).1 b10.size) (by simp; omega)).trans ((b10.block N9 (Array.getElem?_eq_some_iff.1 nb9).1).trans nb9)
                have Wa10 := (Wa9.keep b10 (Nat.le_refl _)).lock LB10 gs
                have Wb10 := o10.wants.lock LB10 gs
                have LB10' := LB10.set1 v10
                obtain ⟨w11, hw11⟩ : ∃ x, w10.setCell ⟨L0, 1, none⟩ v10 = x := ⟨_, rfl⟩
                rw [hw11] at S10 O10 B10 kb10 nb10 Wa10 Wb10 LB10' ⊢
                clear hw11 gs S9 O9 B9 kb9 nb9 Wa9 Wb9 LB9 b10 LB10 q1 q2 q3 p0 hwt lL9 hs10 o10
                have ux : U xa := hZ.out.2.2.2 (xa, xb) (by simp)
                have r0 := S10.c1
                have r1 : w11.cell? ⟨N9, 0, none⟩ = some (.int .u32 xa) := by rw [cell_of_heap nb10]; rfl
                have lT11 := S10.lt
                have lN11 := (Array.getElem?_eq_some_iff.1 nb10).1
                replace S10 := Lib.hid S10
                replace nb10 := Lib.hid nb10
                go_region_held2 (fun w' => w'.cell? ⟨TB, 1, none⟩ = some (.map (some b2)) ∧ w'.cell? ⟨N9, 0, none⟩ = some (.int .u32 xa))
                  (first | exact ⟨r0, r1⟩ | (have h := hlow.out; exact ⟨(g12.cell_far ⟨TB, 1, none⟩ lT11 (by simp; exact h.2.2.2.2)).trans r0, (g12.cell_far ⟨N9, 0, none⟩ lN11 (by simp; omega)).trans r1⟩) | go_keep)
                  ((refine step_of_wp (by rfl) (wp_dropW _ _ (by rfl) (by rfl) S10.out.drew ux (by rfl) ?_); intro w12 S12 g12))
                have g12' : w11.grownBy w12 (some b2) := ⟨g12.os, g12.tape, g12.output, g12.size, g12.block⟩
                have hlo := hlow.out
                have O12 := O10.kept g12' (.inr fun e => by have := (row_ge O10.1 b2 e).1; omega)
                have B12 := B10.trans (Two.of2 g12')
                have kb12 := (g12'.block KB (Array.getElem?_eq_some_iff.1 kb10).1 (by simp; omega)).trans kb10
                have nb12 := (g12'.block N9 lN11 (by simp; omega)).trans nb10.out
                have Wa12 := Wa10.two (b1 := b1) (Two.of2 g12') S10.out.locks.nocells S10.out.waits.nocells
                have Wb12 := Wb10.two (b1 := b1) (Two.of2 g12') S10.out.locks.nocells S10.out.waits.nocells
                have LB12 := LB10'.kept g12' (by simp; omega)
                have r2 : w12.cell? ⟨N9, 0, none⟩ = some (.int .u32 xa) := by rw [cell_of_heap nb12]; rfl
                clear g12 g12' O10 B10 kb10 nb10 Wa10 Wb10 LB10' S10 r0 r1 lT11 lN11
                have hnc := heap_alloc_new w12 (.cells #[.int .u32 xa] 23)
                have bN := below_alloc w12 (.cells #[.int .u32 xa] 23)
                have S13 := Lib.hid (S12.below bN (Nat.le_refl _))
                have O13 := O12.alloc (.cells #[.int .u32 xa] 23)
                have B13 := Lib.hid (B12.row (grew bN) (by simp))
                have kb13 := Lib.hid ((bN.block KB (Array.getElem?_eq_some_iff.1 kb12).1).trans kb12)
                have Wa13 := Lib.hid (Wa12.keep bN (Nat.le_refl _))
                have Wb13 := Lib.hid (Wb12.keep bN (Nat.le_refl _))
                have LB13 := Lib.hid (LB12.below bN LB12.lt)
                have hG12 : G ≤ (w12.alloc (.cells #[.int .u32 xa] 23)).heap.size := by have := B13.out.size; have := hG.out; omega
                have hlw : (out1 ++ ws).length + 1 < 1000000 := by have := hZ.out.2.1; simp only [List.length_append, List.length_cons] at this ⊢; omega
                replace nb12 := Lib.hid nb12
                replace kb12 := Lib.hid kb12
                replace LB12 := Lib.hid LB12
                replace S12 := Lib.hid S12
                replace O12 := Lib.hid O12
                replace hnc := Lib.hid hnc
                replace ux := Lib.hid ux
                replace O13 := Lib.hid O13
                clear bN Wa12 Wb12 B12 hlo
                go_wp2_with (at_builtin; refine wpList_append_n rfl (.tmp 73) (.tmp 76) rfl G u5 (out1 ++ ws) rfl O13.out (some ⟨w12.heap.size, 0, none⟩) 1 1 [xa] rfl (nums_one hnc.out) (by intro z hz; rw [List.mem_singleton.1 hz]; exact ux.out) rfl hlw hG12 ?_; intro v14 w14 O14 g14)
                have hmz : Hid (lenAt w14 L0 1 < lenAt wr L0 1) := by
                  have h1 := LB13.out.nums O13.out g14
                  have h2 := notL_cons_lt (xa, xb) r
                  have h3 := hnl.out
                  rw [hv10.out] at h1
                  simp only [List.length_cons] at h3 h2
                  exact Lib.hid (by rw [lenAt_lock h1, hme.out]; omega)
                have hrelend : Hid (∃ (l : Lk) (ws : List Int) (v1 v2 : Value), Hid (TabIs w14 TB b1 b2 (dropAll T1 ws) f1) ∧ Hid (w14.ownsInts G 23 .u32 v14 (out1 ++ ws)) ∧ Hid (Two b1 b2 w1 w14) ∧ Hid (w14.heap[KB]? = some (.cells #[.int .u8 k1, .int .u32 k2, .int .u32 k3] 38)) ∧ Hid (LockB w14 L0 v1 v2) ∧ Hid (Wants w14 v1 l.1 ∧ Wants w14 v2 l.2) ∧ Hid (wakeL (lh, ll) = ((wakeL l).1, ws ++ (wakeL l).2)) ∧ Hid (l.1.length + l.2.length ≤ n0 ∧ ws.length + l.2.length ≤ n0 ∧ (∀ x ∈ l.1, U x.1) ∧ ∀ x ∈ l.2, U x.1)) := by
                  have hZ' := hZ.out
                  have h1 := notL_length h xa
                  have h2 := notL_cons_lt (xa, xb) r
                  simp only at hZ' h2
                  simp only [List.length_cons] at hZ'
                  refine Lib.hid ⟨(notL h xa ++ [(xa, xb)], notL ((xa, xb) :: r) xa), ws ++ [xa], v9, v10, Lib.hid ?_, Lib.hid ?_, Lib.hid (B13.out.row g14 (fun j hj => by have := (row_ge O13.out.1 j hj).1; have := hG.out; omega)), Lib.hid ((g14.block KB (Array.getElem?_eq_some_iff.1 kb13.out).1 (fun e => by obtain ⟨cs, fr, hh⟩ := nums_block O13.out e.symm; rw [kb13.out] at hh; cases hh)).trans kb13.out), Lib.hid (LB13.out.nums O13.out g14), Lib.hid ⟨Wa13.out.nums O13.out g14, Wb13.out.nums O13.out g14⟩, Lib.hid ?_, Lib.hid ⟨?_, ?_, ?_, ?_⟩⟩
                  · rw [dropAll_snoc]; exact S13.out.nums O13.out g14
                  · rw [← List.append_assoc]; exact O14
                  · rw [hW.out, wakeL_step hfb.out]; simp
                  · simp only [List.length_append, List.length_cons, List.length_nil]; omega
                  · simp only [List.length_append, List.length_cons, List.length_nil]; omega
                  · intro y hy
                    rcases List.mem_append.1 hy with hy | hy
                    · exact hZ'.2.2.1 y (notL_sub hy)
                    · rw [List.mem_singleton.1 hy]; exact ux.out
                  · exact fun y hy => hZ'.2.2.2 y (notL_sub hy)
                clear O14 g14 S13 O13 B13 kb13 Wa13 Wb13 LB13
                go_wp2
                go_roundw
                case rel => exact hrelend.out
                case measure => exact hmz.out
        case rest =>
        obtain ⟨v1, v2, S7, O7, B7, nb7, LB7, W7⟩ := hcut
        obtain ⟨q, hqw⟩ : ∃ x, wakeL (lh, ll) = x := ⟨_, rfl⟩
        rw [hqw] at S7 O7 W7 hrl
        have hgone : Hid (q.1.1 = [] → q.1 = ([], [])) := Lib.hid fun h => by
          have h2 := wake_gone ll.length (lh, ll) (Nat.le_refl _) (by rw [show wake ll.length (lh, ll) = wakeL (lh, ll) from rfl, hqw]; exact h)
          rw [show wake ll.length (lh, ll) = wakeL (lh, ll) from rfl, hqw] at h2
          exact Prod.ext h h2
        have hstep : Hid (relStep t T1 (k1, k2, k3) = (⟨if q.1.1 = [] then (insK T1.ks (k1, k2, k3)).filter fun k' => !(k' == (k1, k2, k3)) else insK T1.ks (k1, k2, k3), setF T1.F (k1, k2, k3) q.1, (dropAll T1 q.2).hs, (dropAll T1 q.2).W⟩, q.2)) := Lib.hid (by
          rw [relStep, hm1.out, hm2.out, if_neg hq3.out, hrl.out])
        clear hqw hlh2 S5 nb5 O5 B5 LB5 W5 hrl
        obtain ⟨x1, y1, rfl, -⟩ := id W7.out.1
        obtain ⟨hd1, hd2, -⟩ := dropAll_same q.2 T1
        obtain ⟨w9, hrun, S9, g9⟩ := S7.out.drew.storeL (by rw [hd1]; have := hft.out.keys; omega) hkok.out (l := q.1) W7.out.1 W7.out.2
        rw [hd1, hd2] at S9
        have g9' : wc.grownBy w9 (some b1) := ⟨g9.os, g9.tape, g9.output, g9.size, g9.block⟩
        simp only [kyV] at hrun
        have c0' := S7.out.c0
        obtain ⟨e0, e1, e2⟩ := three_cells nb7.out
        have e3 := LB7.out.c0
        have e4 := LB7.out.c1
        have lT7 := S7.out.lt
        have lN7 : KB < wc.heap.size := (Array.getElem?_eq_some_iff.1 nb7.out).1
        have lL7 := LB7.out.lt
        have hkp : Hid (w9.cell? ⟨TB, 0, none⟩ = some (.map (some b1)) ∧ w9.cell? ⟨KB, 0, none⟩ = some (.int .u8 k1) ∧ w9.cell? ⟨KB, 1, none⟩ = some (.int .u32 k2) ∧ w9.cell? ⟨KB, 2, none⟩ = some (.int .u32 k3) ∧ w9.cell? ⟨L0, 0, none⟩ = some (.slice x1 q.1.1.length y1) ∧ w9.cell? ⟨L0, 1, none⟩ = some v2) := by
          have h := hlow.out
          exact Lib.hid ⟨(g9'.cell_far ⟨TB, 0, none⟩ lT7 (by simp; exact h.2.2.2.1)).trans c0', (g9'.cell_far ⟨KB, 0, none⟩ lN7 (by simp; omega)).trans e0, (g9'.cell_far ⟨KB, 1, none⟩ lN7 (by simp; omega)).trans e1, (g9'.cell_far ⟨KB, 2, none⟩ lN7 (by simp; omega)).trans e2, (g9'.cell_far ⟨L0, 0, none⟩ lL7 (by simp; omega)).trans e3, (g9'.cell_far ⟨L0, 1, none⟩ lL7 (by simp; omega)).trans e4⟩
        have O9 := Lib.hid (O7.out.kept g9' (.inr fun e => by have := (row_ge O7.out.1 b1 e).1; have := hlow.out; omega))
        have B9 := Lib.hid (B7.out.trans (Two.of1 g9'))
        have nb9 := Lib.hid ((g9'.block KB lN7 (by have := hlow.out; simp; omega)).trans nb7.out)
        have LB9 := Lib.hid (LB7.out.kept g9' (by have := hlow.out; simp; omega))
        obtain ⟨nq, hnq⟩ : ∃ n, q.1.1.length = n := ⟨_, rfl⟩
        rw [hnq] at e3 hkp LB7 LB9 hrun S9
        replace S9 := Lib.hid S9
        replace g9 := Lib.hid g9
        replace g9' := Lib.hid g9'
        clear O7 B7 S7 hd1 hd2
        replace nb7 := Lib.hid nb7.out
        go_upto_region 14 with fail
        go_region_held2 (fun w' => w'.cell? ⟨TB, 0, none⟩ = some (.map (some b1)) ∧ w'.cell? ⟨KB, 0, none⟩ = some (.int .u8 k1) ∧ w'.cell? ⟨KB, 1, none⟩ = some (.int .u32 k2) ∧ w'.cell? ⟨KB, 2, none⟩ = some (.int .u32 k3) ∧ w'.cell? ⟨L0, 0, none⟩ = some (.slice x1 nq y1) ∧ w'.cell? ⟨L0, 1, none⟩ = some v2)
          (first | exact ⟨c0', e0, e1, e2, e3, e4⟩ | exact hkp.out | go_keep)
          (fail)
        have f0 := LB9.out.c0
        have t0 := S9.out.c0
        obtain ⟨r0, r1, r2⟩ := three_cells nb9.out
        have lT9 := S9.out.lt
        have lN9 : KB < w9.heap.size := (Array.getElem?_eq_some_iff.1 nb9.out).1
        clear e0 e1 e2 e3 e4 c0' hkp lT7 lN7 lL7 hrun
        by_cases hz : nq = 0
        · subst hz
          have hqe : q.1.1 = [] := List.eq_nil_of_length_eq_zero hnq
          have hq0 := hgone.out hqe
          have hFk : setF T1.F (k1, k2, k3) q.1 (k1, k2, k3) = ([], []) := by simp [setF, hq0]
          replace hnq := Lib.hid hnq
          replace hFk := Lib.hid hFk
          replace hqe := Lib.hid hqe
          replace hq0 := Lib.hid hq0
          go_upto_region 16 with fail
          go_region_held2 (fun w' => w'.cell? ⟨TB, 0, none⟩ = some (.map (some b1)) ∧ w'.cell? ⟨KB, 0, none⟩ = some (.int .u8 k1) ∧ w'.cell? ⟨KB, 1, none⟩ = some (.int .u32 k2) ∧ w'.cell? ⟨KB, 2, none⟩ = some (.int .u32 k3))
            (first | exact ⟨t0, r0, r1, r2⟩ | (have h := hlow.out; exact ⟨(ga.cell_far ⟨TB, 0, none⟩ lT9 (by simp; exact h.2.2.2.1)).trans t0, (ga.cell_far ⟨KB, 0, none⟩ lN9 (by simp; omega)).trans r0, (ga.cell_far ⟨KB, 1, none⟩ lN9 (by simp; omega)).trans r1, (ga.cell_far ⟨KB, 2, none⟩ lN9 (by simp; omega)).trans r2⟩) | go_keep)
            ((refine step_of_wp (by rfl) (wp_dropL _ _ (by rfl) (by rfl) S9.out.drew (k := (k1, k2, k3)) hkok.out hFk.out (by rfl) ?_); intro wb Sb ga))
          have ga' : w9.grownBy wb (some b1) := ⟨ga.os, ga.tape, ga.output, ga.size, ga.block⟩
          have SX : Hid (∃ f', TabIs wb TB b1 b2 (relFold t (T.ks.take (i + 1)) T).1 f') := Lib.hid ⟨_, by rw [hsuc2.out, hstep.out, if_pos hqe.out]; exact Sb⟩
          have OX : Hid (wb.ownsInts G 23 .u32 u5 (relFold t (T.ks.take (i + 1)) T).2) := Lib.hid (by rw [hsuc2.out, hstep.out]; exact O9.out.kept ga' (.inr fun e => by have := (row_ge O9.out.1 b1 e).1; have := hlow.out; omega))
          have BX := Lib.hid (B9.out.trans (Two.of1 ga'))
          clear ga ga' Sb t0 r0 r1 r2 f0
          go_wp2
          go_roundw
          case rel => exact ⟨i + 1, by go_num, by omega, SX, OX, BX⟩
          case measure => simp [intOf]; omega
        · have hqe : ¬ q.1.1 = [] := fun e => hz (by rw [← hnq, e]; rfl)
          have SX : Hid (∃ f', TabIs w9 TB b1 b2 (relFold t (T.ks.take (i + 1)) T).1 f') := Lib.hid ⟨_, by rw [hsuc2.out, hstep.out, if_neg hqe]; exact S9.out⟩
          have OX : Hid (w9.ownsInts G 23 .u32 u5 (relFold t (T.ks.take (i + 1)) T).2) := Lib.hid (by rw [hsuc2.out, hstep.out]; exact O9.out)
          clear hqe t0 r0 r1 r2
          replace hnq := Lib.hid hnq
          go_wp2
          go_roundw
          case rel => exact ⟨i + 1, by go_num, by omega, SX, OX, B9⟩
          case measure => simp [intOf]; omega
      · have hst : relStep t T1 (k1, k2, k3) = (T1, []) := by
          rw [relStep, hm1, hm2, if_pos]
          simpa using hq
        rw [hst, List.append_nil] at hsuc2
        have S5 : Hid (∃ f', TabIs wc TB b1 b2 (relFold t (T.ks.take (i + 1)) T).1 f') := Lib.hid ⟨f1, by rw [hsuc2.out]; exact S4.out⟩
        have O5 : Hid (wc.ownsInts G 23 .u32 u5 (relFold t (T.ks.take (i + 1)) T).2) := Lib.hid (by rw [hsuc2.out]; exact O4.out)
        clear hq hst hm1 hm2
        go_wp2
        go_roundw
        case rel => exact ⟨i + 1, by go_num, by omega, S5, O5, B4⟩
        case measure => simp [intOf]; omega
    · obtain rfl : i = n := by omega
      obtain ⟨f1, S1⟩ := S.out
      have t1 := S1.c1
      have lT := S1.lt
      replace S1 := Lib.hid S1
      clear S
      go_wp2_with (at_delete; refine wpList_dropW rfl (.tmp 97) (.tmp 98) rfl rfl S1.out htt.out rfl ?_; intro wb Sb ga)
      have ga' : wr.grownBy wb (some b2) := ⟨ga.os, ga.tape, ga.output, ga.size, ga.block⟩
      have OX := O.out.kept ga' (.inr fun e => by have := (row_ge O.out.1 b2 e).1; have := hlow.out; omega)
      have BX : Two b1 b2 w wb := (Two.of0 (by rw [hR]; exact BB1.out)).trans (B.out.trans (Two.of2 ga'))
      replace OX := Lib.hid OX
      replace BX := Lib.hid BX
      replace Sb := Lib.hid Sb
      clear ga ga'
      go_ret
      exact ⟨f1, _, rfl, Sb.out, ⟨row_low OX.out.1 hRG, OX.out.2⟩, BX.out⟩
end Go.Proofs.Ytilknhackmccpaa
