/- The document's table: Release, its walk. -/
import Derived.Test.YtilknhackmccpaaRefP
set_option linter.unusedVariables false
set_option linter.unusedSimpArgs false
namespace Go.Proofs.Ytilknhackmccpaa
open Go.RowKit Go.Sort Go.Lib Go.Maps

theorem rel_end {w wc wE : World} {RB g o N : Nat} {v u : Value} {P : List RL} {L : RT} {zs : List Int} (h1 : RTab wE RB v P L) (h2 : wc.grownBy wE (some g)) (O : wc.ownsInts N 23 .u32 u zs) (ho : o = g) (hT : Two RB o w wc) (hgN : g < N) : (∃ P', RTab wE RB v P' L) ∧ wE.ownsInts N 23 .u32 u zs ∧ Two RB o w wE := by
  subst ho
  exact ⟨⟨P, h1⟩, O.kept h2 (.inr fun e => by have := (row_ge O.1 _ e).1; omega), hT.trans (Two.of2 h2)⟩
theorem rel_drew {w wE : World} {RB o N : Nat} {v u : Value} {L : RT} {zs : List Int} (h : (∃ P', RTab wE RB v P' L) ∧ wE.ownsInts N 23 .u32 u zs ∧ Two RB o w wE) : (∃ P', RTab wE.drew RB v P' L) ∧ wE.drew.ownsInts N 23 .u32 u zs ∧ Two RB o w wE.drew := by
  obtain ⟨⟨P', h1⟩, h2, h3⟩ := h
  have b := (RowKit.Below.refl wE.heap.size wE).drew
  exact ⟨⟨P', h1.below b (Nat.le_refl _)⟩, h2.kept (grew b) (Classical.em _), h3.trans (Two.of0 b)⟩

set_option maxRecDepth 100000 in
set_option maxHeartbeats 16000000 in
theorem rel_r {w : World} {RB : Nat} {v : Value} {P : List RL} {L : RT} (S : RTab w RB v P L) (t : Int) (n0 : Nat) (hn0 : L.length ≤ 500) (hn1 : n0 ≤ 500) (hsz : ∀ e ∈ L, e.2.1.length + e.2.2.length ≤ n0) (hU : ∀ e ∈ L, ∀ x ∈ e.2.2, U x.1) :
    Calls Try.prog 53 #[.pointer (some ⟨RB, 0, none⟩), .int .u32 t] w fun e w' => ∃ vo P', e = .returned vo ∧ RTab w' RB v P' (rRel L t).1 ∧ w'.ownsInts w.heap.size 23 .u32 vo (rRel L t).2 ∧ Two RB (v.ownBlock.getD RB) w w' := by
  obtain ⟨a, cap, rfl, hcap, hcm⟩ := S.shape
  obtain ⟨N, hN⟩ : ∃ N, w.heap.size = N := ⟨_, rfl⟩
  obtain ⟨n, hn⟩ : ∃ n, L.length = n := ⟨_, rfl⟩
  have hgN : ∀ g, (Value.slice a n cap).ownBlock = some g → g < N := fun g hg => by
    rw [← hN]
    rcases S.row.2 with ⟨e, _⟩ | ⟨g', cap', cur, e, _, hh, _⟩
    · rw [hn] at e; rw [e] at hg; cases hg
    · rw [hn] at e
      rw [e] at hg
      obtain rfl : g' = g := Option.some.inj hg
      exact (Array.getElem?_eq_some_iff.1 hh).1
  rw [hn] at S hn0 ⊢
  rw [hN]
  obtain ⟨o, ho⟩ : ∃ o, (Value.slice a n cap).ownBlock.getD RB = o := ⟨_, rfl⟩
  rw [ho]
  have hcap' : (n : Int) ≤ (cap : Int) := by omega
  have hO0 : Hid (w.ownsInts N 23 .u32 (.slice none 0 0) (relOut L t 0)) := Lib.hid (by simpa [relOut] using World.ownsInts_nil _ _ _ _)
  have hT0 : Hid (Two RB o w w) := Lib.hid (Two.refl _ _ _)
  have hS0 : Hid (∃ P', RTab w RB (.slice a n cap) P' (relTo L t 0)) := Lib.hid ⟨P, by simpa [relTo] using S⟩
  have hRN : RB < N := by rw [← hN]; exact S.lt
  have hszh := Lib.hid hsz
  have hUh := Lib.hid hU
  have hn' := Lib.hid hn
  have hgNh := Lib.hid hgN
  have hNh := Lib.hid hN
  replace ho := Lib.hid ho
  clear S hn hsz hU hgN hcap hN
  go_enter Try.func53, Try.ntmps53
  go_wp2
  go_loopw [5, 6] (fun v5 v6 wr => ∃ i : Nat, v6 = .int .i64 i ∧ i ≤ n ∧ Hid (∃ P', RTab wr RB (.slice a n cap) P' (relTo L t i)) ∧ Hid (wr.ownsInts N 23 .u32 v5 (relOut L t i)) ∧ Hid (Two RB o w wr)) (fun _ v6 _ => n - (intOf v6).toNat)
  case atStart => exact ⟨0, rfl, Nat.zero_le _, hS0, hO0, hT0⟩
  case round =>
    clear hS0 hO0 hT0
    obtain ⟨i, rfl, hi, hS, hO, hB⟩ := hrel
    obtain ⟨P1, S1⟩ := hS.out
    have cR := S1.c0
    clear hS
    by_cases hin : i < n
    · have hii : (i : Int) < (n : Int) := by omega
      obtain ⟨g, cap', p, e, he0, _, hgl, hp, he, e1, hWa, hWb, c0, c1, c2, c3, c4⟩ := S1.at (i := i) (by rw [relTo_len]; have := hn'.out; omega)
      rw [relTo_len, hn'.out] at he0
      cases he0
      have heL := he
      rw [relTo_get L t (by have := hn'.out; omega)] at heL
      obtain ⟨⟨k1, k2, k3⟩, lh0, ll0⟩ := e
      obtain ⟨p1, va, vb⟩ := p
      obtain rfl : p1 = (k1, k2, k3) := e1
      simp only at hWa hWb c0 c1 c2 c3 c4
      obtain ⟨a1, q1, rfl, hq1⟩ := hWa.shape
      obtain ⟨a2, q2, rfl, hq2⟩ := hWb.shape
      have hsze := hszh.out _ (List.mem_of_getElem? heL)
      have hUe := hUh.out _ (List.mem_of_getElem? heL)
      simp only at hsze hUe
      obtain ⟨nh, hnh⟩ : ∃ n, lh0.length = n := ⟨_, rfl⟩
      obtain ⟨nl, hnl⟩ : ∃ n, ll0.length = n := ⟨_, rfl⟩
      rw [hnh] at hWa c3 hq1 hsze
      rw [hnl] at hWb c4 hq2 hsze
      have hNw : N ≤ wr.heap.size := by have := hB.out.size; have := hNh.out; omega
      have bX := below_alloc wr (.cells #[.int .u8 k1, .int .u32 k2, .int .u32 k3, .slice a1 nh q1, .slice a2 nl q2] 97)
      have nX := heap_alloc_new wr (.cells #[.int .u8 k1, .int .u32 k2, .int .u32 k3, .slice a1 nh q1, .slice a2 nl q2] 97)
      obtain ⟨L0, hL0⟩ : ∃ G, wr.heap.size = G := ⟨_, rfl⟩
      obtain ⟨w1, hw1⟩ : ∃ x, wr.alloc (.cells #[.int .u8 k1, .int .u32 k2, .int .u32 k3, .slice a1 nh q1, .slice a2 nl q2] 97) = x := ⟨_, rfl⟩
      rw [hw1, hL0] at nX
      rw [hw1] at bX
      have hgL : g < L0 := by rw [← hL0]; exact hgl
      have hgNe : g < N := hgNh.out g rfl
      have hoG : o = g := ho.out.symm.trans rfl
      have R1 : Hid (Rs w RB (.slice (some ⟨g, 0, none⟩) n cap) P1 (relTo L t i) N o L0 (k1, k2, k3) u5 (relOut L t i) (.slice a1 nh q1) (.slice a2 nl q2) lh0 ll0 w1) :=
        Lib.hid ⟨S1.below bX (Nat.le_refl _), hO.out.kept (grew bX) (Classical.em _), hB.out.row (grew bX) (by simp), nX, hWa.keep bX (Nat.le_refl _), hWb.keep bX (Nat.le_refl _), by simp only [Value.ownBlock, ne_eq, Option.some.injEq]; omega, by have := hNh.out; omega, by have := hNh.out; omega⟩
      have x3 := R1.out.c3.1
      have x4 := R1.out.c4.1
      have m1c := mode_r _ lh0 t w1 R1.out.wa
      have m2c := mode_r _ ll0 t w1 R1.out.wb
      obtain ⟨m1, hm1⟩ : ∃ x, modeL lh0 t = x := ⟨_, rfl⟩
      obtain ⟨m2, hm2⟩ : ∃ x, modeL ll0 t = x := ⟨_, rfl⟩
      rw [hm1] at m1c
      rw [hm2] at m2c
      have hrl : relL (lh0, ll0) t = if m1 = 0 ∧ m2 = 0 then ((lh0, ll0), []) else wakeL (notL lh0 t, notL ll0 t) := by rw [relL]; simp only; rw [hm1, hm2]
      replace hrl := Lib.hid hrl
      replace hm1 := Lib.hid hm1
      replace hm2 := Lib.hid hm2
      replace heL := Lib.hid heL
      replace hnh := Lib.hid hnh
      replace hnl := Lib.hid hnl
      replace hUe := Lib.hid hUe
      clear bX nX S1 hO hB hWa hWb hp he
      go_upto_region 6 with fail
      clear c0 c1 c2 c3 c4 cR hL0
      obtain ⟨bq, hbq⟩ : ∃ b, (decide (m1 = 0) && decide (m2 = 0)) = b := ⟨_, rfl⟩
      replace hw1 := Lib.hid hw1
      go_cut [27, 28, 29, 30, 31, 32, 33, 34, 35, 36, 37, 38] (fun _ _ _ _ _ _ _ _ _ _ _ v38 wx => v38 = .bool bq ∧ wx = w1)
      case first =>
        by_cases h1 : m1 = 0
        · subst h1
          by_cases h2 : m2 = 0
          · subst h2
            go_wp2_with (first
              | (go_at_call 74; first | (with_reducible refine Calls.mono m1c ?_; intro e w' h; rw [h.1, h.2]; clear h w' e) | (with_reducible refine Calls.mono m2c ?_; intro e w' h; rw [h.1, h.2]; clear h w' e)))
            go_meet
            exact ⟨by rw [← hbq]; rfl, rfl⟩
          · have h2b : (m2 == 0) = false := by simpa using h2
            go_wp2_with (first
              | (go_at_call 74; first | (with_reducible refine Calls.mono m1c ?_; intro e w' h; rw [h.1, h.2]; clear h w' e) | (with_reducible refine Calls.mono m2c ?_; intro e w' h; rw [h.1, h.2]; clear h w' e)))
            go_meet
            exact ⟨by rw [← hbq]; simp [h2], rfl⟩
        · have h1b : (m1 == 0) = false := by simpa using h1
          go_wp2_with (go_at_call 74; first | (with_reducible refine Calls.mono m1c ?_; intro e w' h; rw [h.1, h.2]; clear h w' e))
          go_meet
          exact ⟨by rw [← hbq]; simp [h1], rfl⟩
      case rest =>
      obtain ⟨rfl, hcut⟩ := hcut
      obtain rfl : w1 = wc := hcut.symm
      clear m1c m2c
      cases bq
      · have hrl2 : relL (lh0, ll0) t = wakeL (notL lh0 t, notL ll0 t) := by
          rw [hrl.out, if_neg]
          rintro ⟨h1, h2⟩
          simp [h1, h2] at hbq
        have hwi := without_r _ lh0 t w1 R1.out.wa (by have := hnh.out; omega)
        have hl1 := notL_length lh0 t
        have hl2 := notL_length ll0 t
        go_upto_region 8 with (go_at_call 75; refine hwi.mono ?_; rintro e w2 ⟨v9, rfl, o9, b9⟩; have R2 := R1.out.below b9; have y3 := R2.c3.1; have z3 := R2.c3.2; obtain ⟨a9, c9, hs9⟩ := row_shape o9; rw [hs9])
        rw [← hs9]
        have R3 := R2.set3 o9.wants
        obtain ⟨w3, hw3⟩ : ∃ x, w2.setCell ⟨L0, 3, none⟩ v9 = x := ⟨_, rfl⟩
        rw [hw3] at R3 ⊢
        clear hw3 hwi R2 y3 z3 b9 o9 hs9 x3 x4
        have x4 := R3.c4.1
        have hwi := without_r _ ll0 t w3 R3.wb (by have := hnl.out; omega)
        replace R3 := Lib.hid R3
        go_upto_block 2 with (go_at_call 75; refine hwi.mono ?_; rintro e w4 ⟨v10, rfl, o10, b10⟩; have R4 := R3.out.below b10; have y4 := R4.c4.1; have z4 := R4.c4.2; obtain ⟨a10, c10, hs10⟩ := row_shape o10; rw [hs10])
        rw [← hs10]
        have R5 := R4.set4 o10.wants
        obtain ⟨w5, hw5⟩ : ∃ x, w4.setCell ⟨L0, 4, none⟩ v10 = x := ⟨_, rfl⟩
        rw [hw5] at R5 ⊢
        replace R5 := Lib.hid R5
        clear hw5 hwi R4 y4 z4 b10 o10 hs10 x4 R3
        obtain ⟨lh, hlh⟩ : ∃ x, notL lh0 t = x := ⟨_, rfl⟩
        obtain ⟨ll, hll⟩ : ∃ x, notL ll0 t = x := ⟨_, rfl⟩
        rw [hlh] at R5 hl1 hrl2
        rw [hll] at R5 hl2 hrl2
        have hlh2 : Hid (lh.length + ll.length ≤ n0 ∧ ∀ x ∈ ll, U x.1) := Lib.hid ⟨by have := hnh.out; have := hnl.out; omega, fun x hx => hUe.out x (notL_sub (hll ▸ hx))⟩
        have hout : Hid ((relOut L t i).length ≤ i * n0) := Lib.hid (relOut_len (fun e he => by
          have h1 := relL_len e.2 t (hUh.out e he)
          have h2 := hszh.out e he
          omega) i)
        replace hrl2 := Lib.hid hrl2
        replace hlh := Lib.hid hlh
        replace hll := Lib.hid hll
        obtain ⟨zo, hzo⟩ : ∃ x, relOut L t i = x := ⟨_, rfl⟩
        rw [hzo] at hout
        have R5 : Hid (Rs w RB (.slice (some ⟨g, 0, none⟩) n cap) P1 (relTo L t i) N o L0 (k1, k2, k3) u5 zo v9 v10 lh ll w5) := hzo ▸ R5
        have hzo9 : zo.length ≤ 250000 := by have := hout.out; have : i * n0 ≤ 500 * 500 := Nat.mul_le_mul (by omega) hn1; omega
        replace hzo := Lib.hid hzo
        clear hl1 hl2 hbq hout
        go_cut [5, 8, 9, 10] from 49 to 84 (fun u5 _ _ _ wx => ∃ va vb, Hid (Rs w RB (.slice (some ⟨g, 0, none⟩) n cap) P1 (relTo L t i) N o L0 (k1, k2, k3) u5 (zo ++ (wakeL (lh, ll)).2) va vb (wakeL (lh, ll)).1.1 (wakeL (lh, ll)).1.2 wx))
        case first =>
          have hR0 : Hid (Rs w RB (.slice (some ⟨g, 0, none⟩) n cap) P1 (relTo L t i) N o L0 (k1, k2, k3) u5 (zo ++ []) v9 v10 lh ll w5) := by rw [List.append_nil]; exact R5
          have hW0 : Hid (wakeL (lh, ll) = ((wakeL (lh, ll)).1, [] ++ (wakeL (lh, ll)).2)) := Lib.hid rfl
          have hZ0 : Hid (lh.length + ll.length ≤ n0 ∧ ([] : List Int).length + ll.length ≤ n0 ∧ ∀ x ∈ ll, U x.1) := Lib.hid ⟨hlh2.out.1, by have := hlh2.out.1; simp; omega, hlh2.out.2⟩
          clear R5
          go_wp2_with fail
          go_loopw [5] (fun u5 wr => ∃ (l : Lk) (ws : List Int) (va vb : Value), Hid (Rs w RB (.slice (some ⟨g, 0, none⟩) n cap) P1 (relTo L t i) N o L0 (k1, k2, k3) u5 (zo ++ ws) va vb l.1 l.2 wr) ∧ Hid (wakeL (lh, ll) = ((wakeL l).1, ws ++ (wakeL l).2)) ∧ Hid (l.1.length + l.2.length ≤ n0 ∧ ws.length + l.2.length ≤ n0 ∧ ∀ x ∈ l.2, U x.1)) (fun _ wr => lenAt wr L0 4)
          case atStart => exact ⟨(lh, ll), [], v9, v10, hR0, hW0, hZ0⟩
          case round =>
            clear hR0 hW0 hZ0
            obtain ⟨⟨h, l⟩, ws, va, vb, R6, hW, hZ⟩ := hrel
            simp only at R6 hZ
            obtain ⟨x1, y1, rfl, -⟩ := R6.out.wa.shape
            obtain ⟨x2, y2, rfl, hy2⟩ := R6.out.wb.shape
            have e4 := R6.out.c4.1
            rcases l with _ | ⟨x, r⟩
            · have hend : Hid (∃ va vb, Hid (Rs w RB (.slice (some ⟨g, 0, none⟩) n cap) P1 (relTo L t i) N o L0 (k1, k2, k3) u5 (zo ++ (wakeL (lh, ll)).2) va vb (wakeL (lh, ll)).1.1 (wakeL (lh, ll)).1.2 wr)) := by
                rw [hW.out, wakeL_nil, List.append_nil]
                exact Lib.hid ⟨_, _, R6⟩
              go_wp2
              go_meet
              exact hend.out
            · obtain ⟨e2, o2, y2', he2, lE, d1, d2⟩ := R6.out.wb.at (i := 0) (by simp)
              obtain ⟨nl2, hnl2⟩ : ∃ m, (x :: r).length = m := ⟨_, rfl⟩
              rw [hnl2] at R6 e4 hy2 he2
              have he2' := he2
              simp only [Value.slice.injEq] at he2'
              obtain ⟨rfl, -, rfl⟩ := he2'
              have hlr : (0 : Int) < (nl2 : Int) := by rw [← hnl2]; simp only [List.length_cons]; omega
              obtain ⟨xa, xb⟩ := x
              simp only [Nat.zero_mul, Nat.add_zero, List.getD_cons_zero] at d1 d2
              have hme := Lib.hid (lenAt_box R6.out.box)
              have bN := below_alloc wr (.cells #[.int .u32 xa, .int .u8 xb] 99)
              have nN := heap_alloc_new wr (.cells #[.int .u32 xa, .int .u8 xb] 99)
              obtain ⟨W9, hW9⟩ : ∃ x, wr.heap.size = x := ⟨_, rfl⟩
              obtain ⟨w7, hw7⟩ : ∃ x, wr.alloc (.cells #[.int .u32 xa, .int .u8 xb] 99) = x := ⟨_, rfl⟩
              rw [hw7] at bN
              rw [hw7, hW9] at nN
              have R7 := R6.out.below bN
              have hL9 : L0 < W9 := by rw [← hW9]; exact R6.out.lt
              have hft := fits_r _ h (xa, xb) w7 R7.wa
              obtain ⟨fb, hfb⟩ : ∃ b, freeB h (xa, xb) = b := ⟨_, rfl⟩
              rw [hfb] at hft
              simp only at hft
              have f3 := R7.c3.1
              have f0 : w7.cell? ⟨W9, 0, none⟩ = some (.int .u32 xa) := by rw [cell_of_heap nN]; rfl
              have f1 : w7.cell? ⟨W9, 1, none⟩ = some (.int .u8 xb) := by rw [cell_of_heap nN]; rfl
              have l9 : W9 < w7.heap.size := (Array.getElem?_eq_some_iff.1 nN).1
              replace R7 := Lib.hid R7
              replace nN := Lib.hid nN
              replace hnl2 := Lib.hid hnl2
              clear bN R6
              go_upto_region 11 with fail
              clear e4 d1 d2 hW9 lE hlr
              cases fb
              · have hend : Hid (∀ w', RowKit.Below w7.heap.size w7 w' → ∃ va vb, Hid (Rs w RB (.slice (some ⟨g, 0, none⟩) n cap) P1 (relTo L t i) N o L0 (k1, k2, k3) u5 (zo ++ (wakeL (lh, ll)).2) va vb (wakeL (lh, ll)).1.1 (wakeL (lh, ll)).1.2 w')) := by
                  rw [hW.out, wakeL_stop hfb, List.append_nil]
                  exact Lib.hid fun w' b => ⟨_, _, Lib.hid (R7.out.below b)⟩
                clear hfb
                go_wp2_with (go_at_call 76; refine hft.mono ?_; rintro e w8 ⟨rfl, b8⟩)
                go_meet
                exact hend.out _ b8
              · replace hfb := Lib.hid hfb
                go_upto_region 13 with (go_at_call 76; refine hft.mono ?_; rintro e w8 ⟨rfl, b8⟩)
                have R8 := R7.out.below b8
                have nN8 := (b8.block W9 l9).trans nN.out
                clear f3 f0 f1 hft b8 R7 nN l9 hw7
                have f3 := R8.c3.1
                have f0 : w8.cell? ⟨W9, 0, none⟩ = some (.int .u32 xa) := by rw [cell_of_heap nN8]; rfl
                have l9 : W9 < w8.heap.size := (Array.getElem?_eq_some_iff.1 nN8).1
                have hwi := without_r _ h xa w8 R8.wa (by have := hZ.out.1; omega)
                obtain ⟨G8, hG8⟩ : ∃ x, w8.heap.size = x := ⟨_, rfl⟩
                rw [hG8] at hwi l9
                replace R8 := Lib.hid R8
                replace nN8 := Lib.hid nN8
                go_upto_region 14 with (go_at_call 75; refine hwi.mono ?_; rintro e w9 ⟨v9', rfl, o9, b9⟩)
                have nN9 := (b9.block W9 l9).trans nN8.out
                have hG9 : G8 ≤ w9.heap.size := by rw [← hG8]; exact b9.size
                have g0 : w9.cell? ⟨W9, 0, none⟩ = some (.int .u32 xa) := by rw [cell_of_heap nN9]; rfl
                have g1 : w9.cell? ⟨W9, 1, none⟩ = some (.int .u8 xb) := by rw [cell_of_heap nN9]; rfl
                have hnc := heap_alloc_new w9 (.cells #[.int .u32 xa, .int .u8 xb] 99)
                have bM := below_alloc w9 (.cells #[.int .u32 xa, .int .u8 xb] 99)
                have O10 := Lib.hid (o9.alloc (.cells #[.int .u32 xa, .int .u8 xb] 99))
                have B10 := Lib.hid (b9.trans (bM.mono hG9))
                have hC : Hid (CellsAt (w9.alloc (.cells #[.int .u32 xa, .int .u8 xb] 99)) (some ⟨w9.heap.size, 0, none⟩) (wAll [(xa, xb)])) := Lib.hid (cellsAt_block hnc fun j u hj => by
                  match j, hj with
                  | 0, hj => simpa [wAll, wCells] using hj
                  | 1, hj => simpa [wAll, wCells] using hj
                  | j + 2, hj => simp [wAll, wCells] at hj)
                have hG10 : G8 ≤ (w9.alloc (.cells #[.int .u32 xa, .int .u8 xb] 99)).heap.size := by simp; omega
                have hnn := notL_length h xa
                have hhl : h.length ≤ 500 := by have := hZ.out.1; omega
                obtain ⟨LL, hLL⟩ : ∃ x, notL h xa = x := ⟨_, rfl⟩
                rw [hLL] at O10 hnn
                replace hLL := Lib.hid hLL
                clear f3 f0 hwi hnc bM o9 b9 nN9
                go_upto_region 15 with (at_builtin; refine wpList_append_raw Try.underlying95 info_r rfl (by decide) rfl (.tmp 68) (.tmp 70) rfl G8 v9' LL.length (wAll LL) rfl O10.out (some ⟨w9.heap.size, 0, none⟩) 1 1 (wAll [(xa, xb)]) rfl hC.out rfl (wAll_one _) (by unfold maxLen; omega) (by omega) hG10 ?_; intro v11 w11 O11 g11)
                have B11 := B10.out.trans (below_of_grown g11 (fun j hj => (row_ge O10.out j hj).1) hG10)
                have R11 := R8.out.below (by rw [hG8]; exact B11)
                have nN11 := (B11.block W9 l9).trans nN8.out
                have O12 : OwnR w11 G8 v11 (LL ++ [(xa, xb)]) := by rw [OwnR, wAll_append, List.length_append]; exact O11
                have y3 := R11.c3.1
                have z3 := R11.c3.2
                obtain ⟨a11, q11, hs11⟩ := row_shape O11
                have R12 := R11.set3 O12.wants
                have nN12 : (w11.setCell ⟨L0, 3, none⟩ v11).heap[W9]? = _ := (grown_set w11 L0 3 v11).block W9 (Array.getElem?_eq_some_iff.1 nN11).1 (by simp; omega) |>.trans nN11
                clear g0 g1 B11 R11 nN11 O12 O11 g11 O10 hC B10 R8 nN8 hG10 hG9
                rw [hs11]
                go_upto_region 16 with fail
                rw [← hs11]
                clear y3 z3
                obtain ⟨w12, hw12⟩ : ∃ x, w11.setCell ⟨L0, 3, none⟩ v11 = x := ⟨_, rfl⟩
                rw [hw12] at R12 nN12 ⊢
                have f4 := R12.c4.1
                have f0 : w12.cell? ⟨W9, 0, none⟩ = some (.int .u32 xa) := by rw [cell_of_heap nN12]; rfl
                have l9 : W9 < w12.heap.size := (Array.getElem?_eq_some_iff.1 nN12).1
                have hrl : ((xa, xb) :: r).length ≤ 500 := by have := hZ.out.1; omega
                have hwi := without_r _ ((xa, xb) :: r) xa w12 R12.wb (by omega)
                replace R12 := Lib.hid R12
                replace nN12 := Lib.hid nN12
                clear hw12 hs11
                go_upto_region 17 with (go_at_call 75; refine hwi.mono ?_; rintro e w13 ⟨v13, rfl, o13, b13⟩; have R13 := R12.out.below b13; have y4 := R13.c4.1; have z4 := R13.c4.2; obtain ⟨a13, c13, hs13⟩ := row_shape o13; rw [hs13])
                rw [← hs13]
                have R14 := R13.set4 o13.wants
                have nN13 := (b13.block W9 l9).trans nN12.out
                have nN14 : (w13.setCell ⟨L0, 4, none⟩ v13).heap[W9]? = _ := (grown_set w13 L0 4 v13).block W9 (Array.getElem?_eq_some_iff.1 nN13).1 (by simp; omega) |>.trans nN13
                obtain ⟨w14, hw14⟩ : ∃ x, w13.setCell ⟨L0, 4, none⟩ v13 = x := ⟨_, rfl⟩
                rw [hw14] at R14 nN14 ⊢
                clear y4 z4 f4 f0 R12 R13 nN12 nN13 o13 b13 hwi hw14 l9
                have f0 : w14.cell? ⟨W9, 0, none⟩ = some (.int .u32 xa) := by rw [cell_of_heap nN14]; rfl
                have hnc := heap_alloc_new w14 (.cells #[.int .u32 xa] 23)
                have R15 := R14.below (below_alloc w14 (.cells #[.int .u32 xa] 23))
                have hN15 : N ≤ (w14.alloc (.cells #[.int .u32 xa] 23)).heap.size := by have := R15.low; have := hNh.out; omega
                have ux : U xa := hZ.out.2.2 (xa, xb) (by simp)
                have hlw : (zo ++ ws).length + 1 < 1000000 := by have := hZ.out.2.1; simp only [List.length_append, List.length_cons] at this ⊢; omega
                replace R15 := Lib.hid R15
                replace hnc := Lib.hid hnc
                replace ux := Lib.hid ux
                clear R14 nN14
                go_wp2_with (at_builtin; refine wpList_append_n rfl (.tmp 80) (.tmp 83) rfl N u5 (zo ++ ws) rfl R15.out.out (some ⟨w14.heap.size, 0, none⟩) 1 1 [xa] rfl (nums_one hnc.out) (by intro z hz; rw [List.mem_singleton.1 hz]; exact ux.out) rfl hlw hN15 ?_; intro v16 w16 O16 g16)
                have R16 := R15.out.more g16 O16
                have hmz : Hid (lenAt w16 L0 4 < lenAt wr L0 4) := by
                  have h1 := R16.box
                  rw [hs13] at h1
                  have h2 := notL_cons_lt (xa, xb) r
                  have h3 := hnl2.out
                  simp only [List.length_cons] at h3 h2
                  exact Lib.hid (by rw [lenAt_box h1, hme.out]; omega)
                have hend : Hid (∃ (l : Lk) (ws : List Int) (va vb : Value), Hid (Rs w RB (.slice (some ⟨g, 0, none⟩) n cap) P1 (relTo L t i) N o L0 (k1, k2, k3) v16 (zo ++ ws) va vb l.1 l.2 w16) ∧ Hid (wakeL (lh, ll) = ((wakeL l).1, ws ++ (wakeL l).2)) ∧ Hid (l.1.length + l.2.length ≤ n0 ∧ ws.length + l.2.length ≤ n0 ∧ ∀ x ∈ l.2, U x.1)) := by
                  have hZ' := hZ.out
                  have h2 := notL_cons_lt (xa, xb) r
                  simp only at hZ' h2
                  simp only [List.length_cons] at hZ'
                  refine Lib.hid ⟨(LL ++ [(xa, xb)], notL ((xa, xb) :: r) xa), ws ++ [xa], v11, v13, Lib.hid ?_, Lib.hid ?_, Lib.hid ⟨?_, ?_, ?_⟩⟩
                  · rw [← List.append_assoc]; exact R16
                  · rw [hW.out, wakeL_step hfb.out, ← hLL.out]; simp
                  · simp only [List.length_append, List.length_cons, List.length_nil]; omega
                  · simp only [List.length_append, List.length_cons, List.length_nil]; omega
                  · exact fun y hy => hZ'.2.2 y (notL_sub hy)
                clear O16 g16 R15 R16 f0
                go_wp2
                go_roundw
                case rel => exact hend.out
                case measure => exact hmz.out
        case rest =>
        obtain ⟨va, vb, R6⟩ := hcut
        obtain ⟨q, hqw⟩ : ∃ x, wakeL (lh, ll) = x := ⟨_, rfl⟩
        rw [hqw] at R6
        have z1 := relTo_succ (t := t) heL.out
        have z2 := relOut_succ (t := t) heL.out
        rw [hrl2.out, hqw] at z1 z2
        rw [hzo.out] at z2
        obtain ⟨b1, r1, rfl, -⟩ := R6.out.wa.shape
        obtain ⟨b2, r2, rfl, -⟩ := R6.out.wb.shape
        obtain ⟨m1', hm1'⟩ : ∃ m, q.1.1.length = m := ⟨_, rfl⟩
        obtain ⟨m2', hm2'⟩ : ∃ m, q.1.2.length = m := ⟨_, rfl⟩
        rw [hm1', hm2'] at R6
        obtain ⟨g', cap'', p', e', he', _, hgl', _, _, _, _, _, c0, c1, c2, c3, c4⟩ := R6.out.tab.at (i := i) (by rw [relTo_len]; have := hn'.out; omega)
        rw [relTo_len, hn'.out] at he'
        obtain ⟨rfl, -⟩ : g = g' ∧ cap = cap'' := by simpa using he'
        have cR := R6.out.tab.c0
        have hX := R6.out.box
        unfold RBox at hX
        simp only at hX
        have y0 : wc.cell? ⟨L0, 0, none⟩ = some (.int .u8 k1) := by rw [cell_of_heap hX]; rfl
        have y1 : wc.cell? ⟨L0, 1, none⟩ = some (.int .u32 k2) := by rw [cell_of_heap hX]; rfl
        have y2 : wc.cell? ⟨L0, 2, none⟩ = some (.int .u32 k3) := by rw [cell_of_heap hX]; rfl
        have y3 : wc.cell? ⟨L0, 3, none⟩ = some (.slice b1 m1' r1) := by rw [cell_of_heap hX]; rfl
        have y4 : wc.cell? ⟨L0, 4, none⟩ = some (.slice b2 m2' r2) := by rw [cell_of_heap hX]; rfl
        have u0 := R6.out.tab.froz (i * 5)
        have u1 := R6.out.tab.froz (i * 5 + 1)
        have u2 := R6.out.tab.froz (i * 5 + 2)
        have u3 := R6.out.tab.froz (i * 5 + 3)
        have u4 := R6.out.tab.froz (i * 5 + 4)
        obtain ⟨hp1, hp2⟩ := R6.out.tab.put (i := i) (by rw [relTo_len]; have := hn'.out; omega) (k1, k2, k3) (va := .slice b1 m1' r1) (vb := .slice b2 m2' r2) (l := q.1) R6.out.wa R6.out.wb
        rw [← z1] at hp1
        have hfin := rel_end hp1 hp2 (R6.out.out) hoG R6.out.two hgNe
        rw [← z2] at hfin
        replace hfin := Lib.hid hfin
        clear hp1 hp2 z1 z2 he' hX R6 R5 hqw hm1' hm2' hrl2 hrl hlh2
        go_upto_region 18 with fail
        first | go_region | fail
        all_goals (
          go_wp2
          go_roundw
          case rel => first
            | exact ⟨i + 1, by go_num, by omega, Lib.hid hfin.out.1, Lib.hid hfin.out.2.1, Lib.hid hfin.out.2.2⟩
            | exact ⟨i + 1, by go_num, by omega, Lib.hid (rel_drew hfin.out).1, Lib.hid (rel_drew hfin.out).2.1, Lib.hid (rel_drew hfin.out).2.2⟩
          case measure => simp [intOf]; omega)
      · have hst : relL (lh0, ll0) t = ((lh0, ll0), []) := by
          rw [hrl.out, if_pos]
          simpa using hbq
        obtain ⟨z1, z2⟩ := relTo_same heL.out hst
        have S2 : Hid (∃ P', RTab w1 RB (.slice (some ⟨g, 0, none⟩) n cap) P' (relTo L t (i + 1))) := Lib.hid ⟨P1, by rw [z1]; exact R1.out.tab⟩
        have O2 : Hid (w1.ownsInts N 23 .u32 u5 (relOut L t (i + 1))) := Lib.hid (by rw [z2]; exact R1.out.out)
        have B2 := Lib.hid R1.out.two
        clear z1 z2 hst hbq
        go_wp2
        go_roundw
        case rel => exact ⟨i + 1, by go_num, by omega, S2, O2, B2⟩
        case measure => simp [intOf]; omega
    · obtain rfl : i = n := by omega
      obtain ⟨z1, z2⟩ := relTo_all L t
      rw [hn'.out] at z1 z2
      have S2 : Hid (RTab wr RB (.slice a i cap) P1 (rRel L t).1) := Lib.hid (by rw [← z1]; exact S1)
      have O2 : Hid (wr.ownsInts N 23 .u32 u5 (rRel L t).2) := Lib.hid (by rw [← z2]; exact hO.out)
      clear z1 z2 S1
      go_wp2
      go_ret
      exact ⟨_, P1, rfl, S2.out, O2.out, hB.out⟩
end Go.Proofs.Ytilknhackmccpaa
