/- The document's table: Edges, its walk. -/
import Derived.Test.YtilknhackmccpaaRefP
import Derived.Deep.RegionHeld3
import Derived.Deep.AppendLies
set_option linter.unusedVariables false
set_option linter.unusedSimpArgs false
namespace Go.Proofs.Ytilknhackmccpaa
open Go.RowKit Go.Sort Go.Lib Go.Maps

set_option maxRecDepth 100000 in
set_option maxHeartbeats 16000000 in
theorem edges_r {w : World} {RB : Nat} {v : Value} {P : List RL} {L : RT} (S : RTab w RB v P L) (n0 : Nat) (hn0 : L.length ≤ 200) (hn1 : n0 ≤ 200) (hsz : ∀ e ∈ L, e.2.1.length + e.2.2.length ≤ n0) (hU : ∀ e ∈ L, (∀ x ∈ e.2.1, U x.1) ∧ ∀ x ∈ e.2.2, U x.1) (hE : (rEdges L).length < 900000) :
    Calls Try.prog 34 #[.pointer (some ⟨RB, 0, none⟩)] w fun e w' => ∃ v', e = .returned v' ∧ OwnE w' w.heap.size v' (rEdges L) ∧ RowKit.Below w.heap.size w w' := by
  obtain ⟨a, cap, rfl, hcap, hcm⟩ := S.shape
  obtain ⟨i0, hi0, hz0, hz1, hz2⟩ := info_parts info_e
  obtain ⟨N, hN⟩ : ∃ N, w.heap.size = N := ⟨_, rfl⟩
  obtain ⟨n, hn⟩ : ∃ n, L.length = n := ⟨_, rfl⟩
  rw [hn] at S hn0 hcap
  rw [hN]
  have hcap' : (n : Int) ≤ (cap : Int) := by omega
  have hW0 : Hid (ReadT w (.slice none 0 0) (canon ((L.take 0).flatMap fun e => e.2.2.map (·.1)))) := Lib.hid (by simpa [canon_nil] using readT_nil _)
  have hB0 : Hid (RowKit.Below N w w) := Lib.hid (RowKit.Below.refl _ _)
  have hfar : Hid (∀ i, i < n → ∃ g cap' k h l a1 q1 a2 q2, a = some ⟨g, 0, none⟩ ∧ cap = cap' ∧ L[i]? = some (k, h, l) ∧ h.length ≤ min maxLen q1 ∧ l.length ≤ min maxLen q2 ∧ ∀ wx, RowKit.Below N w wx →
    wx.cell? ⟨RB, 0, none⟩ = some (.slice a n cap) ∧ wx.cell? ⟨g, i * 5, none⟩ = some (.int .u8 k.1) ∧ wx.cell? ⟨g, i * 5 + 1, none⟩ = some (.int .u32 k.2.1) ∧ wx.cell? ⟨g, i * 5 + 2, none⟩ = some (.int .u32 k.2.2) ∧ wx.cell? ⟨g, i * 5 + 3, none⟩ = some (.slice a1 h.length q1) ∧ wx.cell? ⟨g, i * 5 + 4, none⟩ = some (.slice a2 l.length q2) ∧ WantsR wx (.slice a1 h.length q1) h ∧ WantsR wx (.slice a2 l.length q2) l) := Lib.hid fun i hi => by
    obtain ⟨g, cap', k, h, l, a1, q1, a2, q2, e, _, h2⟩ := S.far (i := i) (by omega)
    simp only [Value.slice.injEq] at e
    rw [hN] at h2
    exact ⟨g, cap', k, h, l, a1, q1, a2, q2, e.1, e.2.2, h2⟩
  have hcR : Hid (∀ wx, RowKit.Below N w wx → wx.cell? ⟨RB, 0, none⟩ = some (.slice a n cap)) := Lib.hid fun wx b => (b.cell (p := ⟨RB, 0, none⟩) (by rw [← hN]; exact S.lt)).trans S.c0
  have hszh := Lib.hid hsz
  have hUh := Lib.hid hU
  have hEh := Lib.hid hE
  have hn' := Lib.hid hn
  have hNh := Lib.hid hN
  have hBc0 : Hid (RowKit.Below N w w) := hB0
  have cR := hcR.out _ hB0.out
  clear S hn hsz hU hcap hN hE hcm
  go_enter Try.func34, Try.ntmps34
  go_wp2
  clear cR
  go_loopw [3, 4] (fun v3 v4 wr => ∃ i : Nat, v4 = .int .i64 i ∧ i ≤ n ∧ Hid (ReadT wr v3 (canon ((L.take i).flatMap fun e => e.2.2.map (·.1)))) ∧ Hid (RowKit.Below N w wr)) (fun _ v4 _ => n - (intOf v4).toNat)
  case atStart => exact ⟨0, rfl, Nat.zero_le _, hW0, hB0⟩
  case round =>
    clear hW0 hB0 hBc0
    obtain ⟨i, rfl, hi, hW, hB⟩ := hrel
    have cR := hcR.out _ hB.out
    by_cases hin : i < n
    · have hii : (i : Int) < (n : Int) := by omega
      obtain ⟨g, cap', ⟨k1, k2, k3⟩, h, l, a1, q1, a2, q2, rfl, rfl, he, hq1, hq2, hf⟩ := hfar.out i hin
      have hsze := hszh.out _ (List.mem_of_getElem? he)
      have hUe := (hUh.out _ (List.mem_of_getElem? he)).2
      have hws := who_snoc he
      simp only at hsze hUe hws
      have hwl := who_len hszh.out i
      obtain ⟨A, hA⟩ : ∃ x, ((L.take i).flatMap fun e => e.2.2.map (·.1)) = x := ⟨_, rfl⟩
      rw [hA] at hW hws hwl
      have hAl : A.length ≤ 40000 := by have : i * n0 ≤ 200 * 200 := Nat.mul_le_mul (by omega) hn1; omega
      obtain ⟨nl, hnl⟩ : ∃ n, l.length = n := ⟨_, rfl⟩
      rw [hnl] at hf hq2 hsze
      have hW1 : Hid (ReadT wr u3 (canon (A ++ (l.take 0).map (·.1)))) := Lib.hid (by simpa using hW.out)
      have c4 := (hf _ hB.out).2.2.2.2.2.1
      replace hf := Lib.hid hf
      replace hUe := Lib.hid hUe
      replace hws := Lib.hid hws
      replace hnl := Lib.hid hnl
      clear hW hwl hA he
      go_wp2
      clear c4 cR
      go_loopw [3, 5] (fun v3 v5 wr => ∃ k : Nat, v5 = .int .i64 k ∧ k ≤ nl ∧ Hid (ReadT wr v3 (canon (A ++ (l.take k).map (·.1)))) ∧ Hid (RowKit.Below N w wr)) (fun _ v5 _ => nl - (intOf v5).toNat)
      case atStart => exact ⟨0, rfl, Nat.zero_le _, hW1, hB⟩
      case round =>
        clear hW1 hB
        obtain ⟨k, rfl, hk, hW, hB⟩ := hrel
        obtain ⟨cR, -, -, -, -, c4, -, hWl⟩ := hf.out _ hB.out
        have hNw : N ≤ wr.heap.size := by have := hB.out.size; have := hNh.out; omega
        by_cases hkn : k < nl
        · have hkk : (k : Int) < (nl : Int) := by omega
          obtain ⟨eb, off, q', e', hlt, d1, -⟩ := hWl.at (i := k) (by have := hnl.out; omega)
          rw [hnl.out] at e'
          simp only [Value.slice.injEq] at e'
          obtain ⟨rfl, -, rfl⟩ := e'
          have hms := map_snoc (l := l) (k := k) (by have := hnl.out; omega)
          have hzu := hUe.out (l.getD k (0, 0)) (by rw [getD_eq l (by have := hnl.out; omega)]; exact List.getElem_mem _)
          have hlt2 : ((l.take k).map (·.1)).length ≤ k := by rw [List.length_map, List.length_take]; omega
          obtain ⟨z, hz⟩ : ∃ y, (l.getD k (0, 0)).1 = y := ⟨_, rfl⟩
          rw [hz] at d1 hms hzu
          obtain ⟨L2, hL2⟩ : ∃ x, (l.take k).map (·.1) = x := ⟨_, rfl⟩
          rw [hL2] at hW hms hlt2
          have hcl := canon_length (A ++ L2)
          rw [List.length_append] at hcl
          obtain ⟨a5, c5, rfl, -⟩ := hW.out.1.nums
          have hin' := into_r _ (canon (A ++ L2)) z wr hW.out hzu (by omega)
          rw [← canon_snoc] at hin'
          have hcz : A ++ L2 ++ [z] = A ++ (l.take (k + 1)).map (·.1) := by rw [hms, List.append_assoc]
          rw [hcz] at hin'
          replace hcz := Lib.hid hcz
          clear hms hz hL2 hWl hW hlt hcl
          go_wp2_with (go_at_call 24; refine hin'.mono ?_; rintro e w8 ⟨v8, rfl, hR8, b8⟩)
          have hR8' := Lib.hid hR8
          have B8 := Lib.hid (hB.out.trans (b8.mono hNw))
          clear hR8 b8
          go_roundw
          case rel => exact ⟨k + 1, by go_num, by omega, hR8', B8⟩
          case measure => simp [intOf]; omega
        · obtain rfl : k = nl := by omega
          have hW2 : Hid (ReadT wr u3 (canon ((L.take (i + 1)).flatMap fun e => e.2.2.map (·.1)))) := Lib.hid (by
            have := hW.out
            rw [List.take_of_length_le (by have := hnl.out; omega), ← hws.out] at this
            exact this)
          clear hWl
          go_wp2
          go_roundw
          case rel => exact ⟨i + 1, by go_num, by omega, hW2, hB⟩
          case measure => simp [intOf]; omega
    · obtain rfl : i = n := by omega
      rw [List.take_of_length_le (by have := hn'.out; omega)] at hW
      have hW2 : Hid (ReadT wr u3 (rWho L)) := hW
      obtain ⟨nw, hnw⟩ : ∃ m, (rWho L).length = m := ⟨_, rfl⟩
      obtain ⟨a3, c3, hs3, -⟩ := hW2.out.1.nums
      rw [hnw] at hs3
      subst hs3
      have hwl := who_len hszh.out i
      rw [List.take_of_length_le (by have := hn'.out; omega)] at hwl
      have hnw9 : nw ≤ 40000 := by
        have h1 : nw ≤ (L.flatMap fun e => e.2.2.map (·.1)).length := by rw [← hnw]; exact canon_length _
        have : i * n0 ≤ 200 * 200 := Nat.mul_le_mul hn0 hn1
        omega
      obtain ⟨w1, hw1⟩ : ∃ x, wr = x := ⟨_, rfl⟩
      obtain ⟨G, hG⟩ : ∃ x, w1.heap.size = x := ⟨_, rfl⟩
      have hB1 : Hid (RowKit.Below N w w1) := hw1 ▸ hB
      have hNG : N ≤ G := by have := hB1.out.size; have := hNh.out; omega
      have hE0 : Hid (OwnE wr G (.slice none 0 0) (((rWho L).take 0).flatMap fun x => L.flatMap fun e => rEdgL x e.2)) := Lib.hid (OwnE.nil _ _)
      have hB0 : Hid (RowKit.Below G w1 wr) := Lib.hid (by rw [hw1]; exact RowKit.Below.refl _ _)
      have hWc : Hid (∀ m x, (rWho L)[m]? = some x → ∃ ga oa, a3 = some ⟨ga, oa, none⟩ ∧ ga < G ∧ ∀ wx, RowKit.Below G w1 wx → wx.cell? ⟨ga, oa + m, none⟩ = some (.int .u32 x)) := Lib.hid fun m x hx => by
        have hm := (List.getElem?_eq_some_iff.1 hx).1
        obtain ⟨a', c', e', hNm⟩ := (hw1 ▸ hW2.out : ReadT w1 _ _).1.nums
        simp only [Value.slice.injEq] at e'
        obtain ⟨rfl, -, -⟩ := e'
        obtain ⟨ga, oa, ea, hl, hc⟩ := nums_at hNm hm
        refine ⟨ga, oa, ea, by rw [← hG]; exact hl, fun wx b => (b.cell (p := ⟨ga, oa + m, none⟩) (by rw [← hG]; exact hl)).trans ?_⟩
        rw [hc m hm, List.getD_eq_getElem?_getD, hx]; rfl
      replace hG := Lib.hid hG
      replace hnw := Lib.hid hnw
      clear hW hW2 hB hwl hw1
      go_wp2
      clear cR
      go_loopw [6, 7] (fun v6 v7 wr => ∃ m : Nat, v7 = .int .i64 m ∧ m ≤ nw ∧ Hid (OwnE wr G v6 (((rWho L).take m).flatMap fun x => L.flatMap fun e => rEdgL x e.2)) ∧ Hid (RowKit.Below G w1 wr)) (fun _ v7 _ => nw - (intOf v7).toNat)
      case atStart => exact ⟨0, rfl, Nat.zero_le _, hE0, hB0⟩
      case round =>
        clear hE0 hB0
        obtain ⟨m, rfl, hm, hE, hB⟩ := hrel
        by_cases hmn : m < nw
        · have hmm : (m : Int) < (nw : Int) := by omega
          obtain ⟨x, hx⟩ : ∃ x, (rWho L)[m]? = some x := ⟨_, List.getElem?_eq_getElem (by have := hnw.out; omega)⟩
          obtain ⟨ga, oa, rfl, hgaG, hxc⟩ := hWc.out m x hx
          have hsn := flat_snoc (fun x => L.flatMap fun e => rEdgL x e.2) hx
          obtain ⟨A1, hA1⟩ : ∃ y, (((rWho L).take m).flatMap fun x => L.flatMap fun e => rEdgL x e.2) = y := ⟨_, rfl⟩
          rw [hA1] at hE hsn
          have hE1 : Hid (OwnE wr G u6 (A1 ++ (L.take 0).flatMap fun e => rEdgL x e.2)) := Lib.hid (by simpa using hE.out)
          have cR := hcR.out _ (hB1.out.trans (hB.out.mono hNG))
          replace hx := Lib.hid hx
          replace hxc := Lib.hid hxc
          replace hsn := Lib.hid hsn
          replace hA1 := Lib.hid hA1
          clear hE
          go_wp2
          clear cR
          go_loopw [6, 8] (fun v6 v8 wr => ∃ p : Nat, v8 = .int .i64 p ∧ p ≤ i ∧ Hid (OwnE wr G v6 (A1 ++ (L.take p).flatMap fun e => rEdgL x e.2)) ∧ Hid (RowKit.Below G w1 wr)) (fun _ v8 _ => i - (intOf v8).toNat)
          case atStart => exact ⟨0, rfl, Nat.zero_le _, hE1, hB⟩
          case round =>
            clear hE1 hB
            obtain ⟨p, rfl, hp, hE, hB⟩ := hrel
            have cR := hcR.out _ (hB1.out.trans (hB.out.mono hNG))
            by_cases hpn : p < i
            · have hpp : (p : Int) < (i : Int) := by omega
              obtain ⟨g, cap', ⟨k1, k2, k3⟩, h, l, a1, q1, a2, q2, rfl, rfl, he, hq1, hq2, hf⟩ := hfar.out p hpn
              have hsze := hszh.out _ (List.mem_of_getElem? he)
              have hUe := hUh.out _ (List.mem_of_getElem? he)
              simp only at hsze hUe
              have hsn2 := flat_snoc (fun e : Ky × Lk => rEdgL x e.2) he
              obtain ⟨A2, hA2⟩ : ∃ y, A1 ++ (L.take p).flatMap (fun e => rEdgL x e.2) = y := ⟨_, rfl⟩
              rw [hA2] at hE
              obtain ⟨nl, hnl⟩ : ∃ n, l.length = n := ⟨_, rfl⟩
              obtain ⟨nh, hnh⟩ : ∃ n, h.length = n := ⟨_, rfl⟩
              rw [hnl, hnh] at hf hsze
              rw [hnl] at hq2
              rw [hnh] at hq1
              have hE1 : Hid (OwnE wr G u6 (A2 ++ (List.range 0).flatMap (rBlk x (h, l)))) := Lib.hid (by simpa using hE.out)
              have hf2 : Hid (∀ wx, RowKit.Below G w1 wx → wx.cell? ⟨RB, 0, none⟩ = some (.slice (some ⟨g, 0, none⟩) i cap) ∧ wx.cell? ⟨g, p * 5, none⟩ = some (.int .u8 k1) ∧ wx.cell? ⟨g, p * 5 + 1, none⟩ = some (.int .u32 k2) ∧ wx.cell? ⟨g, p * 5 + 2, none⟩ = some (.int .u32 k3) ∧ wx.cell? ⟨g, p * 5 + 3, none⟩ = some (.slice a1 nh q1) ∧ wx.cell? ⟨g, p * 5 + 4, none⟩ = some (.slice a2 nl q2) ∧ WantsR wx (.slice a1 nh q1) h ∧ WantsR wx (.slice a2 nl q2) l ∧ wx.cell? ⟨ga, oa + m, none⟩ = some (.int .u32 x)) := Lib.hid fun wx b => by
                obtain ⟨y1, y2, y3, y4, y5, y6, y7, y8⟩ := hf wx (hB1.out.trans (b.mono hNG))
                exact ⟨y1, y2, y3, y4, y5, y6, y7, y8, hxc.out wx b⟩
              have c4 := (hf2.out _ hB.out).2.2.2.2.2.1
              replace he := Lib.hid he
              replace hUe := Lib.hid hUe
              replace hnl := Lib.hid hnl
              replace hnh := Lib.hid hnh
              replace hsn2 := Lib.hid hsn2
              replace hA2 := Lib.hid hA2
              clear hE hf
              go_wp2
              clear c4 cR
              go_loopw [6, 9] (fun v6 v9 wr => ∃ k : Nat, v9 = .int .i64 k ∧ k ≤ nl ∧ Hid (OwnE wr G v6 (A2 ++ (List.range k).flatMap (rBlk x (h, l)))) ∧ Hid (RowKit.Below G w1 wr)) (fun _ v9 _ => nl - (intOf v9).toNat)
              case atStart => exact ⟨0, rfl, Nat.zero_le _, hE1, hB⟩
              case round =>
                clear hE1 hB
                obtain ⟨k, rfl, hk, hE, hB⟩ := hrel
                obtain ⟨cR, c0, c1, c2, c3, c4, hWh, hWl, cx⟩ := hf2.out _ hB.out
                have hGw : G ≤ wr.heap.size := by have := hB.out.size; have := hG.out; omega
                by_cases hkn : k < nl
                · have hkk : (k : Int) < (nl : Int) := by omega
                  obtain ⟨eb, off, q', e', hlt, d1, -⟩ := hWl.at (i := k) (by have := hnl.out; omega)
                  rw [hnl.out] at e'
                  simp only [Value.slice.injEq] at e'
                  obtain ⟨rfl, -, rfl⟩ := e'
                  have hrs := range_snoc (rBlk x (h, l)) k
                  have hrb : rBlk x (h, l) k = if (l.getD k (0, 0)).1 = x then (blkL h l k).map (fun o => (x, o)) else [] := rfl
                  obtain ⟨z, hz⟩ : ∃ y, (l.getD k (0, 0)).1 = y := ⟨_, rfl⟩
                  rw [hz] at d1 hrb
                  have hq : Hid (∀ q, RowKit.Below wr.heap.size wr (wr.drewN q)) := Lib.hid fun q => by have := RowKit.Below.refl wr.heap.size wr; exact ⟨this.os, this.tape, this.output, this.size, this.block⟩
                  replace hrs := Lib.hid hrs
                  replace hrb := Lib.hid hrb
                  replace hz := Lib.hid hz
                  replace hWh := Lib.hid hWh
                  replace hWl := Lib.hid hWl
                  by_cases hzx : z = x
                  · have hzb : (z != x) = false := by simpa using hzx
                    go_upto_region 19 with fail
                    first | go_quiet (first | fail) | fail
                    clear cR c0 c1 c2 c3 c4 cx d1
                    obtain ⟨cR, c0, c1, c2, c3, c4, hWh2, hWl2, cx⟩ := hf2.out _ (hB.out.trans ((hq.out nq).mono hGw))
                    have hbl := blocks_r k1 k2 k3 _ _ h l k hWh2 hWl2 (by have := hnh.out; omega) (by have := hnl.out; omega) (by have := hnl.out; omega) hUe.out.1 hUe.out.2
                    have hBq := Lib.hid (hB.out.trans ((hq.out nq).mono hGw))
                    have hEq : Hid (OwnE (wr.drewN nq) G u6 (A2 ++ (List.range k).flatMap (rBlk x (h, l)))) := Lib.hid (hE.out.below (grew (hq.out nq)) (Classical.em _))
                    obtain ⟨B, hB9⟩ : ∃ y, blkL h l k = y := ⟨_, rfl⟩
                    rw [hB9] at hbl
                    have hmore := fun j hj => edges_more L (m := m) (i := p) (k := k) (j := j) hx.out he.out (by simpa [hnl.out] using hkn) (hz.out.trans hzx) hj
                    rw [hA1.out, hA2.out] at hmore
                    simp only at hmore
                    rw [hB9] at hmore
                    have hst : Hid ((List.range (k + 1)).flatMap (rBlk x (h, l)) = (List.range k).flatMap (rBlk x (h, l)) ++ B.map fun o => (x, o)) := Lib.hid (by rw [hrs.out, hrb.out, if_pos hzx, hB9])
                    obtain ⟨A3, hA3⟩ : ∃ y, (A2 ++ (List.range k).flatMap (rBlk x (h, l))) = y := ⟨_, rfl⟩
                    rw [hA3] at hEq hmore
                    obtain ⟨wq, hwq⟩ : ∃ y, wr.drewN nq = y := ⟨_, rfl⟩
                    rw [hwq] at hBq hEq hbl cR c0 c1 c2 c3 c4 cx ⊢
                    have hGq : G ≤ wq.heap.size := by have := hBq.out.size; have := hG.out; omega
                    replace hmore := Lib.hid hmore
                    replace hB9 := Lib.hid hB9
                    replace hA3 := Lib.hid hA3
                    clear hwq hE hB hWh hWl hWh2 hWl2 hrs hrb hq cx hlt
                    go_upto_region 21 with (go_at_call 58; refine hbl.mono ?_; rintro e w5 ⟨v10, rfl, hRB, b5⟩)
                    obtain ⟨a10, c10, rfl, -⟩ := hRB.1.nums
                    obtain ⟨nb, hnb⟩ : ∃ n, B.length = n := ⟨_, rfl⟩
                    rw [hnb] at hRB ⊢
                    have B5 := Lib.hid (hBq.out.trans (b5.mono hGq))
                    have E5 : Hid (OwnE w5 G u6 (A3 ++ (B.take 0).map fun o => (x, o))) := Lib.hid (by rw [List.take_zero, List.map_nil, List.append_nil]; exact hEq.out.below (grew b5) (Classical.em _))
                    have hRB5 := Lib.hid hRB
                    have hnb9 : nb ≤ 40000 := by
                      have := blkL_len h l k
                      rw [hB9.out, hnb] at this
                      have := hnl.out
                      have := hnh.out
                      omega
                    replace hnb := Lib.hid hnb
                    clear b5 hRB hEq hBq cR c0 c1 c2 c3 c4
                    go_wp2
                    go_loopw [6, 11] (fun v6 v11 ws => ∃ j : Nat, v11 = .int .i64 j ∧ j ≤ nb ∧ Hid (OwnE ws G v6 (A3 ++ (B.take j).map fun o => (x, o))) ∧ Hid (ReadT ws (.slice a10 nb c10) B) ∧ Hid (RowKit.Below G w1 ws)) (fun _ v11 _ => nb - (intOf v11).toNat)
                    case atStart => exact ⟨0, rfl, Nat.zero_le _, E5, hRB5, B5⟩
                    case round =>
                      clear E5 hRB5 B5
                      obtain ⟨j, rfl, hj, hE, hR, hB⟩ := hrel
                      have hGw : G ≤ wr.heap.size := by have := hB.out.size; have := hG.out; omega
                      by_cases hjn : j < nb
                      · have hjj : (j : Int) < (nb : Int) := by omega
                        have cx := (hf2.out _ hB.out).2.2.2.2.2.2.2.2
                        obtain ⟨a', c', e', hNm⟩ := hR.out.1.nums
                        simp only [Value.slice.injEq] at e'
                        obtain ⟨rfl, -, rfl⟩ := e'
                        obtain ⟨gk, ok, rfl, hkl, hkc⟩ := nums_at hNm (i := j) (by have := hnb.out; omega)
                        have cj := hkc j (by have := hnb.out; omega)
                        obtain ⟨y, hy⟩ : ∃ y, B.getD j 0 = y := ⟨_, rfl⟩
                        rw [hy] at cj
                        have hst2 : (B.take (j + 1)).map (fun o => (x, o)) = (B.take j).map (fun o => (x, o)) ++ [(x, y)] := by
                          rw [take_snoc (by have := hnb.out; omega), hy, List.map_append]; rfl
                        have hlt : ((B.take j).map fun o => (x, o)).length ≤ j := by rw [List.length_map, List.length_take]; omega
                        have hmo := hmore.out j (by have := hnb.out; omega)
                        obtain ⟨L2, hL2⟩ : ∃ l, (B.take j).map (fun o => (x, o)) = l := ⟨_, rfl⟩
                        rw [hL2] at hE hst2 hlt
                        replace hst2 := Lib.hid hst2
                        have hnc := heap_alloc_new wr (.cells #[.int .u32 x, .int .u32 y] 35)
                        have bN := below_alloc wr (.cells #[.int .u32 x, .int .u32 y] 35)
                        have E6 := Lib.hid (hE.out.below (grew bN) (Classical.em _))
                        have R6 := Lib.hid (hR.out.below bN (Nat.le_refl _))
                        have B6 := Lib.hid (hB.out.trans (bN.mono hGw))
                        have hEd : Hid (Edg (wr.alloc (.cells #[.int .u32 x, .int .u32 y] 35)) (some ⟨wr.heap.size, 0, none⟩) [(x, y)]) := Lib.hid (edg_block hnc fun i hi => by
                          obtain rfl : i = 0 := by simpa using hi
                          exact ⟨rfl, rfl⟩)
                        have hlw : (A3 ++ L2).length + 1 < 1000000 := by have := hEh.out; rw [List.length_append]; omega
                        have hG6 : G ≤ (wr.alloc (.cells #[.int .u32 x, .int .u32 y] 35)).heap.size := by simp; omega
                        replace hmo := Lib.hid hmo
                        clear hkc hy hL2 hnc bN hE hR hB hNm
                        have hne1 : u6.ownBlock ≠ some ga := fun e => by have := (row_ge E6.out ga e).1; omega
                        have hne2 : u6.ownBlock ≠ some gk := fun e => by
                          obtain ⟨cs, fr, h1⟩ := own_edge E6.out e
                          obtain ⟨cs', fr', h2⟩ := R6.out.2 gk rfl
                          rw [h1] at h2
                          cases h2
                        have lga : ga < wr.heap.size := by omega
                        have Ed := Lib.hid (World.ownsRow.drew E6.out)
                        have Rd := Lib.hid (R6.out.below (RowKit.Below.refl _ _).drew (Nat.le_refl _))
                        have Bd := Lib.hid (B6.out.trans ((RowKit.Below.refl _ _).drew.mono hG6))
                        clear hEd
                        go_upto_region 24 with fail
                        go_region_held3 (fun w' => w'.cell? ⟨ga, oa + m, none⟩ = some (.int .u32 x) ∧ w'.cell? ⟨gk, ok + j, none⟩ = some (.int .u32 y))
                          (first
                            | go_keep
                            | (go_split_ands
                               refine ⟨?_, ?_⟩
                               · (rw [hgrow.cell_far _ (by simp; omega) (Ne.symm hne1)]; assumption)
                               · (rw [hgrow.cell_far _ (by simp; omega) (Ne.symm hne2)]; assumption)))
                          ((refine step_append_lies _ (by rfl) _ _ _ (by rfl) G 35 i0 _ 2 8 Try.underlying22 hi0 hz0 hz1 hz2 rfl (by omega) u6 (A3 ++ L2).length (eCells (A3 ++ L2)) (by rfl) Ed.out
                              ⟨wr.heap.size, 0, none⟩ 1 1 [.int .u32 x, .int .u32 y] (by rfl) (by rfl) (World.news_of_block (cs := #[.int .u32 x, .int .u32 y]) (t := 35) (fr := (0, 0)) (heap_alloc_new wr _)) (by simp [Value.oneCell'])
                              (by omega) (by unfold maxLen; omega) (by omega) (by simp; omega) (wr.heap.size + 1) (by simp) ?_; intro gg gcap w14 hown' hgrow hat hlt'))
                        have E15 : Hid (OwnE w14 G (.slice (some ⟨gg, 0, none⟩) (A3.length + L2.length + 1) gcap) (A3 ++ (B.take (j + 1)).map fun o => (x, o))) := Lib.hid (by
                          rw [hst2.out, ← List.append_assoc]
                          have e1 : eCells ((A3 ++ L2) ++ [(x, y)]) = eCells (A3 ++ L2) ++ [.int .u32 x, .int .u32 y] := by rw [eCells_append]; rfl
                          unfold OwnE
                          rw [e1, show (A3 ++ L2 ++ [(x, y)]).length = A3.length + L2.length + 1 by simp; omega]
                          rw [List.length_append] at hown'
                          exact hown')
                        have R15 := Lib.hid (Rd.out.edges (es := A3 ++ L2) (base := G) Ed.out hgrow)
                        have B15 := Lib.hid (Bd.out.trans (below_of_grown hgrow (fun j hj => (row_ge Ed.out j hj).1) hG6))
                        clear hown' hgrow hat hlt' E6 R6 B6 Ed Rd Bd
                        go_wp2_with fail
                        go_roundw
                        case rel => exact ⟨j + 1, by go_num, by omega, E15, R15, B15⟩
                        case measure => simp [intOf]; omega
                      · obtain rfl : j = nb := by omega
                        have E15 : Hid (OwnE wr G u6 (A2 ++ (List.range (k + 1)).flatMap (rBlk x (h, l)))) := Lib.hid (by
                          have := hE.out
                          rw [List.take_of_length_le (by have := hnb.out; omega)] at this
                          rw [hst.out, ← List.append_assoc, hA3.out]
                          exact this)
                        go_wp2
                        go_roundw
                        case rel => exact ⟨k + 1, by go_num, by omega, E15, hB⟩
                        case measure => simp [intOf]; omega
                  · have hzb : (z != x) = true := by simpa using hzx
                    have hst : Hid (∀ q, OwnE (wr.drewN q) G u6 (A2 ++ (List.range (k + 1)).flatMap (rBlk x (h, l))) ∧ RowKit.Below G w1 (wr.drewN q)) := Lib.hid fun q => ⟨by
                      rw [hrs.out, hrb.out, if_neg hzx, List.append_nil]
                      exact hE.out.below (grew (hq.out q)) (Classical.em _), hB.out.trans ((hq.out q).mono hGw)⟩
                    go_upto_region 19 with fail
                    first | go_quiet (first | fail) | fail
                    have hE2 := Lib.hid (hst.out nq).1
                    have hB2 := Lib.hid (hst.out nq).2
                    go_wp2
                    go_roundw
                    case rel => exact ⟨k + 1, by go_num, by omega, hE2, hB2⟩
                    case measure => simp [intOf]; omega
                · obtain rfl : k = nl := by omega
                  have hE2 : Hid (OwnE wr G u6 (A1 ++ (L.take (p + 1)).flatMap fun e => rEdgL x e.2)) := Lib.hid (by
                    rw [hsn2.out, ← List.append_assoc, hA2.out]
                    have := hE.out
                    rw [show (List.range k) = List.range (h, l).2.length from by rw [hnl.out]] at this
                    exact this)
                  replace hWh := Lib.hid hWh
                  replace hWl := Lib.hid hWl
                  go_wp2
                  go_roundw
                  case rel => exact ⟨p + 1, by go_num, by omega, hE2, hB⟩
                  case measure => simp [intOf]; omega
            · obtain rfl : p = i := by omega
              have hE2 : Hid (OwnE wr G u6 (((rWho L).take (m + 1)).flatMap fun x => L.flatMap fun e => rEdgL x e.2)) := Lib.hid (by
                have := hE.out
                rw [List.take_of_length_le (by have := hn'.out; omega)] at this
                rw [hsn.out]
                exact this)
              go_wp2
              go_roundw
              case rel => exact ⟨m + 1, by go_num, by omega, hE2, hB⟩
              case measure => simp [intOf]; omega
        · obtain rfl : m = nw := by omega
          have hE2 : Hid (OwnE wr G u6 (rEdges L)) := Lib.hid (by
            have := hE.out
            rw [List.take_of_length_le (by have := hnw.out; omega)] at this
            exact this)
          go_wp2
          go_ret
          exact ⟨_, rfl, row_low hE2.out hNG, hB1.out.trans (hB.out.mono hNG)⟩
end Go.Proofs.Ytilknhackmccpaa
