/- mancipleref14.Cycle: it tells what Cycle tells. -/
import Derived.Test.YtilknhackmccpaaKntV
set_option linter.unusedVariables false
set_option linter.unusedSimpArgs false
namespace Go.Proofs.Ytilknhackmccpaa
open Go.RowKit Go.Sort Go.Maps Go.ChangeMaps Go.MapKept Go.ChangeShapes

set_option maxRecDepth 100000 in
set_option maxHeartbeats 4000000 in
theorem rcycle_u (a : Option Addr) (n cap : Nat) (l : List (Int × Int)) (tg : Int) (w : World) (hE : Edg w a l) (hU : UE l) (hn : l.length = n) (hn2 : n < 100000) (htg : U tg) :
    Calls Try.prog 16 #[.slice a n cap, .int .u32 tg] w fun e w' => ∃ v, e = .returned v ∧ w'.ownsInts w.heap.size 23 .u32 v (cyc l tg) ∧ Below w.heap.size w w' := by
  obtain ⟨R, hRR⟩ : ∃ R, cyc l tg = R := ⟨_, rfl⟩
  have hR0 : R = cycGo (nx l) tg (n + 1) [tg] tg := by
    rw [← hRR, cyc]
    have h1 : unseen (tos l) [tg] ≤ (tos l).length := List.length_filter_le _ _
    have h2 : (tos l).length ≤ n := by rw [← hn]; exact Nat.le_trans (canon_length _) (by simp)
    exact go_fuel (V := tos l) (fun x z hz => (nx_tos hU x z hz).1) _ _ _ _ (by omega) (by omega)
  rw [hRR]
  replace hRR := Lib.hid hRR
  obtain ⟨i0, hi0, hz0, hz1, hz2⟩ := info_parts info_u
  have k5 := heap_alloc_new w (.cells #[.int .u32 tg] 23)
  have b5 := below_alloc w (.cells #[.int .u32 tg] 23)
  obtain ⟨B, hB⟩ : ∃ B, w.heap.size = B := ⟨_, rfl⟩
  obtain ⟨w3, hw3⟩ : ∃ x, w.alloc (.cells #[.int .u32 tg] 23) = x := ⟨_, rfl⟩
  rw [hw3, hB] at k5 b5
  rw [hB]
  have ho0 : Hid (w3.ownsInts B 23 .u32 (.slice (some ⟨B, 0, none⟩) 1 1) [tg]) := Lib.hid (by
    refine own_of_row (zs := [tg]) (cap := 1) ⟨#[.int .u32 tg], k5, rfl, by simp, fun i hi => ?_⟩ (Nat.le_refl _) (by decide) (by simpa using htg)
    have : i = 0 := by simpa using hi
    subst this
    rfl)
  have hS0 : Hid (R = cycGo (nx l) tg (n + 1 - 0) [tg] tg ∧ tg ∈ [tg] ∧ [tg].getD 0 0 = tg ∧ ∀ z ∈ [tg], U z) := Lib.hid ⟨hR0, by simp, rfl, by simpa using htg⟩
  replace b5 := Lib.hid b5
  have hBs : B ≤ w3.heap.size := by have := b5.out.size; omega
  clear k5 hR0
  go_enter Try.func16, Try.ntmps16
  go_wp2
  go_loopw [5, 6] (fun v5 v6 wr => ∃ (c : Nat) (ws : List Int) (last : Int), v6 = .int .i64 c ∧ c ≤ n + 1 ∧ ws.length = c + 1 ∧ Hid (wr.ownsInts B 23 .u32 v5 ws) ∧ Hid (Below B w wr) ∧ B ≤ wr.heap.size ∧ Hid (R = cycGo (nx l) tg (n + 1 - c) ws last ∧ tg ∈ ws ∧ ws.getD c 0 = last ∧ ∀ z ∈ ws, U z))
    (fun _ v6 _ => n + 1 - (intOf v6).toNat)
  case atStart => exact ⟨0, [tg], tg, rfl, Nat.zero_le _, rfl, ho0, b5, hBs, hS0⟩
  case round =>
    clear ho0 b5 hBs hS0
    obtain ⟨c, ws, last, rfl, hc, hwl, ho, hb, hBs, hS⟩ := hrel
    by_cases hcn : c ≤ n
    · have hcni : (c : Int) ≤ (n : Int) := by omega
      obtain ⟨aw, cw, hv5, hcell⟩ := own_form ho.out
      subst hv5
      rw [hwl] at hcell ho ⊢
      obtain ⟨gw, rfl, _, _, _, cl⟩ := hcell c (by omega)
      rw [hS.out.2.2.1] at cl
      have hLi : ((c + 1 : Nat) : Int) - 1 = (c : Int) := by omega
      have hul : U last := by
        rw [← hS.out.2.2.1, List.getD_eq_getElem?_getD, List.getElem?_eq_getElem (show c < ws.length by omega)]
        exact hS.out.2.2.2 _ (List.getElem_mem _)
      have hEr : Edg wr a l := hE.keep hb.out (by omega)
      have hX := next_u a n cap l last wr hEr hU hn hn2
      clear hcell
      go_upto_region 7 with (go_at_call 40; refine hX.mono ?_; rintro e w4 ⟨vm, rfl, hom, b4⟩)
      obtain ⟨am, cm, rfl, hNm⟩ := own_nums hom
      have hol := fun z hz => (nx_tos hU last z hz).2
      obtain ⟨m, hm⟩ : ∃ m, nx l last = m := ⟨_, rfl⟩
      rw [hm] at hom hNm hol ⊢
      obtain ⟨M, hM⟩ : ∃ M, m.length = M := ⟨_, rfl⟩
      have hMl : M < 4294967296 := by
        have h1 := canon_length (grp l l.length last)
        have h2 := grp_length l l.length last
        rw [← nx, hm, hM] at h1
        omega
      rw [hM] at hom ⊢
      have hH := has_u am M cm m tg w4 hNm hM hMl
      have ho4 : Hid (w4.ownsInts B 23 .u32 (.slice (some ⟨gw, 0, none⟩) (c + 1) cw) ws) := Lib.hid (own_keep ho.out b4)
      have hb4 : Hid (Below B w w4) := Lib.hid (hb.out.trans (b4.mono hBs))
      have hBs4 : B ≤ w4.heap.size := Nat.le_trans hBs b4.size
      have hE4 : Edg w4 a l := hE.keep hb4.out (by omega)
      replace hm := Lib.hid hm
      clear hX ho hb hEr b4 hLi
      by_cases htm : tg ∈ m
      · rw [decide_eq_true htm] at hH
        go_wp2_with (go_at_call 41; refine hH.mono ?_; intro e w' h; rw [h.1, h.2]; clear h w' e)
        go_ret
        refine ⟨_, rfl, ?_, hb4.out⟩
        have e := hS.out.1
        rw [show n + 1 - c = (n - c) + 1 by omega, cyc_here (by rw [hm.out]; exact htm)] at e
        rw [e]
        exact ho4.out
      · rw [decide_eq_false htm] at hH
        have hNw := own_nums' ho4.out
        have hR := reaches_u a n cap l tg (some ⟨gw, 0, none⟩) (c + 1) cw ws w4 hE4 hU hn hn2 htg hNw hwl (by omega)
        go_upto_region 10 with (first
          | (go_at_call 41; refine hH.mono ?_; intro e w' h; rw [h.1, h.2]; clear h w' e)
          | (go_at_call 42; refine hR.mono ?_; rintro e w5 ⟨vb, s, rfl, hos, hsl, hsb, b5⟩))
        obtain ⟨ab, cb, rfl, hNb⟩ := own_nums hos
        obtain ⟨Sb, hSb⟩ : ∃ S, s.length = S := ⟨_, rfl⟩
        rw [hSb] at hsl hos ⊢
        have hNm5 : Nums w5 am m := hNm.keep b5 (Nat.le_refl _)
        have ho5 : Hid (w5.ownsInts B 23 .u32 (.slice (some ⟨gw, 0, none⟩) (c + 1) cw) ws) := Lib.hid (own_keep ho4.out b5)
        have hb5 : Hid (Below B w w5) := Lib.hid (hb4.out.trans (b5.mono hBs4))
        have hBs5 : B ≤ w5.heap.size := Nat.le_trans hBs4 b5.size
        have hgood : Hid (∀ x, Good (nx l) tg ws x ↔ (x ∈ s ∧ x ∉ ws)) := Lib.hid fun x => (good_iff hS.out.2.1 x).trans (by rw [hsb x])
        replace htm := Lib.hid htm
        have hst : Hid (tg ∉ nx l last) := Lib.hid (by rw [hm.out]; exact htm.out)
        clear hH hR hNw hE4 hos hsb b5 hNm ho4 hb4 hBs4 hom
        go_wp2
        go_loopw [5, 10, 11] (fun v5 v10 v11 wr => ∃ (i : Nat) (fd : Bool), v10 = .bool fd ∧ v11 = .int .i64 i ∧ i ≤ M ∧ Hid (Below B w wr) ∧ B ≤ wr.heap.size ∧
            ((fd = false ∧ Nums wr am m ∧ Nums wr ab s ∧ v5 = .slice (some ⟨gw, 0, none⟩) (c + 1) cw ∧ Hid (wr.ownsInts B 23 .u32 (.slice (some ⟨gw, 0, none⟩) (c + 1) cw) ws) ∧ Hid (∀ j, j < i → ¬ Good (nx l) tg ws (m.getD j 0))) ∨
             (fd = true ∧ ∃ k, Hid (wr.ownsInts B 23 .u32 v5 (ws ++ [m.getD k 0]) ∧ k < M ∧ Good (nx l) tg ws (m.getD k 0) ∧ ∀ j, j < k → ¬ Good (nx l) tg ws (m.getD j 0))))) (fun _ _ v11 _ => M - (intOf v11).toNat)
        case atStart => exact ⟨0, false, rfl, rfl, Nat.zero_le _, hb5, hBs5, .inl ⟨rfl, hNm5, hNb, rfl, ho5, Lib.hid fun j hj => absurd hj (Nat.not_lt_zero _)⟩⟩
        case round =>
          clear ho5 hb5 hBs5 hNm5 hNb
          obtain ⟨i, fd, rfl, rfl, hi, hb, hBs, hor⟩ := hrel
          rcases hor with ⟨rfl, hNm, hNb, hv5, ho, hN⟩ | ⟨rfl, k, hK⟩
          · subst hv5
            by_cases hiM : i < M
            · have hiMi : (i : Int) < (M : Int) := by omega
              obtain ⟨em, om, rfl, hcm⟩ := hNm.at (i := i) (by omega)
              obtain ⟨x, hx⟩ : ∃ x, m.getD i 0 = x := ⟨_, rfl⟩
              have cx := hcm i (by omega)
              rw [hx] at cx
              have hux : U x := by
                refine hol x ?_
                rw [← hx, List.getD_eq_getElem?_getD, List.getElem?_eq_getElem (show i < m.length by omega)]
                exact List.getElem_mem _
              have hH1 := has_u ab Sb cb s x wr hNb hSb (by omega)
              have hH2 := has_u (some ⟨gw, 0, none⟩) (c + 1) cw ws x wr (own_nums' ho.out) hwl (by omega)
              have hgx := hgood.out x
              have hnext : ¬ Good (nx l) tg ws x → Hid (∀ j, j < i + 1 → ¬ Good (nx l) tg ws (m.getD j 0)) := fun hg => Lib.hid fun j hj => by
                rcases Nat.lt_or_ge j i with h | h
                · exact hN.out j h
                · have : j = i := by omega
                  rw [this, hx]
                  exact hg
              clear hcm
              replace hx := Lib.hid hx
              by_cases hxs : x ∈ s
              · by_cases hxw : x ∈ ws
                · have hn3 := hnext (fun hg => (hgx.1 hg).2 hxw)
                  rw [decide_eq_true hxs] at hH1
                  rw [decide_eq_true hxw] at hH2
                  clear hgx hnext hN
                  replace hxs := Lib.hid hxs
                  replace hxw := Lib.hid hxw
                  go_wp2_with (first
                    | (go_at_call 41; refine hH1.mono ?_; clear hH1; intro e w' h; rw [h.1, h.2]; clear h w' e)
                    | (go_at_call 41; refine hH2.mono ?_; clear hH2; intro e w' h; rw [h.1, h.2]; clear h w' e))
                  first
                    | exact ⟨⟨i + 1, false, rfl, by go_num, by omega, hb, hBs, .inl ⟨rfl, hNm, hNb, rfl, ho, hn3⟩⟩, by simp [intOf]; omega⟩
                    | (refine ⟨?_, by simp [intOf]; omega⟩
                       repeat apply Exists.intro
                       refine ⟨?_, rfl⟩
                       exact ⟨i + 1, false, rfl, by go_num, by omega, hb, hBs, .inl ⟨rfl, hNm, hNb, rfl, ho, hn3⟩⟩)
                · have hg : Good (nx l) tg ws x := hgx.2 ⟨hxs, hxw⟩
                  rw [decide_eq_true hxs] at hH1
                  rw [decide_eq_false hxw] at hH2
                  clear hgx hnext
                  replace hg := Lib.hid hg
                  replace hxs := Lib.hid hxs
                  replace hxw := Lib.hid hxw
                  have hoi := ho.out.1
                  rw [hwl] at hoi
                  go_wp2_with (first
                    | (go_at_call 41; refine hH1.mono ?_; clear hH1; intro e w' h; rw [h.1, h.2]; clear h w' e)
                    | (go_at_call 41; refine hH2.mono ?_; clear hH2; intro e w' h; rw [h.1, h.2]; clear h w' e)
                    | (at_builtin; refine wpList_append_own_at _ rfl _ _ 24 rfl B 23 i0 (.int .u32 0) 1 4 Try.underlying24 hi0 hz0 hz1 hz2 rfl (by decide) _ _ _ rfl (hoi.alloc _) ⟨wr.heap.size, 0, none⟩ 1 1 [.int .u32 x] rfl rfl (cell_one_new _ _ _) (ints_oneCell .u32 [x]) (by unfold maxLen; omega) (by omega) (by simp; omega) ?_; intro v' w8 hown' hgrow _ _))
                  have hall := (World.grownBy_alloc wr _ _).trans hgrow
                  have hoN : w8.ownsInts B 23 .u32 v' (ws ++ [x]) := ho.out.appended (by rw [hwl]; exact hown') hux.wf
                  have hbN : Below B w w8 := hb.out.grown hall hBs (fun jj hjj => (hoi.lt jj hjj).1)
                  have hBN := Nat.le_trans hBs hall.size
                  have hKN : Hid (w8.ownsInts B 23 .u32 v' (ws ++ [m.getD i 0]) ∧ i < M ∧ Good (nx l) tg ws (m.getD i 0) ∧ ∀ j, j < i → ¬ Good (nx l) tg ws (m.getD j 0)) := Lib.hid ⟨by rw [hx.out]; exact hoN, hiM, by rw [hx.out]; exact hg.out, hN.out⟩
                  first
                    | exact ⟨⟨i + 1, true, rfl, by go_num, by omega, Lib.hid hbN, hBN, .inr ⟨rfl, i, hKN⟩⟩, by simp [intOf]; omega⟩
                    | (refine ⟨?_, by simp [intOf]; omega⟩
                       repeat apply Exists.intro
                       refine ⟨?_, rfl⟩
                       exact ⟨i + 1, true, rfl, by go_num, by omega, Lib.hid hbN, hBN, .inr ⟨rfl, i, hKN⟩⟩)
              · have hn3 := hnext (fun hg => hxs (hgx.1 hg).1)
                rw [decide_eq_false hxs] at hH1
                clear hgx hnext hN hH2
                replace hxs := Lib.hid hxs
                go_wp2_with (go_at_call 41; refine hH1.mono ?_; clear hH1; intro e w' h; rw [h.1, h.2]; clear h w' e)
                first
                  | exact ⟨⟨i + 1, false, rfl, by go_num, by omega, hb, hBs, .inl ⟨rfl, hNm, hNb, rfl, ho, hn3⟩⟩, by simp [intOf]; omega⟩
                  | (refine ⟨?_, by simp [intOf]; omega⟩
                     repeat apply Exists.intro
                     refine ⟨?_, rfl⟩
                     exact ⟨i + 1, false, rfl, by go_num, by omega, hb, hBs, .inl ⟨rfl, hNm, hNb, rfl, ho, hn3⟩⟩)
            · have hiM2 : i = M := by omega
              have hiMi : ¬ (i : Int) < (M : Int) := by omega
              have hRn : R = [] := by
                have e := hS.out.1
                rw [show n + 1 - c = (n - c) + 1 by omega, cyc_none hst.out (fun j hj => by rw [hm.out] at hj ⊢; exact hN.out j (by omega))] at e
                exact e
              replace hRn := Lib.hid hRn
              go_wp2
              go_ret
              refine ⟨_, rfl, ?_, hb.out⟩
              rw [hRn.out]
              exact World.ownsInts_nil _ _ _ _
          · obtain ⟨hoK, hkM, hgK, hnK⟩ := hK.out
            have hRs : R = cycGo (nx l) tg (n + 1 - (c + 1)) (ws ++ [m.getD k 0]) (m.getD k 0) := by
              have e := hS.out.1
              rw [show n + 1 - c = (n - c) + 1 by omega, cyc_step (k := k) hst.out (by rw [hm.out]; omega) (by rw [hm.out]; exact hgK) (fun j hj => by rw [hm.out]; exact hnK j hj), hm.out] at e
              rw [show n + 1 - (c + 1) = n - c by omega]
              exact e
            have hSn : Hid (R = cycGo (nx l) tg (n + 1 - (c + 1)) (ws ++ [m.getD k 0]) (m.getD k 0) ∧ tg ∈ ws ++ [m.getD k 0] ∧ (ws ++ [m.getD k 0]).getD (c + 1) 0 = m.getD k 0 ∧ ∀ z ∈ ws ++ [m.getD k 0], U z) := Lib.hid ⟨hRs, List.mem_append_left _ hS.out.2.1, by rw [← hwl]; simp, fun z hz => by
              rcases List.mem_append.1 hz with h | h
              · exact hS.out.2.2.2 z h
              · obtain rfl := List.mem_singleton.1 h
                refine hol _ ?_
                rw [List.getD_eq_getElem?_getD, List.getElem?_eq_getElem (show k < m.length by omega)]
                exact List.getElem_mem _⟩
            have hlN : (ws ++ [m.getD k 0]).length = c + 1 + 1 := by simp [hwl]
            have hoK2 := Lib.hid hoK
            clear hoK hgK hnK hK hRs
            by_cases hiM : i < M
            · have hiMi : (i : Int) < (M : Int) := by omega
              go_wp2
              first
                | exact ⟨⟨c + 1, _, _, by go_num, by omega, hlN, hoK2, hb, hBs, hSn⟩, by simp [intOf]; omega⟩
                | (refine ⟨?_, by simp [intOf]; omega⟩
                   repeat apply Exists.intro
                   refine ⟨?_, rfl⟩
                   exact ⟨c + 1, _, _, by go_num, by omega, hlN, hoK2, hb, hBs, hSn⟩)
            · have hiMi : ¬ (i : Int) < (M : Int) := by omega
              go_wp2
              first
                | exact ⟨⟨c + 1, _, _, by go_num, by omega, hlN, hoK2, hb, hBs, hSn⟩, by simp [intOf]; omega⟩
                | (refine ⟨?_, by simp [intOf]; omega⟩
                   repeat apply Exists.intro
                   refine ⟨?_, rfl⟩
                   exact ⟨c + 1, _, _, by go_num, by omega, hlN, hoK2, hb, hBs, hSn⟩)
    · have hcn1 : c = n + 1 := by omega
      have hgt : ¬ (c : Int) ≤ (n : Int) := by omega
      go_wp2
      go_ret
      refine ⟨_, rfl, ?_, hb.out⟩
      have e := hS.out.1
      rw [hcn1, Nat.sub_self] at e
      rw [e]
      exact World.ownsInts_nil _ _ _ _
end Go.Proofs.Ytilknhackmccpaa
