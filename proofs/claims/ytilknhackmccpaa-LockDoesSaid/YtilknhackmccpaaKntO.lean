/- The law KnotNone: its walk. -/
import Derived.Test.YtilknhackmccpaaKntI
set_option linter.unusedVariables false
set_option linter.unusedSimpArgs false
namespace Go.Proofs.Ytilknhackmccpaa
open Go.RowKit Go.Sort Go.Maps Go.ChangeMaps Go.MapKept Go.ChangeShapes

theorem Edg.at {w : World} {a : Option Addr} {l : List (Int × Int)} (h : Edg w a l) {k : Nat} (hk : k < l.length) :
    ∃ eb off, a = some ⟨eb, off, none⟩ ∧ ∀ i, i < l.length → w.cell? ⟨eb, off + i * 2, none⟩ = some (.int .u32 (l.getD i (0, 0)).1) ∧ w.cell? ⟨eb, off + i * 2 + 1, none⟩ = some (.int .u32 (l.getD i (0, 0)).2) := by
  obtain ⟨eb, off, h1, _, h3⟩ := h (by rintro rfl; simp at hk)
  exact ⟨eb, off, h1, h3⟩
theorem take_any {s : List Int} {j : Nat} (hj : j < s.length) {t : Int} {b : Bool} (h : b = true ↔ t ∈ s.take j) : (b || (s.getD j 0 == t)) = true ↔ t ∈ s.take (j + 1) := by
  rw [List.take_succ_eq_append_getElem hj, List.mem_append, List.mem_singleton, Bool.or_eq_true, h]
  have : s.getD j 0 = s[j] := by simp [List.getD_eq_getElem?_getD, List.getElem?_eq_getElem hj]
  rw [this]
  constructor
  · rintro (h | h)
    · exact .inl h
    · exact .inr (by simpa using (show s[j] = t by simpa using h).symm)
  · rintro (h | h)
    · exact .inl h
    · exact .inr (by simpa using h.symm)

theorem Far2.out' {l : List (Int × Int)} {tg : Int} {s : List Int} {i : Nat} {x : Int} {k : Nat} {bk : Bool} (h : Far2 l tg s i x k bk) (hk : l.length = k) : Far (nx l) tg s (i + 1) bk := by
  subst hk
  exact h.out
set_option maxRecDepth 100000 in
set_option maxHeartbeats 4000000 in
theorem none_walk (w : World) (l : List (Int × Int)) (v : Value) (hv : EdgesIn w v l) (tg : Int) (t1 : 0 ≤ tg) (t2 : tg ≤ 4294967295) :
    Calls Try.prog 5 #[v, .int .u32 tg] w fun e w' => e = .returned (.bool true) ∧ Below w.heap.size w w' := by
  obtain ⟨a, cap, rfl, hE, hU⟩ := hv
  obtain ⟨n, hn⟩ : ∃ n, l.length = n := ⟨_, rfl⟩
  rw [hn]
  have htg : U tg := ⟨t1, t2⟩
  by_cases h40 : 40 < n
  · have h40i : (40 : Int) < (n : Int) := by omega
    have hK := known_u w
    go_enter Try.func5, Try.ntmps5
    go_wp2_with (go_at_call 14; refine hK.mono ?_; rintro e w1 ⟨rfl, b1⟩)
    go_ret
    exact ⟨rfl, b1⟩
  · have h40i : ¬ (40 : Int) < (n : Int) := by omega
    have hK := known_u w
    obtain ⟨i0, hi0, hz0, hz1, hz2⟩ := info_parts info_u
    go_enter Try.func5, Try.ntmps5
    go_upto_region 3 with (go_at_call 14; refine hK.mono ?_; rintro e w1 ⟨rfl, b1⟩)
    have hE1 := hE.keep b1 (Nat.le_refl _)
    have hC := cycle_u a n cap l tg w1 hE1 hU hn (by omega) htg
    clear hK
    go_upto_region 4 with (go_at_call 15; refine hC.mono ?_; rintro e w2 ⟨vr, rfl, ho, b2⟩)
    have hE2 := hE1.keep b2 (Nat.le_refl _)
    have bb : Below w.heap.size w w2 := b1.trans (b2.mono b1.size)
    have hiff := cyc_iff hU (tg := tg)
    obtain ⟨r, hr⟩ : ∃ r, cyc l tg = r := ⟨_, rfl⟩
    rw [hr] at ho hiff
    obtain ⟨ar, cr, rfl, _⟩ := own_nums ho
    obtain ⟨L, hL⟩ : ∃ L, r.length = L := ⟨_, rfl⟩
    rw [hL]
    have hrL : r ≠ [] ↔ 0 < L := by rw [← hL]; exact List.length_pos_iff.symm
    clear hC ho hE1 b1 hr
    obtain ⟨V, hV⟩ : ∃ V, tos l = V := ⟨_, rfl⟩
    have hVl : V.length ≤ n := by
      rw [← hV, ← hn, tos]
      exact Nat.le_trans (canon_length _) (by simp)
    have hVe : ∀ k, k < n → (l.getD k (0, 0)).2 ∈ V := fun k hk => by
      rw [← hV]
      refine mem_canon.2 (List.mem_map.2 ⟨_, ?_, rfl⟩)
      have : l.getD k (0, 0) = l[k]'(by omega) := by simp [List.getD_eq_getElem?_getD, List.getElem?_eq_getElem (show k < l.length by omega)]
      rw [this]
      exact List.getElem_mem _
    have k5 := heap_alloc_new w2 (.cells #[.int .u32 tg] 23)
    have b5 := below_alloc w2 (.cells #[.int .u32 tg] 23)
    obtain ⟨B, hB⟩ : ∃ B, w2.heap.size = B := ⟨_, rfl⟩
    obtain ⟨w3, hw3⟩ : ∃ x, w2.alloc (.cells #[.int .u32 tg] 23) = x := ⟨_, rfl⟩
    rw [hw3, hB] at k5 b5
    have ho0 : Hid (w3.ownsInts B 23 .u32 (.slice (some ⟨B, 0, none⟩) 1 1) [tg]) := Lib.hid (by
      refine own_of_row (zs := [tg]) (cap := 1) ⟨#[.int .u32 tg], k5, rfl, by simp, fun i hi => ?_⟩ (Nat.le_refl _) (by decide) (by simpa using htg)
      have : i = 0 := by simpa using hi
      subst this
      rfl)
    have hF0 : Hid (Far (nx l) tg [tg] 0 false) := Lib.hid ⟨by simp; exact .here, rfl, fun j z hj => absurd hj (Nat.not_lt_zero _), by simp⟩
    have hUn : unseen V [tg] ≤ V.length := List.length_filter_le _ _
    replace hV := Lib.hid hV
    replace hVe := Lib.hid hVe
    replace hiff := Lib.hid hiff
    replace hrL := Lib.hid hrL
    replace b5 := Lib.hid b5
    have hBs : B ≤ w3.heap.size := by have := b5.out.size; omega
    clear k5
    go_wp2
    go_loopw [6, 7, 8] (fun v6 v7 v8 wr => ∃ (s : List Int) (i : Nat) (bk : Bool), v7 = .bool bk ∧ v8 = .int .i64 i ∧ i ≤ s.length ∧ Hid (wr.ownsInts B 23 .u32 v6 s) ∧ Hid (Below B w2 wr) ∧ B ≤ wr.heap.size ∧ s.length + unseen V s ≤ V.length + 1 ∧ Hid (Far (nx l) tg s i bk))
      (fun _ _ v8 _ => V.length + 1 - (intOf v8).toNat)
    case atStart => exact ⟨[tg], 0, false, rfl, rfl, Nat.zero_le _, ho0, b5, hBs, by simp; omega, hF0⟩
    case round =>
      clear ho0 b5 hBs hF0 hUn
      obtain ⟨s, i, bk, rfl, rfl, hi, ho, hb, hBs, hsV, hF⟩ := hrel
      obtain ⟨as1, cs1, rfl, hcell⟩ := own_form ho.out
      obtain ⟨S, hS⟩ : ∃ S, s.length = S := ⟨_, rfl⟩
      rw [hS] at hcell hi hsV ho ⊢
      by_cases hlt : i < S
      · obtain ⟨x, hx⟩ : ∃ x, s.getD i 0 = x := ⟨_, rfl⟩
        have hF2 : Hid (Far2 l tg s i x 0 bk) := Lib.hid (by
          have := hF.out.in (by omega)
          rw [hx] at this
          exact this)
        have hlti : (i : Int) < (S : Int) := by omega
        have hsV' : s.length + unseen V s ≤ V.length + 1 := by omega
        clear hF
        go_wp2
        go_loopw [6, 7, 9] (fun v6 v7 v9 wr => ∃ (s : List Int) (k : Nat) (bk : Bool), v7 = .bool bk ∧ v9 = .int .i64 k ∧ k ≤ n ∧ Hid (wr.ownsInts B 23 .u32 v6 s) ∧ Hid (Below B w2 wr) ∧ B ≤ wr.heap.size ∧ s.length + unseen V s ≤ V.length + 1 ∧ Hid (Far2 l tg s i x k bk))
          (fun _ _ v9 _ => n - (intOf v9).toNat)
        case atStart => exact ⟨s, 0, bk, rfl, rfl, Nat.zero_le _, ho, hb, hBs, hsV', hF2⟩
        case round =>
          clear hF2 ho hb hBs hsV' hsV hcell hx hS hi hlt hlti
          obtain ⟨s, k, bk, rfl, rfl, hk, ho, hb, hBs, hsV, hF⟩ := hrel
          obtain ⟨as2, cs2, rfl, hcell⟩ := own_form ho.out
          obtain ⟨S2, hS⟩ : ∃ S, s.length = S := ⟨_, rfl⟩
          rw [hS] at hcell hsV ho ⊢
          have hiS : i < S2 := by rw [← hS]; exact hF.out.lt
          have hiSi : (i : Int) < (S2 : Int) := by omega
          have hx := hF.out.at_
          by_cases hkn : k < n
          · have hkni : (k : Int) < (n : Int) := by omega
            obtain ⟨eb, off, rfl, hce⟩ := (hE2.keep hb.out (by omega)).at (k := k) (by omega)
            obtain ⟨g, rfl, hgB, hgl, _, cgi⟩ := hcell i hiS
            obtain ⟨ce1, ce2⟩ := hce k (by omega)
            obtain ⟨fr, hfr⟩ : ∃ x, (l.getD k (0, 0)).1 = x := ⟨_, rfl⟩
            obtain ⟨t, ht⟩ : ∃ x, (l.getD k (0, 0)).2 = x := ⟨_, rfl⟩
            have hut := (hU.at (i := k) (by omega)).2
            rw [hx] at cgi
            rw [hfr] at ce1
            rw [ht] at ce2 hut
            have hcs : ∀ j, j < S2 → wr.cell? ⟨g, j, none⟩ = some (.int .u32 (s.getD j 0)) := fun j hj => by
              obtain ⟨g', e, _, _, _, h⟩ := hcell j hj
              cases e
              exact h
            clear hcell hce
            replace hx := Lib.hid hx
            go_wp2
            first | go_quiet (first | fail) | fail
            obtain ⟨w5, hw5⟩ : ∃ w1, w1 = wr.drewN nq := ⟨_, rfl⟩
            rw [← hw5]
            have d1 : w5.cell? ⟨eb, off + k * 2, none⟩ = some (.int .u32 fr) := by rw [hw5]; exact ce1
            have d2 : w5.cell? ⟨eb, off + k * 2 + 1, none⟩ = some (.int .u32 t) := by rw [hw5]; exact ce2
            have dcs : ∀ j, j < S2 → w5.cell? ⟨g, j, none⟩ = some (.int .u32 (s.getD j 0)) := by rw [hw5]; exact hcs
            have ho5 : Hid (w5.ownsInts B 23 .u32 (.slice (some ⟨g, 0, none⟩) S2 cs2) s) := by
              rw [hw5]
              exact Lib.hid (ho.out.kept (grown_drewN wr nq none) (.inr (by simp [Value.ownBlock])))
            have hb5 : Hid (Below B w2 w5) := by
              rw [hw5]
              exact Lib.hid (hb.out.grown (grown_drewN wr nq none) hBs (fun _ h => by cases h))
            have hBs5 : B ≤ w5.heap.size := by rw [hw5]; exact hBs
            clear hw5 ho hb hBs ce1 ce2 hcs cgi
            by_cases hfx : fr = x
            · have hpair : l.getD k (0, 0) = (x, t) := by
                rw [← hfx, ← hfr, ← ht]
              have hfr' := Lib.hid hfr
              clear hfr
              subst hfx
              rw [show (fr != fr) = false by simp]
              obtain ⟨bk2, hbk2⟩ : ∃ b, (bk || (t == tg)) = b := ⟨_, rfl⟩
              have hTk := fun s2 h2 => hF.out.take (by omega) hpair s2 h2
              rw [hbk2] at hTk
              replace hTk := Lib.hid hTk
              clear hF
              cases bk
              all_goals (
                simp only [Bool.false_or, Bool.true_or] at hbk2
                subst hbk2
                go_wp2
                go_loopw [10, 11] (fun v10 v11 w6 => ∃ (j q : Nat) (inb : Bool), v10 = .bool inb ∧ v11 = .int .i64 j ∧ j ≤ S2 ∧ Hid (w6 = w5.drewN q) ∧ Hid (inb = true ↔ t ∈ s.take j)) (fun _ v11 _ => S2 - (intOf v11).toNat)
                case atStart => exact ⟨0, 0, false, rfl, rfl, Nat.zero_le _, Lib.hid rfl, Lib.hid (by simp)⟩
                case round =>
                  obtain ⟨j, q, inb, rfl, rfl, hj, hq, hin⟩ := hrel
                  by_cases hjS : j < S2
                  · have hjSi : (j : Int) < (S2 : Int) := by omega
                    obtain ⟨y, hy⟩ : ∃ x, s.getD j 0 = x := ⟨_, rfl⟩
                    have e1 : wr.cell? ⟨g, j, none⟩ = some (.int .u32 y) := by rw [hq.out, ← hy]; exact dcs j hjS
                    have e2 : wr.cell? ⟨eb, off + k * 2 + 1, none⟩ = some (.int .u32 t) := by rw [hq.out]; exact d2
                    have hta := Lib.hid (take_any (s := s) (by omega) hin.out)
                    rw [hy] at hta
                    obtain ⟨nb, hnb⟩ : ∃ b, (inb || (y == t)) = b := ⟨_, rfl⟩
                    rw [hnb] at hta
                    cases inb
                    all_goals (
                      simp only [Bool.false_or, Bool.true_or] at hnb
                      subst hnb
                      go_wp2
                      first | go_quiet (first | fail) | fail
                      obtain ⟨w7, hw7⟩ : ∃ w1, w1 = wr.drewN nq := ⟨_, rfl⟩
                      rw [← hw7]
                      have hww : Hid (w7 = w5.drewN (q + nq)) := Lib.hid (by rw [hw7, hq.out, drewN_drewN])
                      clear hw7
                      go_wp2
                      exact ⟨⟨j + 1, _, _, rfl, by go_num, by omega, hww, by first | exact hta | exact Lib.hid (by simpa using hta.out)⟩, by simp [intOf]; omega⟩)
                  · have : j = S2 := by omega
                    subst this
                    have hin2 : Hid (inb = true ↔ t ∈ s) := by
                      have := hin.out
                      rw [← hS, List.take_length] at this
                      exact Lib.hid this
                    have hoi : wr.ownsInts B 23 .u32 (.slice (some ⟨g, 0, none⟩) j cs2) s := by
                      rw [hq.out]
                      exact ho5.out.kept (grown_drewN w5 q none) (.inr (by simp [Value.ownBlock]))
                    have hbk : Below B w2 wr := by
                      rw [hq.out]
                      exact hb5.out.grown (grown_drewN w5 q none) hBs5 (fun _ h => by cases h)
                    have hBk : B ≤ wr.heap.size := by rw [hq.out]; exact hBs5
                    have e2 : wr.cell? ⟨eb, off + k * 2 + 1, none⟩ = some (.int .u32 t) := by rw [hq.out]; exact d2
                    have hus : t ∉ s → unseen V (s ++ [t]) + 1 ≤ unseen V s := fun h => by
                      have h1 := unseen_lt (by have := hVe.out k hkn; rw [ht] at this; exact this) h
                      have h2 : unseen V (s ++ [t]) ≤ unseen V (t :: s) := unseen_mono fun x hx => by
                        rcases List.mem_cons.1 hx with e | e <;> simp [e]
                      omega
                    replace hus := Lib.hid hus
                    cases inb
                    · have hnt : t ∉ s := fun h => by have := hin2.out.2 h; cases this
                      have hu2 := hus.out hnt
                      have hT2 := hTk.out _ (.inr rfl)
                      have hov := Lib.hid hoi
                      have hoiv := hoi.1
                      rw [hS] at hoiv
                      have hjl : j ≤ 42 := by omega
                      clear hoi
                      go_wp2_with (first
                        | (at_builtin; refine wpList_append_own_at _ rfl _ _ 24 rfl B 23 i0 (.int .u32 0) 1 4 Try.underlying24 hi0 hz0 hz1 hz2 rfl (by decide) _ _ _ rfl (hoiv.alloc _) _ 1 1 [.int .u32 t] rfl rfl (cell_one_new _ _ _) (ints_oneCell .u32 [t]) (by unfold maxLen; omega) (by omega) (by simp; omega) ?_; intro v' w8 hown' hgrow _ _))
                      have hall := (World.grownBy_alloc wr _ _).trans hgrow
                      have hoN : w8.ownsInts B 23 .u32 v' (s ++ [t]) := hov.out.appended (by rw [hS]; exact hown') hut.wf
                      have hbN : Below B w2 w8 := hbk.grown hall hBk (fun jj hjj => (hoiv.lt jj hjj).1)
                      refine ⟨⟨s ++ [t], k + 1, _, rfl, by go_num, by omega, Lib.hid hoN, Lib.hid hbN, Nat.le_trans hBk hall.size, ?_, Lib.hid hT2⟩, by simp [intOf]; omega⟩
                      simp
                      omega
                    · have hit : t ∈ s := hin2.out.1 rfl
                      have hT2 := Lib.hid (hTk.out s (.inl ⟨rfl, hit⟩))
                      replace hoi := Lib.hid hoi
                      replace hbk := Lib.hid hbk
                      go_wp2
                      exact ⟨⟨s, k + 1, _, rfl, by go_num, by omega, hoi, hbk, hBk, by omega, hT2⟩, by simp [intOf]; omega⟩)
            · have hne : (fr != x) = true := by simpa using hfx
              have hF3 := Lib.hid (hF.out.skip (by omega) (by rw [hfr]; exact hfx))
              go_wp2
              go_roundw
              case rel => exact ⟨s, k + 1, bk, rfl, by go_num, by omega, ho5, hb5, hBs5, by omega, hF3⟩
              case measure => simp [intOf]; omega
          · have : k = n := by omega
            subst this
            have hF4 := Lib.hid (hF.out.out' hn)
            go_wp2
            go_roundw
            case rel => exact ⟨s, i + 1, bk, rfl, by go_num, by omega, ho, hb, hBs, by omega, hF4⟩
            case measure => simp [intOf]; omega
      · have hiS : i = S := by omega
        subst hiS
        have hbk : bk = decide ((0 : Int) < (L : Int)) := by
          have h1 := hF.out
          rw [← hS] at h1
          have h2 := h1.end
          have h3 := hiff.out
          have h4 := hrL.out
          rcases Nat.eq_zero_or_pos L with h0 | h0
          · have : ¬ bk = true := fun h => by have := h4.1 (h3.2 (h2.1 h)); omega
            rw [decide_eq_false (by omega)]
            simpa using this
          · rw [decide_eq_true (by omega)]
            exact h2.2 (h3.1 (h4.2 h0))
        subst hbk
        go_wp2
        go_ret
        refine ⟨?_, bb.trans (hb.out.mono (by have := bb.size; omega))⟩
        simp
end Go.Proofs.Ytilknhackmccpaa
