/- Contract of partialInsertionSortOrdered at uint32 (printed by srtd.py). -/
import Derived.Test.YtilknhackmccpaaSrtC
import Derived.Sort.WalkA6
set_option linter.unusedVariables false
set_option linter.unusedSimpArgs false
namespace Go.Proofs.Ytilknhackmccpaa
open Go.RowKit Go.Sort

theorem fixDown_yes {a i : Nat} {d : Array Int} (h : i - a ≥ 2) : fixDown ltInt a i d = shiftDown ltInt (i - 1) d := by unfold fixDown; rw [if_pos h]
theorem fixDown_no {a i : Nat} {d : Array Int} (h : ¬ i - a ≥ 2) : fixDown ltInt a i d = d := by unfold fixDown; rw [if_neg h]
theorem fixUp_yes {b i : Nat} {d : Array Int} (h : b - i ≥ 2) : fixUp ltInt b i d = shiftUp ltInt b (i + 1) d := by unfold fixUp; rw [if_pos h]
theorem fixUp_no {b i : Nat} {d : Array Int} (h : ¬ b - i ≥ 2) : fixUp ltInt b i d = d := by unfold fixUp; rw [if_neg h]

set_option maxRecDepth 100000 in
set_option maxHeartbeats 16000000 in
theorem pins_u (g N n cap a b : Nat) (e : TypeId) (d : Array Int) (w : World) (H : Row w g N e d) (hn : d.size = n) (hab : a < b) (hb : b ≤ n) (hsz : n < 2305843009213693952) :
    Calls Try.prog 94 #[.slice (some ⟨g, 0, none⟩) n cap, .int .i64 a, .int .i64 b] w fun r w' =>
      r = .returned (.bool (partialInsertionSort ltInt d a b).2) ∧ (partialInsertionSort ltInt d a b).1.size = n ∧ Rw w g N e (partialInsertionSort ltInt d a b).1 w' := by
  have R0 := Lib.hid (Rw.refl H)
  clear H
  go_enter Try.func94, Try.ntmps94
  go_wp2
  go_loopw [7, 8] (fun vi vs wr => ∃ (i s : Nat) (dk : Array Int), vi = .int .i64 i ∧ vs = .int .i64 s ∧ a < i ∧ i ≤ b ∧ s ≤ 5 ∧ dk.size = n ∧ Hid (Rw w g N e dk wr) ∧ Hid (partialIns ltInt a b (5 - s) i dk = partialInsertionSort ltInt d a b)) (fun _ vs _ => 5 - (intOf vs).toNat)
  case atStart => exact ⟨a + 1, 0, d, by go_num, rfl, by omega, by omega, by decide, hn, R0, Lib.hid rfl⟩
  case round =>
    clear R0
    obtain ⟨I, s, dk, rfl, rfl, haI, hIb, hs5, hsk, RK, HO⟩ := hrel
    by_cases hs : s < 5
    · go_upto_block 2 with fail
      go_cut [7] (fun vi wx => ∃ k : Nat, vi = .int .i64 k ∧ I ≤ k ∧ k ≤ b ∧ scanSorted ltInt dk b I = k ∧ Hid (Rw w g N e dk wx))
      case first =>
        go_wp2
        go_loopw [7] (fun vi ws => ∃ i : Nat, vi = .int .i64 i ∧ I ≤ i ∧ i ≤ b ∧ Hid (Rw w g N e dk ws) ∧ Hid (scanSorted ltInt dk b I = scanSorted ltInt dk b i)) (fun vi _ => b - (intOf vi).toNat)
        case atStart => exact ⟨I, rfl, Nat.le_refl _, hIb, RK, Lib.hid rfl⟩
        case round =>
          obtain ⟨i, rfl, hIi, hib, RS, HS⟩ := hrel
          obtain ⟨G, hG, hcw, hfw⟩ := RS.out.fam hsk
          have GO : Hid (i < b → ltInt (G i) (G (i - 1)) = false → scanSorted ltInt dk b I = scanSorted ltInt dk b (i + 1)) := Lib.hid fun h1 h2 => by
            rw [HS.out, scanSorted_go ltInt dk b i h1 (by rw [hG, hG]; exact h2)]
          have ST : Hid ((¬ i < b ∨ ltInt (G i) (G (i - 1)) = true) → scanSorted ltInt dk b I = i) := Lib.hid fun h => by
            rw [HS.out, scanSorted_stop ltInt dk b i (by rw [hG, hG]; exact h)]
          replace hG := Lib.hid hG
          by_cases hij : i < b
          · have c1 := hcw i (by omega)
            have c2 := hcw (i - 1) (by omega)
            go_wp2
            first | go_quiet (first | (go_at_call 95; refine Calls.quiet_of_same (less_u _ _ _))) | fail
            go_wp2
            · have hl : ltInt (G i) (G (i - 1)) = false := of_not_true (by assumption)
              go_roundw
              case rel => first | exact ⟨i + 1, by go_num, by omega, by omega, Lib.hid (RS.out.drewN nq), Lib.hid (GO.out hij hl)⟩ | ((repeat apply Exists.intro); exact ⟨⟨i + 1, by go_num, by omega, by omega, Lib.hid (RS.out.drewN nq), Lib.hid (GO.out hij hl)⟩, rfl⟩)
              case measure => simp [intOf]; omega
            · have hl : ltInt (G i) (G (i - 1)) = true := of_not_false (by assumption)
              go_meet
              exact ⟨i, rfl, hIi, hib, ST.out (.inr hl), Lib.hid (RS.out.drewN nq)⟩
          · go_wp2
            first | go_quiet (first | (go_at_call 95; refine Calls.quiet_of_same (less_u _ _ _))) | fail
            go_wp2
            go_meet
            exact ⟨i, rfl, hIi, hib, ST.out (.inl hij), Lib.hid (RS.out.drewN nq)⟩
      case rest =>
      obtain ⟨k, rfl, hk1, hk2, hks, RK1⟩ := hcut
      clear RK
      by_cases hkb : k = b
      · have E := HO.out
        rw [pi_true ltInt a b s I dk hs (hks.trans hkb)] at E
        have hki : ((k : Int) == (b : Int)) = true := by rw [hkb]; simp
        clear hks HO
        go_wp2
        all_goals (go_ret; exact ⟨by rw [← E]; rfl, by rw [← E]; exact hsk, by rw [← E]; exact RK1.out⟩)
      · have hki : ((k : Int) == (b : Int)) = false := by simp; omega
        by_cases h50 : b - a < 50
        · have E := HO.out
          rw [pi_short ltInt a b s I dk hs (by rw [hks]; exact hkb) h50] at E
          have h50i : (b : Int) - (a : Int) < 50 := by omega
          clear hks HO
          go_wp2
          all_goals (go_ret; exact ⟨by rw [← E]; rfl, by rw [← E]; exact hsk, by rw [← E]; exact RK1.out⟩)
        · have E := HO.out
          rw [pi_go ltInt a b s I k dk hs hks hkb h50] at E
          have h50i : ¬ (b : Int) - (a : Int) < 50 := by omega
          replace E := Lib.hid E
          clear hks HO
          obtain ⟨G, hG, hcw, hfw⟩ := RK1.out.fam hsk
          have c1 := hcw k (by omega)
          have c2 := hcw (k - 1) (by omega)
          have f1 := hfw k (by omega)
          have f2 := hfw (k - 1) (by omega)
          obtain ⟨X, a1, a2⟩ := RK1.out.alias (i := k) (j := (k - 1)) (by omega) (by omega) (G (k - 1))
          have R2 := RK1.out.swap (i := k) (j := (k - 1)) (by omega) (by omega) 1
          rw [hG, hG] at R2
          replace R2 := Lib.hid R2
          clear hG hcw hfw
          have hs2 : (swp dk k (k - 1)).size = n := by rw [size_swp]; exact hsk
          go_upto_region 11 with fail
          first | go_region | fail
          all_goals (
            clear c1 c2 f1 f2 a1 a2 RK1
            obtain ⟨w1, hw1⟩ : ∃ w1, w1 = ((wc.setCell ⟨g, k, none⟩ (.int .u32 (G (k - 1)))).setCell ⟨g, k - 1, none⟩ (.int .u32 (G k))).drew := ⟨_, rfl⟩
            replace R2 : Hid (Rw w g N e (swp dk k (k - 1)) w1) := Lib.hid (by rw [hw1]; exact R2.out)
            rw [← hw1]
            clear hw1
            obtain ⟨d2, hd2⟩ : ∃ d2, d2 = swp dk k (k - 1) := ⟨_, rfl⟩
            rw [← hd2] at R2 hs2 E
            clear hd2 hsk dk
            obtain ⟨d3, hd3⟩ : ∃ d3, d3 = fixDown ltInt a k d2 := ⟨_, rfl⟩
            rw [← hd3] at E
            replace hd3 := Lib.hid hd3
            go_upto_if 61 with fail
            go_cut [] (fun wx => d3.size = n ∧ Hid (Rw w g N e d3 wx))
            case first =>
              by_cases h2 : k - a ≥ 2
              · have e3 := Lib.hid (hd3.out.trans (fixDown_yes h2)).symm
                have h2i : (2 : Int) ≤ (k : Int) - (a : Int) := by omega
                go_wp2
                go_loopw [9] (fun vj ws => ∃ (j : Nat) (dj : Array Int), vj = .int .i64 j ∧ j < n ∧ dj.size = n ∧ Hid (Rw w g N e dj ws) ∧ Hid (shiftDown ltInt j dj = d3)) (fun vj _ => (intOf vj).toNat)
                case atStart => exact ⟨k - 1, d2, by congr 1; omega, by omega, hs2, R2, e3⟩
                case round =>
                  obtain ⟨j, dj, rfl, hjn, hsj, RJ, HJ⟩ := hrel
                  obtain ⟨G, hG, hcw, hfw⟩ := RJ.out.fam hsj
                  by_cases hj1 : 1 ≤ j
                  · have c1 := hcw j (by omega)
                    have c2 := hcw (j - 1) (by omega)
                    have GO := Lib.hid (fun h => (shiftDown_go ltInt j dj hj1 (by rw [hG, hG]; exact h)).symm.trans HJ.out)
                    have ST := Lib.hid (fun h => (shiftDown_stop ltInt j dj (.inr (by rw [hG, hG]; exact h))).symm.trans HJ.out)
                    replace hG := Lib.hid hG
                    go_upto_region 16 with fail
                    first | go_quiet (first | (go_at_call 95; refine Calls.quiet_of_same (less_u _ _ _))) | fail
                    go_wp2
                    · have hl : ltInt (G j) (G (j - 1)) = false := of_not_true (by assumption)
                      have F := ST.out hl
                      go_meet
                      exact ⟨by rw [← F]; exact hsj, by rw [← F]; exact Lib.hid (RJ.out.drewN nq)⟩
                    · have hl : ltInt (G j) (G (j - 1)) = true := of_not_false (by assumption)
                      have F := Lib.hid (GO.out hl)
                      obtain ⟨w2, hw2⟩ : ∃ w2, w2 = wr.drewN nq := ⟨_, rfl⟩
                      have R3 := RJ.out.drewN nq
                      rw [← hw2] at R3 ⊢
                      clear hw2 c1 c2
                      have c1 := R3.at hG.out (i := j) (by omega)
                      have c2 := R3.at hG.out (i := j - 1) (by omega)
                      have f1 := R3.row.froz j
                      have f2 := R3.row.froz (j - 1)
                      have R4 := R3.swap (i := j) (j := j - 1) (by omega) (by omega) 1
                      rw [hG.out, hG.out] at R4
                      replace R4 := Lib.hid R4
                      replace R3 := Lib.hid R3
                      first | go_region | fail
                      all_goals (
                        go_wp2
                        go_roundw
                        case rel => first | exact ⟨j - 1, swp dj j (j - 1), by congr 1; omega, by omega, by rw [size_swp]; exact hsj, R4, F⟩ | ((repeat apply Exists.intro); exact ⟨⟨j - 1, swp dj j (j - 1), by congr 1; omega, by omega, by rw [size_swp]; exact hsj, R4, F⟩, rfl⟩)
                        case measure => simp [intOf]; omega)
                  · have F := HJ.out
                    rw [shiftDown_stop ltInt j dj (.inl (by omega))] at F
                    go_wp2
                    go_meet
                    exact ⟨by rw [← F]; exact hsj, by rw [← F]; exact RJ⟩
              · have e3 := hd3.out.trans (fixDown_no h2)
                have h2i : ¬ (2 : Int) ≤ (k : Int) - (a : Int) := by omega
                go_wp2
                go_meet
                exact ⟨by rw [e3]; exact hs2, by rw [e3]; exact R2⟩
            case rest =>
            obtain ⟨hs3, R5⟩ := hcut
            clear hd3 R2 hs2 d2
            obtain ⟨d4, hd4⟩ : ∃ d4, d4 = fixUp ltInt b k d3 := ⟨_, rfl⟩
            rw [← hd4] at E
            replace hd4 := Lib.hid hd4
            go_upto_if 98 with fail
            by_cases h2 : b - k ≥ 2
            · have e3 := Lib.hid (hd4.out.trans (fixUp_yes h2)).symm
              have h2i : (2 : Int) ≤ (b : Int) - (k : Int) := by omega
              go_wp2
              go_loopw [10] (fun vj ws => ∃ (j : Nat) (dj : Array Int), vj = .int .i64 j ∧ k < j ∧ j ≤ b ∧ dj.size = n ∧ Hid (Rw w g N e dj ws) ∧ Hid (shiftUp ltInt b j dj = d4)) (fun vj _ => b - (intOf vj).toNat)
              case atStart => exact ⟨k + 1, d3, by go_num, by omega, by omega, hs3, R5, e3⟩
              case round =>
                obtain ⟨j, dj, rfl, hkj, hjb, hsj, RJ, HJ⟩ := hrel
                obtain ⟨G, hG, hcw, hfw⟩ := RJ.out.fam hsj
                by_cases hj1 : j < b
                · have c1 := hcw j (by omega)
                  have c2 := hcw (j - 1) (by omega)
                  have GO := Lib.hid (fun h => (shiftUp_go ltInt b j dj hj1 (by rw [hG, hG]; exact h)).symm.trans HJ.out)
                  have ST := Lib.hid (fun h => (shiftUp_stop ltInt b j dj (.inr (by rw [hG, hG]; exact h))).symm.trans HJ.out)
                  replace hG := Lib.hid hG
                  go_upto_region 22 with fail
                  first | go_quiet (first | (go_at_call 95; refine Calls.quiet_of_same (less_u _ _ _))) | fail
                  go_wp2
                  · have hl : ltInt (G j) (G (j - 1)) = false := of_not_true (by assumption)
                    have F := ST.out hl
                    go_roundw
                    case rel => first | exact ⟨k, s + 1, d4, rfl, by go_num, by omega, by omega, by omega, by rw [← F]; exact hsj, by rw [← F]; exact Lib.hid (RJ.out.drewN nq), E⟩ | ((repeat apply Exists.intro); exact ⟨⟨k, s + 1, d4, rfl, by go_num, by omega, by omega, by omega, by rw [← F]; exact hsj, by rw [← F]; exact Lib.hid (RJ.out.drewN nq), E⟩, rfl⟩)
                    case measure => simp [intOf]; omega
                  · have hl : ltInt (G j) (G (j - 1)) = true := of_not_false (by assumption)
                    have F := Lib.hid (GO.out hl)
                    obtain ⟨w2, hw2⟩ : ∃ w2, w2 = wr.drewN nq := ⟨_, rfl⟩
                    have R3 := RJ.out.drewN nq
                    rw [← hw2] at R3 ⊢
                    clear hw2 c1 c2
                    have c1 := R3.at hG.out (i := j) (by omega)
                    have c2 := R3.at hG.out (i := j - 1) (by omega)
                    have f1 := R3.row.froz j
                    have f2 := R3.row.froz (j - 1)
                    have R4 := R3.swap (i := j) (j := j - 1) (by omega) (by omega) 1
                    rw [hG.out, hG.out] at R4
                    replace R4 := Lib.hid R4
                    replace R3 := Lib.hid R3
                    first | go_region | fail
                    all_goals (
                      go_wp2
                      go_roundw
                      case rel => first | exact ⟨j + 1, swp dj j (j - 1), by go_num, by omega, by omega, by rw [size_swp]; exact hsj, R4, F⟩ | ((repeat apply Exists.intro); exact ⟨⟨j + 1, swp dj j (j - 1), by go_num, by omega, by omega, by rw [size_swp]; exact hsj, R4, F⟩, rfl⟩)
                      case measure => simp [intOf]; omega)
                · have F := HJ.out
                  rw [shiftUp_stop ltInt b j dj (.inl hj1)] at F
                  go_wp2
                  go_roundw
                  case rel => first | exact ⟨k, s + 1, d4, rfl, by go_num, by omega, by omega, by omega, by rw [← F]; exact hsj, by rw [← F]; exact RJ, E⟩ | ((repeat apply Exists.intro); exact ⟨⟨k, s + 1, d4, rfl, by go_num, by omega, by omega, by omega, by rw [← F]; exact hsj, by rw [← F]; exact RJ, E⟩, rfl⟩)
                  case measure => simp [intOf]; omega
            · have e3 := hd4.out.trans (fixUp_no h2)
              have h2i : ¬ (2 : Int) ≤ (b : Int) - (k : Int) := by omega
              go_wp2
              go_roundw
              case rel => first | exact ⟨k, s + 1, d4, rfl, by go_num, by omega, by omega, by omega, by rw [e3]; exact hs3, by rw [e3]; exact R5, E⟩ | ((repeat apply Exists.intro); exact ⟨⟨k, s + 1, d4, rfl, by go_num, by omega, by omega, by omega, by rw [e3]; exact hs3, by rw [e3]; exact R5, E⟩, rfl⟩)
              case measure => simp [intOf]; omega)
    · obtain rfl : s = 5 := by omega
      have E := HO.out
      rw [pi_end] at E
      go_wp2
      go_ret
      exact ⟨by rw [← E]; rfl, by rw [← E]; exact hsk, by rw [← E]; exact RK.out⟩
end Go.Proofs.Ytilknhackmccpaa
