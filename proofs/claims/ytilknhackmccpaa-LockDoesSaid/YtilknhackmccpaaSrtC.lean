/- Contracts of partitionOrdered and partitionEqualOrdered at uint32 (printed by srtc.py). -/
import Derived.Test.YtilknhackmccpaaSrtB
import Derived.Sort.WalkC
import Derived.Sort.WalkC4
import Derived.Deep.CutBlock
set_option linter.unusedVariables false
set_option linter.unusedSimpArgs false
namespace Go.Proofs.Ytilknhackmccpaa
open Go.RowKit Go.Sort

set_option maxRecDepth 100000 in
set_option maxHeartbeats 8000000 in
theorem partEq_u (g N n cap a b pivot : Nat) (e : TypeId) (d : Array Int) (w : World) (H : Row w g N e d) (hn : d.size = n) (hap : a ≤ pivot) (hpb : pivot < b) (hb : b ≤ n) (hsz : n < 2305843009213693952) :
    Calls Try.prog 96 #[.slice (some ⟨g, 0, none⟩) n cap, .int .i64 a, .int .i64 b, .int .i64 pivot] w fun r w' =>
      r = .returned (.int .i64 (partitionEqual ltInt d a b pivot).1) ∧ (partitionEqual ltInt d a b pivot).2.size = n ∧ Rw w g N e (partitionEqual ltInt d a b pivot).2 w' := by
  have R0 := Lib.hid (Rw.refl H)
  clear H
  have hsk0 : (swp d a pivot).size = n := by rw [size_swp]; exact hn
  have H0 : Hid (partEqLoop ltInt a (a + 1) (b - 1) (swp d a pivot) = partitionEqual ltInt d a b pivot) := Lib.hid rfl
  go_enter Try.func96, Try.ntmps96
  obtain ⟨G, hG, hcw, hfw⟩ := R0.out.fam hn
  have c1 := hcw a (by omega)
  have c2 := hcw pivot (by omega)
  have f1 := hfw a (by omega)
  have f2 := hfw pivot (by omega)
  obtain ⟨X, a1, a2⟩ := R0.out.alias (i := a) (j := pivot) (by omega) (by omega) (G pivot)
  have R1 := R0.out.swap (i := a) (j := pivot) (by omega) (by omega) 1
  rw [hG, hG] at R1
  replace R1 := Lib.hid R1
  clear hG hcw hfw
  go_upto_region 1 with fail
  first | go_region | fail
  all_goals (
    clear c1 c2 f1 f2 a1 a2 R0
    obtain ⟨w1, hw1⟩ : ∃ w1, w1 = ((w.setCell ⟨g, a, none⟩ (.int .u32 (G pivot))).setCell ⟨g, pivot, none⟩ (.int .u32 (G a))).drew := ⟨_, rfl⟩
    replace R1 : Hid (Rw w g N e (swp d a pivot) w1) := Lib.hid (by rw [hw1]; exact R1.out)
    rw [← hw1]
    clear hw1
    go_wp2
    go_loopw [9, 10] (fun vi vj wr => ∃ (i j : Nat) (dk : Array Int), vi = .int .i64 i ∧ vj = .int .i64 j ∧ a < i ∧ i ≤ j + 1 ∧ j < b ∧ a ≤ j ∧ dk.size = n ∧ Hid (Rw w g N e dk wr) ∧ Hid (partEqLoop ltInt a i j dk = partitionEqual ltInt d a b pivot)) (fun vi vj _ => (intOf vj + 1 - intOf vi).toNat)
    case atStart => exact ⟨a + 1, b - 1, _, by go_num, by congr 1; omega, by omega, by omega, by omega, by omega, hsk0, R1, H0⟩
    case round =>
      clear R1 H0 hsk0
      obtain ⟨I, J, dk, rfl, rfl, hai, hij0, hjb, haj0, hsk, RK, HO⟩ := hrel
      go_upto_block 2 with fail
      go_cut [9] (fun vi wx => ∃ i2 : Nat, vi = .int .i64 i2 ∧ I ≤ i2 ∧ i2 ≤ J + 1 ∧ i2 = scanUp (fun x => !ltInt dk[a]! x) dk J (I) ∧ Hid (Rw w g N e dk wx))
      case first =>
        go_wp2
        go_loopw [9] (fun vi ws => ∃ i : Nat, vi = .int .i64 i ∧ I ≤ i ∧ i ≤ J + 1 ∧ Hid (Rw w g N e dk ws) ∧ Hid (scanUp (fun x => !ltInt dk[a]! x) dk J i = scanUp (fun x => !ltInt dk[a]! x) dk J (I))) (fun vi _ => J + 1 - (intOf vi).toNat)
        case atStart => exact ⟨I, by go_num, Nat.le_refl _, by omega, RK, Lib.hid rfl⟩
        case round =>
          obtain ⟨i, rfl, hIi, hib, RS, HS⟩ := hrel
          obtain ⟨G, hG, hcw, hfw⟩ := RS.out.fam hsk
          have GO : Hid (i ≤ J → ltInt (G a) (G i) = false → scanUp (fun x => !ltInt dk[a]! x) dk J (i + 1) = scanUp (fun x => !ltInt dk[a]! x) dk J (I)) := Lib.hid fun h1 h2 => by
            rw [← HS.out, scanUp_go _ dk J i h1 (by simp only [hG]; rw [h2]; rfl)]
          have ST : Hid ((¬ i ≤ J ∨ ltInt (G a) (G i) = true) → i = scanUp (fun x => !ltInt dk[a]! x) dk J (I)) := Lib.hid fun h => by
            rw [← HS.out, scanUp_end _ dk J i (h.imp id fun h2 => by simp only [hG]; rw [h2]; rfl)]
          replace hG := Lib.hid hG
          by_cases hij : i ≤ J
          · have c1 := hcw i (by omega)
            have c2 := hcw a (by omega)
            go_wp2
            first | go_quiet (first | (go_at_call 95; refine Calls.quiet_of_same (less_u _ _ _))) | fail
            go_wp2
            · have hl : ltInt (G a) (G i) = false := of_not_true (by assumption)
              go_roundw
              case rel => first | exact ⟨i + 1, by go_num, by omega, by omega, Lib.hid (RS.out.drewN nq), Lib.hid (GO.out hij hl)⟩ | ((repeat apply Exists.intro); exact ⟨⟨i + 1, by go_num, by omega, by omega, Lib.hid (RS.out.drewN nq), Lib.hid (GO.out hij hl)⟩, rfl⟩)
              case measure => simp [intOf]; omega
            · have hl : ltInt (G a) (G i) = true := of_not_false (by assumption)
              go_meet
              exact ⟨i, rfl, hIi, hib, ST.out (.inr hl), Lib.hid (RS.out.drewN nq)⟩
          · go_wp2
            first | go_quiet (first | (go_at_call 95; refine Calls.quiet_of_same (less_u _ _ _))) | fail
            go_wp2
            go_meet
            exact ⟨i, rfl, hIi, hib, ST.out (.inl hij), Lib.hid (RS.out.drewN nq)⟩
      case rest =>
      obtain ⟨i2, rfl, hi1, hi2, hiu, RK1⟩ := hcut
      replace hiu := Lib.hid hiu
      clear RK
      go_upto_block 4 with fail
      go_cut [10] (fun vj wx => ∃ j2 : Nat, vj = .int .i64 j2 ∧ j2 ≤ J ∧ a ≤ j2 ∧ j2 = scanDown (fun x => ltInt dk[a]! x) dk i2 (J) ∧ Hid (Rw w g N e dk wx))
      case first =>
        go_wp2
        go_loopw [10] (fun vj ws => ∃ j : Nat, vj = .int .i64 j ∧ j ≤ J ∧ a ≤ j ∧ Hid (Rw w g N e dk ws) ∧ Hid (scanDown (fun x => ltInt dk[a]! x) dk i2 j = scanDown (fun x => ltInt dk[a]! x) dk i2 (J))) (fun vj _ => (intOf vj).toNat)
        case atStart => exact ⟨J, rfl, Nat.le_refl _, by omega, RK1, Lib.hid rfl⟩
        case round =>
          obtain ⟨j, rfl, hjJ, haj, RS, HS⟩ := hrel
          obtain ⟨G, hG, hcw, hfw⟩ := RS.out.fam hsk
          have GO : Hid (i2 ≤ j → 0 < j → ltInt (G a) (G j) = true → scanDown (fun x => ltInt dk[a]! x) dk i2 (j - 1) = scanDown (fun x => ltInt dk[a]! x) dk i2 (J)) := Lib.hid fun h1 h0 h2 => by
            rw [← HS.out, scanDown_go _ dk i2 j h1 h0 (by simp only [hG]; rw [h2])]
          have ST : Hid ((¬ i2 ≤ j ∨ ltInt (G a) (G j) = false) → j = scanDown (fun x => ltInt dk[a]! x) dk i2 (J)) := Lib.hid fun h => by
            rw [← HS.out, scanDown_end _ dk i2 j (h.imp id fun h2 => by simp only [hG]; rw [h2])]
          replace hG := Lib.hid hG
          by_cases hij : i2 ≤ j
          · have c1 := hcw j (by omega)
            have c2 := hcw a (by omega)
            go_wp2
            first | go_quiet (first | (go_at_call 95; refine Calls.quiet_of_same (less_u _ _ _))) | fail
            go_wp2
            · have hl : ltInt (G a) (G j) = true := by assumption
              go_roundw
              case rel => first | exact ⟨j - 1, by congr 1; omega, by omega, by omega, Lib.hid (RS.out.drewN nq), Lib.hid (GO.out hij (by omega) hl)⟩ | ((repeat apply Exists.intro); exact ⟨⟨j - 1, by congr 1; omega, by omega, by omega, Lib.hid (RS.out.drewN nq), Lib.hid (GO.out hij (by omega) hl)⟩, rfl⟩)
              case measure => simp [intOf]; omega
            · have hl : ltInt (G a) (G j) = false := by assumption
              go_meet
              exact ⟨j, rfl, hjJ, haj, ST.out (.inr hl), Lib.hid (RS.out.drewN nq)⟩
          · go_wp2
            first | go_quiet (first | (go_at_call 95; refine Calls.quiet_of_same (less_u _ _ _))) | fail
            go_wp2
            go_meet
            exact ⟨j, rfl, hjJ, haj, ST.out (.inl hij), Lib.hid (RS.out.drewN nq)⟩
      case rest =>
      obtain ⟨j2, rfl, hj1, hj2, hjd, RK2⟩ := hcut
      replace hjd := Lib.hid hjd
      clear RK1
      by_cases hgt : j2 < i2
      · have E := HO.out
        rw [partEq_break ltInt a I J dk hiu.out hjd.out hgt] at E
        go_wp2
        go_ret
        exact ⟨by rw [← E]; rfl, by rw [← E]; exact hsk, by rw [← E]; exact RK2.out⟩
      · have hne := scans_lt ltInt a I J dk (by omega) hiu.out hjd.out (by omega)
        have E := HO.out
        rw [partEq_go ltInt a I J dk hiu.out hjd.out (by omega)] at E
        replace E := Lib.hid E
        obtain ⟨G, hG, hcw, hfw⟩ := RK2.out.fam hsk
        have c1 := hcw i2 (by omega)
        have c2 := hcw j2 (by omega)
        have f1 := hfw i2 (by omega)
        have f2 := hfw j2 (by omega)
        obtain ⟨X, a1, a2⟩ := RK2.out.alias (i := i2) (j := j2) (by omega) (by omega) (G j2)
        have R3 := RK2.out.swap (i := i2) (j := j2) (by omega) (by omega) 1
        rw [hG, hG] at R3
        replace R3 := Lib.hid R3
        clear hG hcw hfw
        go_upto_region 8 with fail
        first | go_region | fail
        all_goals (
          go_wp2
          go_roundw
          case rel => first | exact ⟨i2 + 1, j2 - 1, swp dk i2 j2, by go_num, by congr 1; omega, by omega, by omega, by omega, by omega, by rw [size_swp]; exact hsk, R3, E⟩ | ((repeat apply Exists.intro); exact ⟨⟨i2 + 1, j2 - 1, swp dk i2 j2, by go_num, by congr 1; omega, by omega, by omega, by omega, by omega, by rw [size_swp]; exact hsk, R3, E⟩, rfl⟩)
          case measure => simp [intOf]; omega))

set_option maxRecDepth 100000 in
set_option maxHeartbeats 16000000 in
theorem part_u (g N n cap a b pivot : Nat) (e : TypeId) (d : Array Int) (w : World) (H : Row w g N e d) (hn : d.size = n) (hap : a ≤ pivot) (hpb : pivot < b) (hb : b ≤ n) (hsz : n < 2305843009213693952) :
    Calls Try.prog 97 #[.slice (some ⟨g, 0, none⟩) n cap, .int .i64 a, .int .i64 b, .int .i64 pivot] w fun r w' =>
      r = .returned (.tuple #[.int .i64 (partition ltInt d a b pivot).1, .bool (partition ltInt d a b pivot).2.1]) ∧ (partition ltInt d a b pivot).2.2.size = n ∧ Rw w g N e (partition ltInt d a b pivot).2.2 w' := by
  have R0 := Lib.hid (Rw.refl H)
  clear H
  obtain ⟨dk, hdk⟩ : ∃ dk, dk = swp d a pivot := ⟨_, rfl⟩
  have hsk : dk.size = n := by rw [hdk, size_swp]; exact hn
  go_enter Try.func97, Try.ntmps97
  obtain ⟨G, hG, hcw, hfw⟩ := R0.out.fam hn
  have c1 := hcw a (by omega)
  have c2 := hcw pivot (by omega)
  have f1 := hfw a (by omega)
  have f2 := hfw pivot (by omega)
  obtain ⟨X, a1, a2⟩ := R0.out.alias (i := a) (j := pivot) (by omega) (by omega) (G pivot)
  have R1 := R0.out.swap (i := a) (j := pivot) (by omega) (by omega) 1
  rw [hG, hG] at R1
  replace R1 := Lib.hid R1
  clear hG hcw hfw
  rw [← hdk] at R1
  replace hdk := Lib.hid hdk
  go_upto_region 1 with fail
  first | go_region | fail
  all_goals (
    clear c1 c2 f1 f2 a1 a2 R0
    obtain ⟨w1, hw1⟩ : ∃ w1, w1 = ((w.setCell ⟨g, a, none⟩ (.int .u32 (G pivot))).setCell ⟨g, pivot, none⟩ (.int .u32 (G a))).drew := ⟨_, rfl⟩
    replace R1 : Hid (Rw w g N e dk w1) := Lib.hid (by rw [hw1]; exact R1.out)
    rw [← hw1]
    clear hw1
    obtain ⟨J, hJ⟩ : ∃ J, b - 1 = J := ⟨_, rfl⟩
    have hJi : (b : Int) - 1 = (J : Int) := by omega
    go_upto_block 0 with fail
    go_cut [10] (fun vi wx => ∃ i2 : Nat, vi = .int .i64 i2 ∧ a + 1 ≤ i2 ∧ i2 ≤ J + 1 ∧ i2 = scanUp (fun x => ltInt x dk[a]!) dk J (a + 1) ∧ Hid (Rw w g N e dk wx))
    case first =>
      go_wp2
      go_loopw [10] (fun vi ws => ∃ i : Nat, vi = .int .i64 i ∧ a + 1 ≤ i ∧ i ≤ J + 1 ∧ Hid (Rw w g N e dk ws) ∧ Hid (scanUp (fun x => ltInt x dk[a]!) dk J i = scanUp (fun x => ltInt x dk[a]!) dk J (a + 1))) (fun vi _ => J + 1 - (intOf vi).toNat)
      case atStart => exact ⟨a + 1, by go_num, Nat.le_refl _, by omega, R1, Lib.hid rfl⟩
      case round =>
        obtain ⟨i, rfl, hIi, hib, RS, HS⟩ := hrel
        obtain ⟨G, hG, hcw, hfw⟩ := RS.out.fam hsk
        have GO : Hid (i ≤ J → ltInt (G i) (G a) = true → scanUp (fun x => ltInt x dk[a]!) dk J (i + 1) = scanUp (fun x => ltInt x dk[a]!) dk J (a + 1)) := Lib.hid fun h1 h2 => by
          rw [← HS.out, scanUp_go _ dk J i h1 (by simp only [hG]; rw [h2])]
        have ST : Hid ((¬ i ≤ J ∨ ltInt (G i) (G a) = false) → i = scanUp (fun x => ltInt x dk[a]!) dk J (a + 1)) := Lib.hid fun h => by
          rw [← HS.out, scanUp_end _ dk J i (h.imp id fun h2 => by simp only [hG]; rw [h2])]
        replace hG := Lib.hid hG
        by_cases hij : i ≤ J
        · have c1 := hcw i (by omega)
          have c2 := hcw a (by omega)
          go_wp2
          first | go_quiet (first | (go_at_call 95; refine Calls.quiet_of_same (less_u _ _ _))) | fail
          go_wp2
          · have hl : ltInt (G i) (G a) = true := by assumption
            go_roundw
            case rel => first | exact ⟨i + 1, by go_num, by omega, by omega, Lib.hid (RS.out.drewN nq), Lib.hid (GO.out hij hl)⟩ | ((repeat apply Exists.intro); exact ⟨⟨i + 1, by go_num, by omega, by omega, Lib.hid (RS.out.drewN nq), Lib.hid (GO.out hij hl)⟩, rfl⟩)
            case measure => simp [intOf]; omega
          · have hl : ltInt (G i) (G a) = false := by assumption
            go_meet
            exact ⟨i, rfl, hIi, hib, ST.out (.inr hl), Lib.hid (RS.out.drewN nq)⟩
        · go_wp2
          first | go_quiet (first | (go_at_call 95; refine Calls.quiet_of_same (less_u _ _ _))) | fail
          go_wp2
          go_meet
          exact ⟨i, rfl, hIi, hib, ST.out (.inl hij), Lib.hid (RS.out.drewN nq)⟩
    case rest =>
    obtain ⟨i2, rfl, hi1, hi2, hiu, RK1⟩ := hcut
    replace hiu := Lib.hid hiu
    clear R1
    go_upto_block 2 with fail
    go_cut [11] (fun vj wx => ∃ j2 : Nat, vj = .int .i64 j2 ∧ j2 ≤ J ∧ a ≤ j2 ∧ j2 = scanDown (fun x => !ltInt x dk[a]!) dk i2 (J) ∧ Hid (Rw w g N e dk wx))
    case first =>
      go_wp2
      go_loopw [11] (fun vj ws => ∃ j : Nat, vj = .int .i64 j ∧ j ≤ J ∧ a ≤ j ∧ Hid (Rw w g N e dk ws) ∧ Hid (scanDown (fun x => !ltInt x dk[a]!) dk i2 j = scanDown (fun x => !ltInt x dk[a]!) dk i2 (J))) (fun vj _ => (intOf vj).toNat)
      case atStart => exact ⟨J, rfl, Nat.le_refl _, by omega, RK1, Lib.hid rfl⟩
      case round =>
        obtain ⟨j, rfl, hjJ, haj, RS, HS⟩ := hrel
        obtain ⟨G, hG, hcw, hfw⟩ := RS.out.fam hsk
        have GO : Hid (i2 ≤ j → 0 < j → ltInt (G j) (G a) = false → scanDown (fun x => !ltInt x dk[a]!) dk i2 (j - 1) = scanDown (fun x => !ltInt x dk[a]!) dk i2 (J)) := Lib.hid fun h1 h0 h2 => by
          rw [← HS.out, scanDown_go _ dk i2 j h1 h0 (by simp only [hG]; rw [h2]; rfl)]
        have ST : Hid ((¬ i2 ≤ j ∨ ltInt (G j) (G a) = true) → j = scanDown (fun x => !ltInt x dk[a]!) dk i2 (J)) := Lib.hid fun h => by
          rw [← HS.out, scanDown_end _ dk i2 j (h.imp id fun h2 => by simp only [hG]; rw [h2]; rfl)]
        replace hG := Lib.hid hG
        by_cases hij : i2 ≤ j
        · have c1 := hcw j (by omega)
          have c2 := hcw a (by omega)
          go_wp2
          first | go_quiet (first | (go_at_call 95; refine Calls.quiet_of_same (less_u _ _ _))) | fail
          go_wp2
          · have hl : ltInt (G j) (G a) = false := of_not_true (by assumption)
            go_roundw
            case rel => first | exact ⟨j - 1, by congr 1; omega, by omega, by omega, Lib.hid (RS.out.drewN nq), Lib.hid (GO.out hij (by omega) hl)⟩ | ((repeat apply Exists.intro); exact ⟨⟨j - 1, by congr 1; omega, by omega, by omega, Lib.hid (RS.out.drewN nq), Lib.hid (GO.out hij (by omega) hl)⟩, rfl⟩)
            case measure => simp [intOf]; omega
          · have hl : ltInt (G j) (G a) = true := of_not_false (by assumption)
            go_meet
            exact ⟨j, rfl, hjJ, haj, ST.out (.inr hl), Lib.hid (RS.out.drewN nq)⟩
        · go_wp2
          first | go_quiet (first | (go_at_call 95; refine Calls.quiet_of_same (less_u _ _ _))) | fail
          go_wp2
          go_meet
          exact ⟨j, rfl, hjJ, haj, ST.out (.inl hij), Lib.hid (RS.out.drewN nq)⟩
    case rest =>
    obtain ⟨j2, rfl, hj1, hj2, hjd, RK2⟩ := hcut
    replace hjd := Lib.hid hjd
    clear RK1
    by_cases hgt : j2 < i2
    · have E := part_first_break ltInt d a b pivot rfl hJ.symm hdk.out hiu.out hjd.out hgt
      obtain ⟨G, hG, hcw, hfw⟩ := RK2.out.fam hsk
      have c1 := hcw j2 (by omega)
      have c2 := hcw a (by omega)
      have f1 := hfw j2 (by omega)
      have f2 := hfw a (by omega)
      obtain ⟨X, a1, a2⟩ := RK2.out.alias (i := j2) (j := a) (by omega) (by omega) (G a)
      have R3 := RK2.out.swap (i := j2) (j := a) (by omega) (by omega) 1
      rw [hG, hG] at R3
      replace R3 := Lib.hid R3
      clear hG hcw hfw
      go_upto_region 8 with fail
      first | go_region | fail
      all_goals (
        go_wp2
        go_ret2
        exact ⟨by rw [E]; rfl, by rw [E]; show (swp dk j2 a).size = n; rw [size_swp]; exact hsk, by rw [E]; exact R3.out⟩)
    · have hne := part_scans_lt ltInt a (a + 1) J dk (by omega) hiu.out hjd.out (by omega)
      have E := Lib.hid (part_first_go ltInt d a b pivot rfl hJ.symm hdk.out hiu.out hjd.out (by omega))
      obtain ⟨G, hG, hcw, hfw⟩ := RK2.out.fam hsk
      have c1 := hcw i2 (by omega)
      have c2 := hcw j2 (by omega)
      have f1 := hfw i2 (by omega)
      have f2 := hfw j2 (by omega)
      obtain ⟨X, a1, a2⟩ := RK2.out.alias (i := i2) (j := j2) (by omega) (by omega) (G j2)
      have R3 := RK2.out.swap (i := i2) (j := j2) (by omega) (by omega) 1
      rw [hG, hG] at R3
      replace R3 := Lib.hid R3
      clear hG hcw hfw
      have hs3 : (swp dk i2 j2).size = n := by rw [size_swp]; exact hsk
      go_upto_region 10 with fail
      first | go_region | fail
      all_goals (
        clear c1 c2 f1 f2 a1 a2 RK2
        obtain ⟨w2, hw2⟩ : ∃ w2, w2 = ((wc.setCell ⟨g, i2, none⟩ (.int .u32 (G j2))).setCell ⟨g, j2, none⟩ (.int .u32 (G i2))).drew := ⟨_, rfl⟩
        replace R3 : Hid (Rw w g N e (swp dk i2 j2) w2) := Lib.hid (by rw [hw2]; exact R3.out)
        rw [← hw2]
        clear hw2
        go_wp2
        go_loopw [10, 11] (fun vi vj wr => ∃ (i j : Nat) (dm : Array Int), vi = .int .i64 i ∧ vj = .int .i64 j ∧ a < i ∧ i ≤ j + 1 ∧ j < b ∧ a ≤ j ∧ dm.size = n ∧ Hid (Rw w g N e dm wr) ∧ Hid (partLoop ltInt a i j dm = partLoop ltInt a (i2 + 1) (j2 - 1) (swp dk i2 j2))) (fun vi vj _ => (intOf vj + 1 - intOf vi).toNat)
        case atStart => exact ⟨i2 + 1, j2 - 1, _, by go_num, by congr 1; omega, by omega, by omega, by omega, by omega, hs3, R3, Lib.hid rfl⟩
        case round =>
          clear R3 hs3 hsk
          obtain ⟨K, M, dm, rfl, rfl, hai, hij0, hjb, haj0, hsk, RK, HO⟩ := hrel
          go_upto_block 6 with fail
          go_cut [10] (fun vi wx => ∃ i2 : Nat, vi = .int .i64 i2 ∧ K ≤ i2 ∧ i2 ≤ M + 1 ∧ i2 = scanUp (fun x => ltInt x dm[a]!) dm M (K) ∧ Hid (Rw w g N e dm wx))
          case first =>
            go_wp2
            go_loopw [10] (fun vi ws => ∃ i : Nat, vi = .int .i64 i ∧ K ≤ i ∧ i ≤ M + 1 ∧ Hid (Rw w g N e dm ws) ∧ Hid (scanUp (fun x => ltInt x dm[a]!) dm M i = scanUp (fun x => ltInt x dm[a]!) dm M (K))) (fun vi _ => M + 1 - (intOf vi).toNat)
            case atStart => exact ⟨K, by go_num, Nat.le_refl _, by omega, RK, Lib.hid rfl⟩
            case round =>
              obtain ⟨i, rfl, hIi, hib, RS, HS⟩ := hrel
              obtain ⟨G, hG, hcw, hfw⟩ := RS.out.fam hsk
              have GO : Hid (i ≤ M → ltInt (G i) (G a) = true → scanUp (fun x => ltInt x dm[a]!) dm M (i + 1) = scanUp (fun x => ltInt x dm[a]!) dm M (K)) := Lib.hid fun h1 h2 => by
                rw [← HS.out, scanUp_go _ dm M i h1 (by simp only [hG]; rw [h2])]
              have ST : Hid ((¬ i ≤ M ∨ ltInt (G i) (G a) = false) → i = scanUp (fun x => ltInt x dm[a]!) dm M (K)) := Lib.hid fun h => by
                rw [← HS.out, scanUp_end _ dm M i (h.imp id fun h2 => by simp only [hG]; rw [h2])]
              replace hG := Lib.hid hG
              by_cases hij : i ≤ M
              · have c1 := hcw i (by omega)
                have c2 := hcw a (by omega)
                go_wp2
                first | go_quiet (first | (go_at_call 95; refine Calls.quiet_of_same (less_u _ _ _))) | fail
                go_wp2
                · have hl : ltInt (G i) (G a) = true := by assumption
                  go_roundw
                  case rel => first | exact ⟨i + 1, by go_num, by omega, by omega, Lib.hid (RS.out.drewN nq), Lib.hid (GO.out hij hl)⟩ | ((repeat apply Exists.intro); exact ⟨⟨i + 1, by go_num, by omega, by omega, Lib.hid (RS.out.drewN nq), Lib.hid (GO.out hij hl)⟩, rfl⟩)
                  case measure => simp [intOf]; omega
                · have hl : ltInt (G i) (G a) = false := by assumption
                  go_meet
                  exact ⟨i, rfl, hIi, hib, ST.out (.inr hl), Lib.hid (RS.out.drewN nq)⟩
              · go_wp2
                first | go_quiet (first | (go_at_call 95; refine Calls.quiet_of_same (less_u _ _ _))) | fail
                go_wp2
                go_meet
                exact ⟨i, rfl, hIi, hib, ST.out (.inl hij), Lib.hid (RS.out.drewN nq)⟩
          case rest =>
          obtain ⟨i3, rfl, hi1', hi2', hiu', RK1⟩ := hcut
          replace hiu' := Lib.hid hiu'
          clear RK
          go_upto_block 8 with fail
          go_cut [11] (fun vj wx => ∃ j2 : Nat, vj = .int .i64 j2 ∧ j2 ≤ M ∧ a ≤ j2 ∧ j2 = scanDown (fun x => !ltInt x dm[a]!) dm i3 (M) ∧ Hid (Rw w g N e dm wx))
          case first =>
            go_wp2
            go_loopw [11] (fun vj ws => ∃ j : Nat, vj = .int .i64 j ∧ j ≤ M ∧ a ≤ j ∧ Hid (Rw w g N e dm ws) ∧ Hid (scanDown (fun x => !ltInt x dm[a]!) dm i3 j = scanDown (fun x => !ltInt x dm[a]!) dm i3 (M))) (fun vj _ => (intOf vj).toNat)
            case atStart => exact ⟨M, rfl, Nat.le_refl _, by omega, RK1, Lib.hid rfl⟩
            case round =>
              obtain ⟨j, rfl, hjJ, haj, RS, HS⟩ := hrel
              obtain ⟨G, hG, hcw, hfw⟩ := RS.out.fam hsk
              have GO : Hid (i3 ≤ j → 0 < j → ltInt (G j) (G a) = false → scanDown (fun x => !ltInt x dm[a]!) dm i3 (j - 1) = scanDown (fun x => !ltInt x dm[a]!) dm i3 (M)) := Lib.hid fun h1 h0 h2 => by
                rw [← HS.out, scanDown_go _ dm i3 j h1 h0 (by simp only [hG]; rw [h2]; rfl)]
              have ST : Hid ((¬ i3 ≤ j ∨ ltInt (G j) (G a) = true) → j = scanDown (fun x => !ltInt x dm[a]!) dm i3 (M)) := Lib.hid fun h => by
                rw [← HS.out, scanDown_end _ dm i3 j (h.imp id fun h2 => by simp only [hG]; rw [h2]; rfl)]
              replace hG := Lib.hid hG
              by_cases hij : i3 ≤ j
              · have c1 := hcw j (by omega)
                have c2 := hcw a (by omega)
                go_wp2
                first | go_quiet (first | (go_at_call 95; refine Calls.quiet_of_same (less_u _ _ _))) | fail
                go_wp2
                · have hl : ltInt (G j) (G a) = false := of_not_true (by assumption)
                  go_roundw
                  case rel => first | exact ⟨j - 1, by congr 1; omega, by omega, by omega, Lib.hid (RS.out.drewN nq), Lib.hid (GO.out hij (by omega) hl)⟩ | ((repeat apply Exists.intro); exact ⟨⟨j - 1, by congr 1; omega, by omega, by omega, Lib.hid (RS.out.drewN nq), Lib.hid (GO.out hij (by omega) hl)⟩, rfl⟩)
                  case measure => simp [intOf]; omega
                · have hl : ltInt (G j) (G a) = true := of_not_false (by assumption)
                  go_meet
                  exact ⟨j, rfl, hjJ, haj, ST.out (.inr hl), Lib.hid (RS.out.drewN nq)⟩
              · go_wp2
                first | go_quiet (first | (go_at_call 95; refine Calls.quiet_of_same (less_u _ _ _))) | fail
                go_wp2
                go_meet
                exact ⟨j, rfl, hjJ, haj, ST.out (.inl hij), Lib.hid (RS.out.drewN nq)⟩
          case rest =>
          obtain ⟨j3, rfl, hj1', hj2', hjd', RK2⟩ := hcut
          replace hjd' := Lib.hid hjd'
          clear RK1
          by_cases hgt' : j3 < i3
          · have F := HO.out
            rw [part_break ltInt a K M dm hiu'.out hjd'.out hgt'] at F
            have E2 := E.out
            rw [← F] at E2
            replace E2 := Lib.hid E2
            obtain ⟨G, hG, hcw, hfw⟩ := RK2.out.fam hsk
            have c1 := hcw j3 (by omega)
            have c2 := hcw a (by omega)
            have f1 := hfw j3 (by omega)
            have f2 := hfw a (by omega)
            obtain ⟨X, a1, a2⟩ := RK2.out.alias (i := j3) (j := a) (by omega) (by omega) (G a)
            have R4 := RK2.out.swap (i := j3) (j := a) (by omega) (by omega) 1
            rw [hG, hG] at R4
            replace R4 := Lib.hid R4
            clear hG hcw hfw
            go_upto_region 21 with fail
            first | go_region | fail
            all_goals (
              go_wp2
              go_ret2
              exact ⟨by rw [E2.out]; rfl, by rw [E2.out]; show (swp dm j3 a).size = n; rw [size_swp]; exact hsk, by rw [E2.out]; exact R4.out⟩)
          · have hne' := part_scans_lt ltInt a K M dm (by omega) hiu'.out hjd'.out (by omega)
            have F := HO.out
            rw [part_go ltInt a K M dm hiu'.out hjd'.out (by omega)] at F
            replace F := Lib.hid F
            obtain ⟨G, hG, hcw, hfw⟩ := RK2.out.fam hsk
            have c1 := hcw i3 (by omega)
            have c2 := hcw j3 (by omega)
            have f1 := hfw i3 (by omega)
            have f2 := hfw j3 (by omega)
            obtain ⟨X, a1, a2⟩ := RK2.out.alias (i := i3) (j := j3) (by omega) (by omega) (G j3)
            have R4 := RK2.out.swap (i := i3) (j := j3) (by omega) (by omega) 1
            rw [hG, hG] at R4
            replace R4 := Lib.hid R4
            clear hG hcw hfw
            go_upto_region 18 with fail
            first | go_region | fail
            all_goals (
              go_wp2
              go_roundw
              case rel => first | exact ⟨i3 + 1, j3 - 1, swp dm i3 j3, by go_num, by congr 1; omega, by omega, by omega, by omega, by omega, by rw [size_swp]; exact hsk, R4, F⟩ | ((repeat apply Exists.intro); exact ⟨⟨i3 + 1, j3 - 1, swp dm i3 j3, by go_num, by congr 1; omega, by omega, by omega, by omega, by omega, by rw [size_swp]; exact hsk, R4, F⟩, rfl⟩)
              case measure => simp [intOf]; omega)))
end Go.Proofs.Ytilknhackmccpaa
