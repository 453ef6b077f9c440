/- Contracts of reverseRangeOrdered, siftDownOrdered, heapSortOrdered at uint32. -/
import Derived.Test.YtilknhackmccpaaSrtA
import Derived.Sort.WalkB2
import Derived.Sort.WalkB3
import Derived.Deep.DeepCutAuto
set_option linter.unusedVariables false
set_option linter.unusedSimpArgs false
namespace Go.Proofs.Ytilknhackmccpaa
open Go.RowKit Go.Sort

set_option maxRecDepth 100000 in
set_option maxHeartbeats 1000000 in
theorem rev_u (g N n cap a b : Nat) (e : TypeId) (d : Array Int) (w : World) (H : Row w g N e d) (hn : d.size = n) (hab : a < b) (hb : b ≤ n) (hsz : n < 4611686018427387904) :
    Calls Try.prog 93 #[.slice (some ⟨g, 0, none⟩) n cap, .int .i64 a, .int .i64 b] w fun r w' =>
      r = .returned (.tuple #[]) ∧ (reverseRange d a b).size = n ∧ Rw w g N e (reverseRange d a b) w' := by
  have R0 := Lib.hid (Rw.refl H)
  clear H
  go_enter Try.func93, Try.ntmps93
  go_wp2
  go_loopw [6, 7] (fun vi vj wr => ∃ (i j : Nat) (dk : Array Int), vi = .int .i64 i ∧ vj = .int .i64 j ∧ j < b ∧ i ≤ b ∧ dk.size = n ∧ Hid (Rw w g N e dk wr) ∧ Hid (reverseLoop i j dk = reverseRange d a b)) (fun _ vj _ => (intOf vj).toNat)
  case atStart => exact ⟨a, b - 1, d, rfl, by congr 1; omega, by omega, by omega, hn, R0, Lib.hid rfl⟩
  case round =>
    clear R0
    obtain ⟨i, j, dk, rfl, rfl, hjb, hib, hsk, RK, HO⟩ := hrel
    obtain ⟨G, hG, hcw, hfw⟩ := RK.out.fam hsk
    replace hG := Lib.hid hG
    by_cases hij : i < j
    · have c1 := hcw i (by omega)
      have c2 := hcw j (by omega)
      have f1 := hfw i (by omega)
      have f2 := hfw j (by omega)
      have E := HO.out
      rw [reverseLoop, if_pos hij] at E
      replace E := Lib.hid E
      go_upto_region 3 with fail
      go_region
      all_goals go_wp2
      go_roundw
      case rel => exact ⟨i + 1, j - 1, swp dk i j, by go_num, by congr 1; omega, by omega, by omega, by rw [size_swp]; exact hsk, by have := RK.out.swap (i := i) (j := j) (by omega) (by omega) 1; rw [hG.out, hG.out] at this; exact Lib.hid this, E⟩
      case measure => simp [intOf]; omega
    · have E := HO.out
      rw [reverseLoop, if_neg hij] at E
      go_wp2
      go_end0
      exact ⟨rfl, by rw [← E]; exact hsk, by rw [← E]; exact RK.out⟩

theorem sd_facts {hi F root c : Nat} {dk : Array Int} {G : Nat → Int} (hG : ∀ t, dk[t]! = G t) (hc : 2 * root + 1 = c) (h0 : c < hi) :
    (c + 1 < hi → ltInt (G (F + c)) (G (F + c + 1)) = true → (ltInt (G (F + root)) (G (F + c + 1)) = false → siftDown ltInt hi F root dk = dk) ∧
      (ltInt (G (F + root)) (G (F + c + 1)) = true → siftDown ltInt hi F root dk = siftDown ltInt hi F (c + 1) (swp dk (F + root) (F + c + 1)))) ∧
    ((c + 1 < hi → ltInt (G (F + c)) (G (F + c + 1)) = false) → (ltInt (G (F + root)) (G (F + c)) = false → siftDown ltInt hi F root dk = dk) ∧
      (ltInt (G (F + root)) (G (F + c)) = true → siftDown ltInt hi F root dk = siftDown ltInt hi F c (swp dk (F + root) (F + c)))) := by
  subst hc
  simp only [← hG]
  refine ⟨fun h1 h2 => ⟨fun h3 => sd_right_stop ltInt dk h1 h2 h3, fun h3 => sd_right_go ltInt dk h1 h2 h3⟩, fun h1 => ⟨fun h3 => sd_left_stop ltInt dk h0 h1 h3, fun h3 => sd_left_go ltInt dk h0 h1 h3⟩⟩

set_option maxRecDepth 100000 in
set_option maxHeartbeats 4000000 in
theorem sift_u (g N n cap lo hi F : Nat) (e : TypeId) (d : Array Int) (w : World) (H : Row w g N e d) (hn : d.size = n) (hF : F + hi ≤ n) (hlo : lo ≤ hi) (hsz : n < 2305843009213693952) :
    Calls Try.prog 111 #[.slice (some ⟨g, 0, none⟩) n cap, .int .i64 lo, .int .i64 hi, .int .i64 F] w fun r w' =>
      r = .returned (.tuple #[]) ∧ (siftDown ltInt hi F lo d).size = n ∧ Rw w g N e (siftDown ltInt hi F lo d) w' := by
  have R0 := Lib.hid (Rw.refl H)
  clear H
  go_enter Try.func111, Try.ntmps111
  go_wp2
  go_loopw [8] (fun vi wr => ∃ (root : Nat) (dk : Array Int), vi = .int .i64 root ∧ root ≤ hi ∧ dk.size = n ∧ Hid (Rw w g N e dk wr) ∧ Hid (siftDown ltInt hi F root dk = siftDown ltInt hi F lo d)) (fun vi _ => hi - (intOf vi).toNat)
  case atStart => exact ⟨lo, d, rfl, hlo, hn, R0, Lib.hid rfl⟩
  case round =>
    clear R0
    obtain ⟨root, dk, rfl, hr, hsk, RK, HO⟩ := hrel
    obtain ⟨G, hG, hcw, hfw⟩ := RK.out.fam hsk
    obtain ⟨c, hc⟩ : ∃ c, 2 * root + 1 = c := ⟨_, rfl⟩
    have hci : (2 * (root : Int) + 1) = (c : Int) := by omega
    have SF := Lib.hid (fun h0 => sd_facts (hi := hi) (F := F) hG hc h0)
    replace hG := Lib.hid hG
    by_cases h0 : c < hi
    · obtain ⟨SR, SL⟩ := SF.out h0
      clear SF
      have SR' := SR
      have SL' := SL
      replace SR := Lib.hid SR
      replace SL := Lib.hid SL
      have cr := hcw (F + root) (by omega)
      have cc := hcw (F + c) (by omega)
      have fr := hfw (F + root) (by omega)
      have fc := hfw (F + c) (by omega)
      by_cases h1 : c + 1 < hi
      · have h1i : (c : Int) + 1 < (hi : Int) := by omega
        obtain ⟨m, hm⟩ : ∃ m, c + 1 = m := ⟨_, rfl⟩
        have hmi : (c : Int) + 1 = (m : Int) := by omega
        have hmj : (m : Int) < (hi : Int) := by omega
        have cd := hcw (F + m) (by omega)
        have fd := hfw (F + m) (by omega)
        have cd2 : wr.cell? ⟨g, F + c + 1, none⟩ = some (.int .u32 (G (F + m))) := by rw [← cd, ← hm]; rfl
        have hFm : F + c + 1 = F + m := by omega
        rw [hm, hFm] at SR'
        rw [hm, hFm] at SL'
        replace SR := Lib.hid SR'
        replace SL := Lib.hid SL'
        replace hm := Lib.hid hm
        replace hFm := Lib.hid hFm
        clear SR' SL'
        go_upto_region 3 with fail
        first | go_quiet (first | (go_at_call 95; refine Calls.quiet_of_same (less_u _ _ _))) | fail
        go_wp2
        · have hd : ltInt (G (F + c)) (G (F + m)) = true := by assumption
          obtain ⟨SS, SG⟩ := SR.out (by have := hm.out; omega) hd
          replace SS := Lib.hid SS
          replace SG := Lib.hid SG
          obtain ⟨w1, hw1⟩ : ∃ w1, w1 = wr.drewN nq := ⟨_, rfl⟩
          have R1 := RK.out.drewN nq
          rw [← hw1] at R1 ⊢
          clear hw1 cr cc fr fc
          have cr := R1.at hG.out (i := F + root) (by omega)
          have cm := R1.at hG.out (i := F + m) (by omega)
          have fr := R1.row.froz (F + root)
          have fm := R1.row.froz (F + m)
          replace R1 := Lib.hid R1
          first | go_quiet (first | (go_at_call 95; refine Calls.quiet_of_same (less_u _ _ _))) | fail
          go_wp2
          · have hl : ltInt (G (F + root)) (G (F + m)) = false := of_not_true (by assumption)
            have E := HO.out
            rw [SS.out hl] at E
            exact bodyPost_ret (v := .tuple #[]) (by simp [results, Try.results111, go_sem]) rfl ⟨rfl, by rw [← E]; exact hsk, by rw [← E]; exact R1.out.drewN _⟩
          · have hl : ltInt (G (F + root)) (G (F + m)) = true := of_not_false (by assumption)
            have E := HO.out
            rw [SG.out hl] at E
            replace E := Lib.hid E
            first | go_region | fail
            all_goals go_wp2
            go_roundw
            case rel => exact ⟨m, swp dk (F + root) (F + m), by go_num, by omega, by rw [size_swp]; exact hsk, by have := R1.out.swap (i := F + root) (j := F + m) (by omega) (by omega) (nq + 1); rw [hG.out, hG.out] at this; exact Lib.hid this, E⟩
            case measure => simp [intOf]; omega
        · have hd : ltInt (G (F + c)) (G (F + m)) = false := by assumption
          obtain ⟨SS, SG⟩ := SL.out fun _ => hd
          replace SS := Lib.hid SS
          replace SG := Lib.hid SG
          obtain ⟨w1, hw1⟩ : ∃ w1, w1 = wr.drewN nq := ⟨_, rfl⟩
          have R1 := RK.out.drewN nq
          rw [← hw1] at R1 ⊢
          clear hw1 cr cc fr fc
          have cr := R1.at hG.out (i := F + root) (by omega)
          have cm := R1.at hG.out (i := F + c) (by omega)
          have fr := R1.row.froz (F + root)
          have fm := R1.row.froz (F + c)
          replace R1 := Lib.hid R1
          first | go_quiet (first | (go_at_call 95; refine Calls.quiet_of_same (less_u _ _ _))) | fail
          go_wp2
          · have hl : ltInt (G (F + root)) (G (F + c)) = false := of_not_true (by assumption)
            have E := HO.out
            rw [SS.out hl] at E
            exact bodyPost_ret (v := .tuple #[]) (by simp [results, Try.results111, go_sem]) rfl ⟨rfl, by rw [← E]; exact hsk, by rw [← E]; exact R1.out.drewN _⟩
          · have hl : ltInt (G (F + root)) (G (F + c)) = true := of_not_false (by assumption)
            have E := HO.out
            rw [SG.out hl] at E
            replace E := Lib.hid E
            first | go_region | fail
            all_goals go_wp2
            go_roundw
            case rel => exact ⟨c, swp dk (F + root) (F + c), by go_num, by omega, by rw [size_swp]; exact hsk, by have := R1.out.swap (i := F + root) (j := F + c) (by omega) (by omega) (nq + 1); rw [hG.out, hG.out] at this; exact Lib.hid this, E⟩
            case measure => simp [intOf]; omega
      · have h1i : ¬ (c : Int) + 1 < (hi : Int) := by omega
        clear SR' SL'
        obtain ⟨SS, SG⟩ := SL.out fun h => absurd h h1
        replace SS := Lib.hid SS
        replace SG := Lib.hid SG
        go_upto_region 3 with fail
        first | go_quiet (first | (go_at_call 95; refine Calls.quiet_of_same (less_u _ _ _))) | fail
        go_wp2
        obtain ⟨w1, hw1⟩ : ∃ w1, w1 = wr.drewN nq := ⟨_, rfl⟩
        have R1 := RK.out.drewN nq
        rw [← hw1] at R1 ⊢
        clear hw1 cr cc fr fc
        have cr := R1.at hG.out (i := F + root) (by omega)
        have cm := R1.at hG.out (i := F + c) (by omega)
        have fr := R1.row.froz (F + root)
        have fm := R1.row.froz (F + c)
        replace R1 := Lib.hid R1
        first | go_quiet (first | (go_at_call 95; refine Calls.quiet_of_same (less_u _ _ _))) | fail
        go_wp2
        · have hl : ltInt (G (F + root)) (G (F + c)) = false := of_not_true (by assumption)
          have E := HO.out
          rw [SS.out hl] at E
          exact bodyPost_ret (v := .tuple #[]) (by simp [results, Try.results111, go_sem]) rfl ⟨rfl, by rw [← E]; exact hsk, by rw [← E]; exact R1.out.drewN _⟩
        · have hl : ltInt (G (F + root)) (G (F + c)) = true := of_not_false (by assumption)
          have E := HO.out
          rw [SG.out hl] at E
          replace E := Lib.hid E
          first | go_region | fail
          all_goals go_wp2
          go_roundw
          case rel => exact ⟨c, swp dk (F + root) (F + c), by go_num, by omega, by rw [size_swp]; exact hsk, by have := R1.out.swap (i := F + root) (j := F + c) (by omega) (by omega) (nq + 1); rw [hG.out, hG.out] at this; exact Lib.hid this, E⟩
          case measure => simp [intOf]; omega
    · have E := HO.out
      rw [sd_end ltInt dk (by omega)] at E
      go_wp2
      go_end0
      exact ⟨rfl, by rw [← E]; exact hsk, by rw [← E]; exact RK.out⟩

set_option maxRecDepth 100000 in
set_option maxHeartbeats 4000000 in
theorem heap_u (g N n cap a b : Nat) (e : TypeId) (d : Array Int) (w : World) (H : Row w g N e d) (hn : d.size = n) (hab : a ≤ b) (hb : b ≤ n) (hsz : n < 2305843009213693952) :
    Calls Try.prog 90 #[.slice (some ⟨g, 0, none⟩) n cap, .int .i64 a, .int .i64 b] w fun r w' =>
      r = .returned (.tuple #[]) ∧ (heapSort ltInt d a b).size = n ∧ Rw w g N e (heapSort ltInt d a b) w' := by
  have R0 := Lib.hid (Rw.refl H)
  clear H
  obtain ⟨h, hh⟩ : ∃ h, b - a = h := ⟨_, rfl⟩
  have hhi : (b : Int) - (a : Int) = (h : Int) := by omega
  have hhalf : ((h : Int) - 1).tdiv 2 = (((h - 1) / 2 + 1 : Nat) : Int) - 1 := by
    have := half_start hab
    rw [hhi, hh] at this
    exact this
  have hq : ((h - 1) / 2 + 1 : Nat) ≤ h + 1 := by omega
  have HS : Hid (heapPop ltInt a h (heapBuild ltInt h a ((h - 1) / 2 + 1) d) = heapSort ltInt d a b) := Lib.hid (by rw [← hh]; rfl)
  obtain ⟨K, hK⟩ : ∃ K, (h - 1) / 2 + 1 = K := ⟨_, rfl⟩
  rw [hK] at hhalf hq HS
  clear hK
  go_enter Try.func90, Try.ntmps90
  go_wp2
  go_loopw [9] (fun vi wr => ∃ (k : Nat) (dk : Array Int), vi = .int .i64 ((k : Int) - 1) ∧ k ≤ K ∧ dk.size = n ∧ Hid (Rw w g N e dk wr) ∧ Hid (heapPop ltInt a h (heapBuild ltInt h a k dk) = heapSort ltInt d a b)) (fun vi _ => (intOf vi + 1).toNat)
  case atStart => exact ⟨K, d, rfl, Nat.le_refl _, hn, R0, HS⟩
  case round =>
    clear R0 HS
    obtain ⟨k, dk, rfl, hkK, hsk, RK, HO⟩ := hrel
    cases k with
    | zero =>
      replace HO : Hid (heapPop ltInt a h dk = heapSort ltInt d a b) := HO
      go_wp2
      go_loopw [10] (fun vi wr => ∃ (k : Nat) (dk : Array Int), vi = .int .i64 ((k : Int) - 1) ∧ k ≤ h ∧ dk.size = n ∧ Hid (Rw w g N e dk wr) ∧ Hid (heapPop ltInt a k dk = heapSort ltInt d a b)) (fun vi _ => (intOf vi + 1).toNat)
      case atStart => exact ⟨h, dk, rfl, Nat.le_refl _, hsk, RK, HO⟩
      case round =>
        clear RK HO hsk dk
        obtain ⟨k, dk, rfl, hkh, hsk, RK, HO⟩ := hrel
        cases k with
        | zero =>
          have E : dk = heapSort ltInt d a b := HO.out
          go_wp2
          go_end0
          exact ⟨rfl, by rw [← E]; exact hsk, by rw [← E]; exact RK.out⟩
        | succ k =>
          obtain ⟨G, hG, hcw, hfw⟩ := RK.out.fam hsk
          replace hG := Lib.hid hG
          have hki : ((k + 1 : Nat) : Int) - 1 = (k : Int) := by omega
          rw [hki]
          have c1 := hcw a (by omega)
          have c2 := hcw (a + k) (by omega)
          have f1 := hfw a (by omega)
          have f2 := hfw (a + k) (by omega)
          obtain ⟨X, a1, a2⟩ := RK.out.alias (i := a) (j := a + k) (by omega) (by omega) (G (a + k))
          go_upto_region 10 with fail
          first | go_region | fail
          all_goals (
            have R1 := RK.out.swap (i := a) (j := a + k) (by omega) (by omega) 1
            rw [hG.out, hG.out] at R1
            obtain ⟨w1, hw1⟩ : ∃ w1, w1 = ((wr.setCell ⟨g, a, none⟩ (.int .u32 (G (a + k)))).setCell ⟨g, a + k, none⟩ (.int .u32 (G a))).drew := ⟨_, rfl⟩
            replace R1 : Rw w g N e (swp dk a (a + k)) w1 := by rw [hw1]; exact R1
            rw [← hw1]
            have hs1 : (swp dk a (a + k)).size = n := by rw [size_swp]; exact hsk
            have hS : Calls Try.prog 111 #[.slice (some ⟨g, 0, none⟩) n cap, .int .i64 0, .int .i64 k, .int .i64 a] w1 fun r w' =>
              r = .returned (.tuple #[]) ∧ (siftDown ltInt k a 0 (swp dk a (a + k))).size = n ∧ Rw w1 g N e (siftDown ltInt k a 0 (swp dk a (a + k))) w' := sift_u g N n cap 0 k a e _ w1 R1.row hs1 (by omega) (by omega) hsz
            replace R1 := Lib.hid R1
            clear hw1
            go_wp2_with (go_at_call 111; refine hS.mono ?_; rintro e w2 ⟨rfl, hs2, R2⟩)
            go_roundw
            case rel => first | exact ⟨k, _, rfl, by omega, hs2, Lib.hid (R1.out.then R2), HO⟩ | ((repeat apply Exists.intro); exact ⟨⟨k, _, rfl, by omega, hs2, Lib.hid (R1.out.then R2), HO⟩, rfl⟩)
            case measure => simp [intOf])
    | succ k =>
      have hki : ((k + 1 : Nat) : Int) - 1 = (k : Int) := by omega
      rw [hki]
      have hS := sift_u g N n cap k h a e dk wr RK.out.row hsk (by omega) (by omega) hsz
      go_wp2_with (go_at_call 111; refine hS.mono ?_; rintro e w2 ⟨rfl, hs2, R2⟩)
      go_roundw
      case rel => exact ⟨k, _, rfl, by omega, hs2, Lib.hid (RK.out.then R2), HO⟩
      case measure => simp [intOf]
end Go.Proofs.Ytilknhackmccpaa
