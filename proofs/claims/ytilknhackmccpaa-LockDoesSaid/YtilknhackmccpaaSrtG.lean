/- Contracts of pdqsortOrdered and slices.Sort at uint32 (printed by srtg.py). -/
import Derived.Test.YtilknhackmccpaaSrtF
import Derived.Test.YtilknhackmccpaaShelf
import Derived.Sort.LotD3
import Derived.Sort.WalkA14
import Derived.Deep.LoopGhost
set_option linter.unusedVariables false
set_option linter.unusedSimpArgs false
namespace Go.Proofs.Ytilknhackmccpaa
open Go.RowKit Go.Sort

theorem part_eta (d : Array Int) (a b p : Nat) : partition ltInt d a b p = ((partition ltInt d a b p).1, (partition ltInt d a b p).2.1, (partition ltInt d a b p).2.2) := rfl
theorem partEq_eta (d : Array Int) (a b p : Nat) : partitionEqual ltInt d a b p = ((partitionEqual ltInt d a b p).1, (partitionEqual ltInt d a b p).2) := rfl

def PdqTill (M : Nat) : Prop := ∀ (g N n cap a b lim : Nat) (e : TypeId) (d : Array Int) (w : World), b - a < M → Row w g N e d → d.size = n → a ≤ b → b ≤ n → n < 1152921504606846976 → lim < 4611686018427387904 → Go.Sort.Below ltInt a b d →
    Calls Try.prog 78 #[.slice (some ⟨g, 0, none⟩) n cap, .int .i64 a, .int .i64 b, .int .i64 lim] w fun r w' =>
      r = .returned (.tuple #[]) ∧ ∃ d', PermIn a b d d' ∧ SortedIn ltInt a b d' ∧ Rw w g N e d' w'
set_option maxRecDepth 100000 in
set_option maxHeartbeats 16000000 in
theorem pdq_step (M : Nat) (IH0 : PdqTill M) : PdqTill (M + 1) := by
    intro g N n cap a b lim e d w hM H hn hab hb hsz hlim hBel
    have IH := Lib.hid IH0
    clear IH0
    have R0 := Lib.hid (Rw.refl H)
    have B0 := Lib.hid hBel
    have F0 : Hid (∀ R, PermIn a b d R → SortedIn ltInt a b R → PermIn a b d R ∧ SortedIn ltInt a b R) := Lib.hid fun _ h1 h2 => ⟨h1, h2⟩
    clear H hBel
    go_enter Try.func78, Try.ntmps78
    go_wp2
    go_loopg [1, 2, 3, 8, 9] (b - a) (fun gk va vb vl v8 v9 wr => ∃ (a1 b1 l1 : Nat) (wb wp : Bool) (dk : Array Int), va = .int .i64 a1 ∧ vb = .int .i64 b1 ∧ vl = .int .i64 l1 ∧ v8 = .bool wb ∧ v9 = .bool wp ∧ a ≤ a1 ∧ a1 ≤ b1 ∧ b1 ≤ b ∧ b1 - a1 ≤ gk ∧ l1 ≤ lim ∧ dk.size = n ∧
        Hid (Rw w g N e dk wr) ∧ Hid (Go.Sort.Below ltInt a1 b1 dk) ∧ Hid (∀ R, PermIn a1 b1 dk R → SortedIn ltInt a1 b1 R → PermIn a b d R ∧ SortedIn ltInt a b R))
    case atStart => exact ⟨a, b, lim, true, true, d, rfl, rfl, rfl, rfl, rfl, Nat.le_refl _, hab, Nat.le_refl _, Nat.le_refl _, Nat.le_refl _, hn, R0, B0, F0⟩
    case round =>
      clear R0 B0 F0
      obtain ⟨a1, b1, l1, wb, wp, dk, rfl, rfl, rfl, rfl, rfl, haa, hab1, hbb, hgk, hll, hsk, RK, BK, FK⟩ := hrel
      obtain ⟨l, hl⟩ : ∃ l, b1 - a1 = l := ⟨_, rfl⟩
      have hli : (b1 : Int) - (a1 : Int) = (l : Int) := by omega
      by_cases h12 : l ≤ 12
      · have h12i : (l : Int) ≤ 12 := by omega
        have hI := ins_u g N n cap a1 b1 e dk wr RK.out.row hsk hab1 (by omega) (by omega)
        have hS := insertionSort_holds swo_ltInt dk a1 b1 hab1 (by omega)
        replace hS := Lib.hid hS
        go_wp2_with (go_at_call 89; refine hI.mono ?_; rintro r w2 ⟨rfl, hs2, R2⟩)
        have F := FK.out _ hS.out.1 hS.out.2
        exact bodyPost_ret (v := .tuple #[]) (by simp [results, Try.results78, go_sem]) rfl ⟨rfl, _, F.1, F.2, RK.out.then R2⟩
      · have h12i : ¬ (l : Int) ≤ 12 := by omega
        by_cases h0 : l1 = 0
        · have h0i : ((l1 : Int) == 0) = true := by rw [h0]; rfl
          have hI := heap_u g N n cap a1 b1 e dk wr RK.out.row hsk hab1 (by omega) (by omega)
          have hS := heapSort_holds swo_ltInt dk a1 b1 hab1 (by omega)
          replace hS := Lib.hid hS
          go_wp2_with (go_at_call 90; refine hI.mono ?_; rintro r w2 ⟨rfl, hs2, R2⟩)
          have F := FK.out _ hS.out.1 hS.out.2
          exact bodyPost_ret (v := .tuple #[]) (by simp [results, Try.results78, go_sem]) rfl ⟨rfl, _, F.1, F.2, RK.out.then R2⟩
        · have h0i : ((l1 : Int) == 0) = false := by simp; omega
          obtain ⟨lm, hlm⟩ : ∃ lm, lm + 1 = l1 := ⟨l1 - 1, by omega⟩
          have hl1 : (l1 : Int) - 1 = (lm : Int) := by omega
          go_upto_if 35 with fail
          go_cut [3] (fun vl wx => ∃ (l2 : Nat) (d1 : Array Int), vl = .int .i64 l2 ∧ l2 ≤ lim ∧ Hid (PermIn a1 b1 dk d1) ∧ Hid (Rw w g N e d1 wx))
          case first =>
            replace hlm := Lib.hid hlm
            have hB := break_u g N n cap a1 b1 e dk wr RK.out.row hsk (by omega) (by omega) (by omega)
            have hp0 := Lib.hid (permIn_refl dk a1 b1)
            go_wp2_with (go_at_call 91; refine hB.mono ?_; rintro r w2 ⟨rfl, d1, P1, R2⟩)
            · go_meet
              exact ⟨lm, d1, rfl, by have := hlm.out; omega, Lib.hid P1, Lib.hid (RK.out.then R2)⟩
            · go_meet
              exact ⟨l1, dk, rfl, hll, hp0, RK⟩
          case rest =>
          obtain ⟨l2, d1, rfl, hl2, P1, R1⟩ := hcut
          have hs1 : d1.size = n := P1.out.1.trans hsk
          have B1 := Lib.hid (BK.out.perm (by omega) P1.out)
          have hP := pivot_u g N n cap a1 b1 e d1 wc R1.out.row hs1 (by omega) (by omega) (by omega)
          clear RK BK hl1 h0i
          go_upto_region 11 with (go_at_call 92; refine hP.mono ?_; rintro r w2 ⟨p, h, rfl, hp1, hp2, hh, Bp⟩)
          have R2 : Rw w g N e d1 w2 := ⟨R1.out.row.keep (Bp.block g R1.out.lt), R1.out.grown.trans ⟨Bp.os, Bp.tape, Bp.output, Bp.size, fun i hi _ => Bp.block i hi⟩⟩
          replace R2 := Lib.hid R2
          clear hP R1 Bp
          obtain ⟨pr, hpr⟩ : ∃ pr, b1 - 1 - (p - a1) = pr := ⟨_, rfl⟩
          have hpv : (b1 : Int) - 1 - ((p : Int) - (a1 : Int)) = (pr : Int) := by omega
          go_upto_if 50 with fail
          go_cut [11, 12] (fun vp vh wx => ∃ (p2 : Nat) (h2 : Int) (d2 : Array Int), vp = .int .i64 p2 ∧ vh = .int .i64 h2 ∧ a1 ≤ p2 ∧ p2 < b1 ∧ (h2 = 0 ∨ h2 = 1 ∨ h2 = 2) ∧ Hid (PermIn a1 b1 d1 d2) ∧ Hid (Rw w g N e d2 wx))
          case first =>
            rcases hh with rfl | rfl | rfl
            · go_wp2
              go_meet
              exact ⟨p, 0, d1, rfl, rfl, hp1, hp2, by decide, Lib.hid (permIn_refl _ _ _), R2⟩
            · go_wp2
              go_meet
              exact ⟨p, 1, d1, rfl, rfl, hp1, hp2, by decide, Lib.hid (permIn_refl _ _ _), R2⟩
            · have hR := rev_u g N n cap a1 b1 e d1 w2 R2.out.row hs1 (by omega) (by omega) (by omega)
              go_wp2_with (go_at_call 93; refine hR.mono ?_; rintro r w3 ⟨rfl, hs3, R3⟩)
              go_meet
              exact ⟨pr, 1, _, rfl, rfl, by omega, by omega, by decide, Lib.hid (reverseRange_holds d1 a1 b1 hab1 (by omega)), Lib.hid (R2.out.then R3)⟩
          case rest =>
          clear R2 hh hpv
          obtain ⟨p2, h2, d2, rfl, rfl, hq1, hq2, hh2, P2, R2⟩ := hcut
          have hs2 : d2.size = n := P2.out.1.trans hs1
          have B2 := Lib.hid (B1.out.perm (by omega) P2.out)
          have P12 := Lib.hid (permIn_trans _ _ _ a1 b1 P1.out P2.out)
          clear P1 P2 B1 hs1
          go_upto_region 15 with fail
          go_cut [12, 68] (fun vh v68 wx => (∃ h3 : Int, vh = .int .i64 h3) ∧ (∃ b68 : Bool, v68 = .bool b68) ∧ wx = wc)
          case first =>
            clear P12 FK B2 R2 IH
            cases wb <;> cases wp <;> rcases hh2 with rfl | rfl | rfl <;> (go_wp2_with fail; go_meet; exact ⟨⟨_, rfl⟩, ⟨_, rfl⟩, rfl⟩)
          case rest =>
          clear hh2
          obtain ⟨⟨h3, rfl⟩, ⟨b68, rfl⟩, rfl⟩ := hcut
          go_upto_if 68 with fail
          go_cut [] (fun wx => ∃ d3 : Array Int, Hid (PermIn a1 b1 d2 d3) ∧ Hid (Rw w g N e d3 wx))
          case first =>
            cases b68
            · go_wp2
              go_meet
              exact ⟨d2, Lib.hid (permIn_refl _ _ _), R2⟩
            have hI := pins_u g N n cap a1 b1 e d2 wc R2.out.row hs2 (by omega) (by omega) (by omega)
            have hS := Lib.hid (partialInsertionSort_holds swo_ltInt d2 a1 b1 (by omega) (by omega) B2.out)
            by_cases hX : (partialInsertionSort ltInt d2 a1 b1).2 = true
            · rw [hX] at hI
              go_wp2_with (go_at_call 94; refine hI.mono ?_; rintro r w3 ⟨rfl, hs3, R3⟩)
              have F := FK.out _ (permIn_trans _ _ _ a1 b1 P12.out hS.out.1) (hS.out.2 hX)
              exact bodyPost_ret (v := .tuple #[]) (by simp [results, Try.results78, go_sem]) rfl ⟨rfl, _, F.1, F.2, R2.out.then R3⟩
            · have hXf : (partialInsertionSort ltInt d2 a1 b1).2 = false := by simpa using hX
              rw [hXf] at hI
              go_wp2_with (go_at_call 94; refine hI.mono ?_; rintro r w3 ⟨rfl, hs3, R3⟩)
              go_meet
              exact ⟨_, Lib.hid hS.out.1, Lib.hid (R2.out.then R3)⟩
          case rest =>
          obtain ⟨d3, P3, R3⟩ := hcut
          have hs3 : d3.size = n := P3.out.1.trans hs2
          have B3 := Lib.hid (B2.out.perm (by omega) P3.out)
          have P123 := Lib.hid (permIn_trans _ _ _ a1 b1 P12.out P3.out)
          clear P12 P3 B2 R2 hs2
          obtain ⟨G, hG, hcw, hfw⟩ := R3.out.fam hs3
          replace hG := Lib.hid hG
          go_upto_region 17 with fail
          go_cut [87] (fun vc wx => ∃ bb : Bool, vc = .bool bb ∧ (bb = true → 0 < a1 ∧ ltInt d3[a1 - 1]! d3[p2]! = false) ∧ Hid (Rw w g N e d3 wx))
          case first =>
            by_cases ha0 : 0 < a1
            · have c1 := hcw (a1 - 1) (by omega)
              have c2 := hcw p2 (by omega)
              first | go_quiet (first | (go_at_call 95; refine Calls.quiet_of_same (less_u _ _ _))) | fail
              go_wp2
              go_meet
              exact ⟨_, rfl, fun h => ⟨ha0, by rw [hG.out, hG.out]; exact of_not_true h⟩, Lib.hid (R3.out.drewN nq)⟩
            · first | go_quiet (first | (go_at_call 95; refine Calls.quiet_of_same (less_u _ _ _))) | fail
              go_wp2
              go_meet
              exact ⟨_, rfl, fun h => (by cases h), Lib.hid (R3.out.drewN nq)⟩
          case rest =>
          clear hG hcw hfw R3 G
          obtain ⟨bb, rfl, hbt, R3⟩ := hcut
          rcases Bool.eq_false_or_eq_true bb with rfl | rfl
          · obtain ⟨ha0, hnl⟩ := hbt rfl
            obtain ⟨r1, r2, r3, r4, r5⟩ := round_eq swo_ltInt (partitionEqual_holds ltInt) ha0 hq1 hq2 (by omega) B3.out hnl (partEq_eta d3 a1 b1 p2)
            have hE := partEq_u g N n cap a1 b1 p2 e d3 wc R3.out.row hs3 hq1 hq2 (by omega) (by omega)
            obtain ⟨mid, hmid⟩ : ∃ m, (partitionEqual ltInt d3 a1 b1 p2).1 = m := ⟨_, rfl⟩
            obtain ⟨d4, hd4⟩ : ∃ d4, (partitionEqual ltInt d3 a1 b1 p2).2 = d4 := ⟨_, rfl⟩
            rw [hmid] at r1 r2 r4 r5 hE
            rw [hd4] at r3 r4 r5 hE
            clear hmid hd4 hnl hbt
            have F4 := Lib.hid (fun R h1 h2 => FK.out R (permIn_trans _ _ _ a1 b1 P123.out (r5 R h1 h2).1) (r5 R h1 h2).2)
            replace r4 := Lib.hid r4
            clear r5
            go_wp2_with (go_at_call 96; refine hE.mono ?_; rintro r w4 ⟨rfl, hs4, R4⟩)
            go_roundg (b1 - mid)
            case measure => omega
            case rel => exact ⟨mid, b1, l2, wb, wp, d4, rfl, rfl, rfl, rfl, rfl, by omega, r2, hbb, Nat.le_refl _, hl2, hs4, Lib.hid (R3.out.then R4), r4, F4⟩
          · obtain ⟨r1, r2, r3, r4, r5, r6, r7⟩ := round_part swo_ltInt (partition_holds ltInt) hq1 hq2 (by omega) B3.out (part_eta d3 a1 b1 p2)
            have hE := part_u g N n cap a1 b1 p2 e d3 wc R3.out.row hs3 hq1 hq2 (by omega) (by omega)
            obtain ⟨mid, hmid⟩ : ∃ m, (partition ltInt d3 a1 b1 p2).1 = m := ⟨_, rfl⟩
            obtain ⟨ap, hap⟩ : ∃ m, (partition ltInt d3 a1 b1 p2).2.1 = m := ⟨_, rfl⟩
            obtain ⟨d4, hd4⟩ : ∃ d4, (partition ltInt d3 a1 b1 p2).2.2 = d4 := ⟨_, rfl⟩
            rw [hmid] at r1 r2 r4 r5 r6 r7 hE
            rw [hap] at hE
            rw [hd4] at r3 r4 r5 r6 r7 hE
            clear hmid hd4 hap hbt
            obtain ⟨L, hL⟩ : ∃ L, mid - a1 = L := ⟨_, rfl⟩
            obtain ⟨Rr, hRr⟩ : ∃ Rr, b1 - mid = Rr := ⟨_, rfl⟩
            have hLi : (mid : Int) - (a1 : Int) = (L : Int) := by omega
            have hRi : (b1 : Int) - (mid : Int) = (Rr : Int) := by omega
            obtain ⟨q8, hq8⟩ : ∃ q, l / 8 = q := ⟨_, rfl⟩
            have hq8i : (l : Int).tdiv 8 = (q8 : Int) := by rw [Int.tdiv_eq_ediv_of_nonneg (by omega)]; omega
            have hm1 : ((mid + 1 : Nat) : Int) = (mid : Int) + 1 := by omega
            replace r4 := Lib.hid r4
            replace r5 := Lib.hid r5
            replace r6 := Lib.hid r6
            replace r7 := Lib.hid r7
            by_cases hlr : L < Rr
            · have hlri : (L : Int) < (Rr : Int) := by omega
              clear hm1
              go_upto_region 26 with (go_at_call 97; refine hE.mono ?_; rintro r w4 ⟨rfl, hs4, R4⟩)
              have hR := IH.out g N n cap a1 mid l2 e d4 w4 (by omega) R4.row hs4 r1 (by omega) hsz (by omega) r4.out
              go_wp2_with (go_at_call 78; refine hR.mono ?_; rintro r w5 ⟨rfl, d5, P5, S5, R5⟩)
              obtain ⟨B6, F6⟩ := r6.out d5 P5 S5
              go_roundg (b1 - (mid + 1))
              case measure => omega
              case rel => exact ⟨mid + 1, b1, l2, _, ap, d5, by go_num, rfl, rfl, rfl, rfl, by omega, by omega, hbb, Nat.le_refl _, hl2, P5.1.trans hs4, Lib.hid ((R3.out.then R4).then R5), Lib.hid B6,
                Lib.hid fun R h1 h2 => FK.out R (permIn_trans _ _ _ a1 b1 P123.out (F6 R h1 h2).1) (F6 R h1 h2).2⟩
            · have hlri : ¬ (L : Int) < (Rr : Int) := by omega
              go_upto_region 29 with (go_at_call 97; refine hE.mono ?_; rintro r w4 ⟨rfl, hs4, R4⟩)
              have hR := IH.out g N n cap (mid + 1) b1 l2 e d4 w4 (by omega) R4.row hs4 (by omega) (by omega) hsz (by omega) r5.out
              rw [hm1] at hR
              clear hm1
              go_wp2_with (go_at_call 78; refine hR.mono ?_; rintro r w5 ⟨rfl, d5, P5, S5, R5⟩)
              obtain ⟨B6, F6⟩ := r7.out d5 P5 S5
              go_roundg (mid - a1)
              case measure => omega
              case rel => exact ⟨a1, mid, l2, _, ap, d5, rfl, rfl, rfl, rfl, rfl, haa, r1, by omega, Nat.le_refl _, hl2, P5.1.trans hs4, Lib.hid ((R3.out.then R4).then R5), Lib.hid B6,
                Lib.hid fun R h1 h2 => FK.out R (permIn_trans _ _ _ a1 b1 P123.out (F6 R h1 h2).1) (F6 R h1 h2).2⟩
theorem pdq_u : ∀ M, PdqTill M
  | 0 => fun _ _ _ _ _ _ _ _ _ _ h => absurd h (Nat.not_lt_zero _)
  | M + 1 => pdq_step M (pdq_u M)
end Go.Proofs.Ytilknhackmccpaa
