/- Package lock: LockModes, its walk. -/
import Derived.Test.YtilknhackmccpaaLckZb
set_option linter.unusedVariables false
set_option linter.unusedSimpArgs false
namespace Go.Proofs.Ytilknhackmccpaa
open Go.RowKit Go.Sort Go.Lib Go.Maps

/-- No two that hold a key are apart. -/
theorem holds_apart {T : Tb} (I : Inv T) {x y : Int} {k : Ky} {hm : Int} (hxy : x ≠ y) (h1 : modeL (T.F k).1 x = hm) (h1' : hm ≠ 0) (h2 : modeL (T.F k).1 y ≠ 0) : modeL (T.F k).1 y ≠ 2 ∧ hm ≠ 2 := by
  have hx := modeL_in (by rw [h1]; exact h1' : modeL (T.F k).1 x ≠ 0)
  have hy := modeL_in h2
  have := (I.lk k).h.comp _ hy _ hx
  rw [h1] at this
  constructor
  · intro e
    simp [apartB, Ne.symm hxy, e] at this
  · intro e
    simp [apartB, Ne.symm hxy, e] at this
theorem holdsL_at {T : Tb} {t : Int} {h : Ky × Int} (hm : h ∈ holdsL T t) : modeL (T.F h.1).1 t = h.2 ∧ h.2 ≠ 0 := by
  obtain ⟨k, _, e⟩ := List.mem_filterMap.1 hm
  split at e
  · cases e
  · rename_i hne
    cases e
    exact ⟨rfl, hne⟩
theorem canon_apart (zs : List Int) {i j : Nat} {x y : Int} (hi : (canon zs)[i]? = some x) (hj : (canon zs)[j]? = some y) (hij : i ≠ j) : x ≠ y := by
  obtain ⟨h1, e1⟩ := List.getElem?_eq_some_iff.1 hi
  obtain ⟨h2, e2⟩ := List.getElem?_eq_some_iff.1 hj
  have hr := List.pairwise_iff_getElem.1 (canon_rising zs)
  rintro rfl
  rcases Nat.lt_or_gt_of_ne hij with h | h
  · have := hr i j h1 h2 h
    rw [e1, e2] at this
    omega
  · have := hr j i h2 h1 h
    rw [e1, e2] at this
    omega

set_option maxRecDepth 100000 in
set_option maxHeartbeats 16000000 in
theorem modes_walk (W : World) (l : List Lop) (v : Value) (hv : LopsIn W v l) (o : Lop) (ho : LopOk o) :
    Calls Try.prog 9 #[v, .agg #[.int .u8 o.kind, .int .u32 o.txn, .int .u8 o.k.1, .int .u32 o.k.2.1, .int .u32 o.k.2.2, .int .u8 o.mode]] W fun e w' => e = .returned (.bool true) ∧ RowKit.Below W.heap.size W w' := by
  obtain ⟨okd, otx, ⟨k1, k2, k3⟩, omd⟩ := o
  have otxU := ho.txn
  have okk := ho.k
  simp only at otxU okk ⊢
  obtain ⟨a, cap, rfl, -⟩ := id hv
  obtain ⟨n, hn⟩ : ∃ n, l.length = n := ⟨_, rfl⟩
  obtain ⟨R, hR⟩ : ∃ R, W.heap.size = R := ⟨_, rfl⟩
  have Ba := below_alloc W (.cells #[.int .u8 okd, .int .u32 otx, .int .u8 k1, .int .u32 k2, .int .u32 k3, .int .u8 omd] 47)
  have nb := heap_alloc_new W (.cells #[.int .u8 okd, .int .u32 otx, .int .u8 k1, .int .u32 k2, .int .u32 k3, .int .u8 omd] 47)
  obtain ⟨wa, hwa⟩ : ∃ x, W.alloc (.cells #[.int .u8 okd, .int .u32 otx, .int .u8 k1, .int .u32 k2, .int .u32 k3, .int .u8 omd] 47) = x := ⟨_, rfl⟩
  have hsa : wa.heap.size = R + 1 := by rw [← hwa, ← hR]; simp
  rw [hwa, hR] at nb Ba
  rw [hR, hn]
  have hkn := known_l wa
  by_cases h40 : 40 < n
  · have h40i : (40 : Int) < (n : Int) := by omega
    replace Ba := Lib.hid Ba
    clear nb
    go_enter Try.func9, Try.ntmps9
    go_wp2_with (go_at_call 22; refine hkn.mono ?_; rintro e w2 ⟨rfl, b2⟩)
    go_ret
    exact ⟨rfl, Ba.out.trans (b2.mono (by omega))⟩
  · have h40i : ¬ (40 : Int) < (n : Int) := by omega
    have hv2 : ∀ w', RowKit.Below W.heap.size W w' → LopsIn w' (.slice a n cap) l := fun w' b => by
      rw [← hn]
      obtain ⟨a', c', e, h1, h2⟩ := hv
      cases e
      refine ⟨a, cap, rfl, h1, fun hne => ?_⟩
      obtain ⟨eb, off, e1, e2, e3⟩ := h2 hne
      exact ⟨eb, off, e1, Nat.lt_of_lt_of_le e2 b.size, fun i o hi j v hj => (b.cell (p := ⟨eb, off + i * 6 + j, none⟩) e2).trans (e3 i o hi j v hj)⟩
    have hVV := Lib.hid hv2
    replace Ba := Lib.hid Ba
    replace nb := Lib.hid nb
    have I := Lib.hid (inv_run l)
    clear hv hv2
    go_enter Try.func9, Try.ntmps9
    go_upto_region 3 with (go_at_call 22; refine hkn.mono ?_; rintro e w2 ⟨rfl, b2⟩)
    have B2 := Lib.hid (Ba.out.trans (b2.mono (by omega)))
    have nb2 := Lib.hid ((b2.block R (by omega)).trans nb.out)
    have hrun := run_u w2 l (.slice a n cap) (hVV.out w2 (by rw [hR]; exact B2.out)) (by omega)
    have l2 : R < w2.heap.size := (Array.getElem?_eq_some_iff.1 nb2.out).1
    clear b2 hkn hwa hsa nb Ba
    go_upto_region 6 with (go_at_call 27; refine hrun.mono ?_; rintro e w5 ⟨TB, b1, b2', f, vw, rfl, hb1, hb2, S5, Z5, R5, B5⟩)
    obtain ⟨who, hwho⟩ : ∃ x, canon (l.map Lop.txn) = x := ⟨_, rfl⟩
    obtain ⟨T, hT⟩ : ∃ x, runT l = x := ⟨_, rfl⟩
    rw [hT] at S5 Z5 I
    rw [hwho] at R5
    have hap : Hid (∀ (i j : Nat) x y, who[i]? = some x → who[j]? = some y → i ≠ j → x ≠ y) := Lib.hid fun i j x y h1 h2 h3 => canon_apart (l.map Lop.txn) (by rw [hwho]; exact h1) (by rw [hwho]; exact h2) h3
    have hwl : who.length ≤ 40 := by rw [← hwho]; exact Nat.le_trans (canon_length _) (by rw [List.length_map]; omega)
    obtain ⟨a6, c6, rfl, -⟩ := R5.nums
    obtain ⟨m, hm⟩ : ∃ m, who.length = m := ⟨_, rfl⟩
    rw [hm] at hwl R5 ⊢
    have B25 := Lib.hid (B2.out.trans (B5.mono (by omega)))
    have nb5 := Lib.hid ((B5.block R l2).trans nb2.out)
    have hlo : R < b1 ∧ R < b2' := by omega
    obtain ⟨G, hG⟩ : ∃ G, w5.heap.size = G := ⟨_, rfl⟩
    have hRG : R < G := by rw [← hG]; exact Nat.lt_of_lt_of_le l2 B5.size
    have hBG0 : Hid (RowKit.Below G w5 w5) := Lib.hid (RowKit.Below.refl _ _)
    replace S5 := Lib.hid S5
    replace Z5 := Lib.hid Z5
    replace R5 := Lib.hid R5
    replace hm := Lib.hid hm
    replace hG := Lib.hid hG
    replace hT := Lib.hid hT
    replace hwho := Lib.hid hwho
    clear B5 hrun nb2 B2 l2 hb1 hb2
    go_wp2
    go_loopw [7] (fun v7 wr => ∃ i : Nat, v7 = .int .i64 i ∧ i ≤ m ∧ Hid (RowKit.Below G w5 wr)) (fun v7 _ => m - (intOf v7).toNat)
    case atStart => exact ⟨0, rfl, Nat.zero_le _, hBG0⟩
    case round =>
      clear hBG0
      obtain ⟨i, rfl, hi, hB⟩ := hrel
      by_cases him : i < m
      · have hii : (i : Int) < (m : Int) := by omega
        have Sr := S5.out.below hB.out (by have := hG.out; omega)
        have Rr := R5.out.below hB.out (by have := hG.out; omega)
        obtain ⟨x, hx⟩ : ∃ x, who[i]? = some x := ⟨_, List.getElem?_eq_getElem (by have := hm.out; omega)⟩
        have hxd : who.getD i 0 = x := by rw [List.getD_eq_getElem?_getD, hx]; rfl
        obtain ⟨ga, oa, rfl, hgl, hoc⟩ : ∃ eb off, a6 = some ⟨eb, off, none⟩ ∧ eb < wr.heap.size ∧ ∀ j, j < who.length → wr.cell? ⟨eb, off + j, none⟩ = some (.int .u32 (who.getD j 0)) := by
          obtain ⟨a, c, e, hN⟩ := Rr.nums
          cases e
          exact nums_at hN (i := i) (by have := hm.out; omega)
        have ci := hoc i (by have := hm.out; omega)
        rw [hxd] at ci
        have hoc' := Lib.hid hoc
        have hH := holds_u Sr (by have := Z5.out.keys; omega) x
        have hGw : G ≤ wr.heap.size := by have := hB.out.size; have := hG.out; omega
        obtain ⟨hl, hhl⟩ : ∃ h, holdsL T x = h := ⟨_, rfl⟩
        rw [hhl] at hH
        have hat : Hid (∀ h ∈ hl, modeL (T.F h.1).1 x = h.2 ∧ h.2 ≠ 0) := Lib.hid fun h hh => holdsL_at (by rw [hhl]; exact hh)
        have hll : hl.length ≤ 1000 := by rw [← hhl]; exact Nat.le_trans (List.length_filterMap_le _ _) (by have := Z5.out.keys; omega)
        obtain ⟨nh, hnh⟩ : ∃ k, hl.length = k := ⟨_, rfl⟩
        rw [hnh] at hH hll
        replace hnh := Lib.hid hnh
        replace hx := Lib.hid hx
        replace Sr := Lib.hid Sr
        replace Rr := Lib.hid Rr
        clear hoc hxd
        go_upto_region 10 with (go_at_call 28; refine hH.mono ?_; rintro e w6 ⟨v6, rfl, O6, B6⟩)
        obtain ⟨a8, c8, rfl⟩ := row_shape O6
        have S6 := Lib.hid (Sr.out.below B6 (Nat.le_refl _))
        have R6 := Lib.hid (Rr.out.below B6 (Nat.le_refl _))
        have BG6 := Lib.hid (hB.out.trans (B6.mono hGw))
        have hO := Lib.hid O6
        obtain ⟨G6, hG6⟩ : ∃ G, w6.heap.size = G := ⟨_, rfl⟩
        have hGG : G ≤ G6 := by rw [← hG6]; exact Nat.le_trans hGw B6.size
        replace hG6 := Lib.hid hG6
        have hB60 : Hid (RowKit.Below G6 w6 w6) := Lib.hid (RowKit.Below.refl _ _)
        clear O6 B6 hH ci Sr Rr hB hGw
        go_wp2
        go_loopw [9] (fun v9 wr => ∃ j : Nat, v9 = .int .i64 j ∧ j ≤ nh ∧ Hid (RowKit.Below G6 w6 wr)) (fun v9 _ => nh - (intOf v9).toNat)
        case atStart => exact ⟨0, rfl, Nat.zero_le _, hB60⟩
        case round =>
          clear hB60
          obtain ⟨j, rfl, hj, hB⟩ := hrel
          by_cases hjn : j < nh
          · have hjj : (j : Int) < (nh : Int) := by omega
            obtain ⟨⟨⟨q1, q2, q3⟩, hmd⟩, hhj⟩ : ∃ h, hl[j]? = some h := ⟨_, List.getElem?_eq_getElem (by have := hnh.out; omega)⟩
            obtain ⟨gh, c', e, hg1, hg2, d0, d1, d2, d3⟩ := hold_cells hO.out hhj
            cases e
            simp only at d0 d1 d2 d3
            obtain ⟨hA1, hA2⟩ := hat.out _ (List.mem_of_getElem? hhj)
            simp only at hA1 hA2
            have hA := Lib.hid hA1
            have hA' := Lib.hid hA2
            have lg6 : gh < G6 := by have := hG6.out; omega
            have hD : Hid (∀ w', RowKit.Below G6 w6 w' → w'.cell? ⟨gh, j * 4, none⟩ = some (.int .u8 q1) ∧ w'.cell? ⟨gh, j * 4 + 1, none⟩ = some (.int .u32 q2) ∧ w'.cell? ⟨gh, j * 4 + 2, none⟩ = some (.int .u32 q3) ∧ w'.cell? ⟨gh, j * 4 + 3, none⟩ = some (.int .u8 hmd)) := Lib.hid fun w' b =>
              ⟨(b.cell (p := ⟨gh, j * 4, none⟩) lg6).trans d0, (b.cell (p := ⟨gh, j * 4 + 1, none⟩) lg6).trans d1, (b.cell (p := ⟨gh, j * 4 + 2, none⟩) lg6).trans d2, (b.cell (p := ⟨gh, j * 4 + 3, none⟩) lg6).trans d3⟩
            replace hhj := Lib.hid hhj
            clear d0 d1 d2 d3 hA1 hA2 hg1 hg2
            have hB0 := hB
            go_wp2
            go_loopw [10] (fun v10 wr => ∃ p : Nat, v10 = .int .i64 p ∧ p ≤ m ∧ Hid (RowKit.Below G6 w6 wr)) (fun v10 _ => m - (intOf v10).toNat)
            case atStart => exact ⟨0, rfl, Nat.zero_le _, hB0⟩
            case round =>
              clear hB0 hB
              obtain ⟨p, rfl, hp, hB⟩ := hrel
              by_cases hpm : p < m
              · have hpp : (p : Int) < (m : Int) := by omega
                obtain ⟨y, hy⟩ : ∃ y, who[p]? = some y := ⟨_, List.getElem?_eq_getElem (by have := hm.out; omega)⟩
                have hyd : who.getD p 0 = y := by rw [List.getD_eq_getElem?_getD, hy]; rfl
                have hoc6 : ∀ w', RowKit.Below G6 w6 w' → w'.cell? ⟨ga, oa + p, none⟩ = some (.int .u32 y) := fun w' b => by
                  have hr := R6.out.below b (by have := hG6.out; omega)
                  obtain ⟨a, c, e, hN⟩ := hr.nums
                  cases e
                  obtain ⟨eb, off, e1, _, h3⟩ := nums_at hN (i := p) (by have := hm.out; omega)
                  cases e1
                  rw [h3 p (by have := hm.out; omega), hyd]
                have hkp : Hid (∀ w', RowKit.Below G6 w6 w' → w'.cell? ⟨ga, oa + p, none⟩ = some (.int .u32 y) ∧ w'.cell? ⟨gh, j * 4, none⟩ = some (.int .u8 q1) ∧ w'.cell? ⟨gh, j * 4 + 1, none⟩ = some (.int .u32 q2) ∧ w'.cell? ⟨gh, j * 4 + 2, none⟩ = some (.int .u32 q3) ∧ Hid (RowKit.Below G6 w6 w')) := Lib.hid fun w' b => by
                  obtain ⟨h1, h2, h3, _⟩ := hD.out w' b
                  exact ⟨hoc6 w' b, h1, h2, h3, Lib.hid b⟩
                have hmod : Hid (∀ w', RowKit.Below G6 w6 w' → Calls Try.prog 29 #[.pointer (some ⟨TB, 0, none⟩), .int .u32 y, .agg #[.int .u8 q1, .int .u32 q2, .int .u32 q3]] w' fun e w'' => e = .returned (.int .u8 (modeL (T.F (q1, q2, q3)).1 y)) ∧ RowKit.Below G6 w6 w'') := Lib.hid fun w' b =>
                  (mode13_u (S6.out.below b (by have := hG6.out; omega)) I.out (by have := Z5.out.keys; omega) y (q1, q2, q3)).mono fun e w'' ⟨h1, h2⟩ => ⟨h1, b.trans (h2.mono (by have := b.size; have := hG6.out; omega))⟩
                obtain ⟨mm, hmm⟩ : ∃ x, modeL (T.F (q1, q2, q3)).1 y = x := ⟨_, rfl⟩
                rw [hmm] at hmod
                have hno : Hid (p ≠ i → mm ≠ 0 → mm ≠ 2 ∧ hmd ≠ 2) := Lib.hid fun h1 h2 => by
                  have := holds_apart I.out (x := x) (y := y) (k := (q1, q2, q3)) (hm := hmd) (hap.out i p x y hx.out hy (Ne.symm h1)) hA.out hA'.out (by rw [hmm]; exact h2)
                  rwa [hmm] at this
                replace hmm := Lib.hid hmm
                clear hoc6 hyd
                replace hy := Lib.hid hy
                go_upto_region 16 with fail
                go_region_held2 (fun w' => w'.cell? ⟨ga, oa + p, none⟩ = some (.int .u32 y) ∧ w'.cell? ⟨gh, j * 4, none⟩ = some (.int .u8 q1) ∧ w'.cell? ⟨gh, j * 4 + 1, none⟩ = some (.int .u32 q2) ∧ w'.cell? ⟨gh, j * 4 + 2, none⟩ = some (.int .u32 q3) ∧ Hid (RowKit.Below G6 w6 w'))
                  (first | exact hkp.out _ hB.out.drew | exact hkp.out _ b7 | go_keep)
                  (first
                    | (go_at_call 29; go_split_ands; refine Calls.mono (hmod.out _ (Hid.out (by assumption))) ?_; rintro e w7 ⟨rfl, b7⟩))
                have B7 := Lib.hid b7
                have d3 := (hD.out _ b7).2.2.2
                clear b7
                by_cases hpi : p = i
                · subst hpi
                  go_wp2
                  go_roundw
                  case rel => exact ⟨p + 1, by go_num, by omega, B7⟩
                  case measure => simp [intOf]; omega
                · have hpib : ((p : Int) != (i : Int)) = true := by simpa using (by omega : ¬ (p : Int) = (i : Int))
                  by_cases hm0 : mm = 0
                  · subst hm0
                    go_wp2
                    go_roundw
                    case rel => exact ⟨p + 1, by go_num, by omega, B7⟩
                    case measure => simp [intOf]; omega
                  · obtain ⟨hn1, hn2⟩ := hno.out hpi hm0
                    have hm0b : (mm != 0) = true := by simpa using hm0
                    have hm2b : (mm == 2) = false := by simpa using hn1
                    have hh2b : (hmd == 2) = false := by simpa using hn2
                    go_wp2
                    go_roundw
                    case rel => exact ⟨p + 1, by go_num, by omega, B7⟩
                    case measure => simp [intOf]; omega
              · obtain rfl : p = m := by omega
                go_wp2
                go_roundw
                case rel => exact ⟨j + 1, by go_num, by omega, hB⟩
                case measure => simp [intOf]; omega
          · obtain rfl : j = nh := by omega
            have hBn := Lib.hid (BG6.out.trans (hB.out.mono hGG))
            go_wp2
            go_roundw
            case rel => exact ⟨i + 1, by go_num, by omega, hBn⟩
            case measure => simp [intOf]; omega
      · obtain rfl : i = m := by omega
        have Sr := S5.out.below hB.out (by have := hG.out; omega)
        have nbr := Lib.hid ((hB.out.block R hRG).trans nb5.out)
        have o1 : wr.cell? ⟨R, 1, none⟩ = some (.int .u32 otx) := by rw [cell_of_heap nbr.out]; rfl
        have o2 : wr.cell? ⟨R, 2, none⟩ = some (.int .u8 k1) := by rw [cell_of_heap nbr.out]; rfl
        have o3 : wr.cell? ⟨R, 3, none⟩ = some (.int .u32 k2) := by rw [cell_of_heap nbr.out]; rfl
        have o4 : wr.cell? ⟨R, 4, none⟩ = some (.int .u32 k3) := by rw [cell_of_heap nbr.out]; rfl
        have o5 : wr.cell? ⟨R, 5, none⟩ = some (.int .u8 omd) := by rw [cell_of_heap nbr.out]; rfl
        have hA := ask_u Sr (by have := Z5.out.keys; omega) (by have := Z5.out.waits; omega) otx otxU (k1, k2, k3) okk omd (by have := Z5.out.size (k1, k2, k3); omega) (by have := Z5.out.size (k1, k2, k3); omega)
        have Ia := Lib.hid (inv_ask I.out otx (k1, k2, k3) omd)
        have Za := Lib.hid (askT_fit (Z5.out.mono (n' := 60) (m' := 60) (by omega) (by omega)) otxU (k1, k2, k3) omd)
        have hmo := ask_mode I.out otx (k1, k2, k3) omd
        obtain ⟨TA, hTA⟩ : ∃ x, (askT T otx (k1, k2, k3) omd).2 = x := ⟨_, rfl⟩
        rw [hTA] at Ia Za hmo hA
        obtain ⟨mm, hmm⟩ : ∃ x, modeL (TA.F (k1, k2, k3)).1 otx = x := ⟨_, rfl⟩
        rw [hmm] at hmo
        obtain ⟨ga, hga⟩ : ∃ x, (askT T otx (k1, k2, k3) omd).1 = x := ⟨_, rfl⟩
        rw [hga] at hmo hA
        replace hmm := Lib.hid hmm
        have BGr := Lib.hid (B25.out.trans (hB.out.mono (by have := hG.out; omega)))
        have lr : R < wr.heap.size := (Array.getElem?_eq_some_iff.1 nbr.out).1
        clear hB nb5 hap hwho R5 S5 hTA hga Sr
        go_upto_region 20 with (go_at_call 25; refine hA.mono ?_; rintro e w8 ⟨f8, rfl, S8, b8⟩)
        have nb8 := Lib.hid ((b8.block R lr (by omega) (by omega)).trans nbr.out)
        have B8 := Lib.hid (BGr.out.trans (b8.below (B := R) (by omega) (by omega) (by omega)))
        have l8 : R < w8.heap.size := (Array.getElem?_eq_some_iff.1 nb8.out).1
        have p1 : w8.cell? ⟨R, 1, none⟩ = some (.int .u32 otx) := by rw [cell_of_heap nb8.out]; rfl
        have p2 : w8.cell? ⟨R, 2, none⟩ = some (.int .u8 k1) := by rw [cell_of_heap nb8.out]; rfl
        have p3 : w8.cell? ⟨R, 3, none⟩ = some (.int .u32 k2) := by rw [cell_of_heap nb8.out]; rfl
        have p4 : w8.cell? ⟨R, 4, none⟩ = some (.int .u32 k3) := by rw [cell_of_heap nb8.out]; rfl
        have hM := mode13_u S8 Ia.out (by have := Za.out.keys; omega) otx (k1, k2, k3)
        rw [hmm.out] at hM
        clear S8 b8 hA o1 o2 o3 o4 o5 BGr nbr lr
        go_upto_region 21 with (go_at_call 29; refine hM.mono ?_; rintro e w9 ⟨rfl, b9⟩)
        have nb9 := Lib.hid ((b9.block R l8).trans nb8.out)
        have B9 := Lib.hid (B8.out.trans (b9.mono (by omega)))
        have q5 : w9.cell? ⟨R, 5, none⟩ = some (.int .u8 omd) := by rw [cell_of_heap nb9.out]; rfl
        clear b9 hM p1 p2 p3 p4
        subst hmo
        by_cases h2 : mm = 2
        · subst h2
          go_wp2
          go_ret
          exact ⟨by simp, B9.out⟩
        · have h2b : (mm == 2) = false := by simpa using h2
          by_cases h1 : mm = 1
          · subst h1
            go_wp2
            go_ret
            exact ⟨by simp, B9.out⟩
          · have h1b : (mm == 1) = false := by simpa using h1
            go_wp2
            go_ret
            exact ⟨by simp [h1b, h2b], B9.out⟩
end Go.Proofs.Ytilknhackmccpaa
