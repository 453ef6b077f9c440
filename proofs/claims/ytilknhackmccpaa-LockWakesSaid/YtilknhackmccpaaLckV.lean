/- Package lock: LockFirst, its walk. -/
import Derived.Test.YtilknhackmccpaaLckU
set_option linter.unusedVariables false
set_option linter.unusedSimpArgs false
namespace Go.Proofs.Ytilknhackmccpaa
open Go.RowKit Go.Sort Go.Lib Go.Maps

theorem take_snoc {l : List Int} {i : Nat} (hi : i < l.length) : l.take (i + 1) = l.take i ++ [l.getD i 0] := by
  rw [List.take_succ_eq_append_getElem hi]
  simp [List.getD_eq_getElem?_getD, List.getElem?_eq_getElem hi]
theorem nums_at {w : World} {a : Option Addr} {l : List Int} (h : Nums w a l) {i : Nat} (hi : i < l.length) : ∃ eb off, a = some ⟨eb, off, none⟩ ∧ eb < w.heap.size ∧ ∀ j, j < l.length → w.cell? ⟨eb, off + j, none⟩ = some (.int .u32 (l.getD j 0)) := by
  obtain ⟨eb, off, h1, h2, h3⟩ := h (by rintro rfl; simp at hi)
  exact ⟨eb, off, h1, h2, h3⟩

set_option maxRecDepth 100000 in
set_option maxHeartbeats 16000000 in
theorem first_walk (W : World) (k1 k2 k3 : Int) (hk : KyOk (k1, k2, k3)) (l : List Int) (v : Value) (hv : NumsIn W v l) :
    Calls Try.prog 8 #[.agg #[.int .u8 k1, .int .u32 k2, .int .u32 k3], v] W fun e w' => e = .returned (.bool true) ∧ RowKit.Below W.heap.size W w' := by
  obtain ⟨a, cap, rfl, hN, hU⟩ := hv
  obtain ⟨n, hn⟩ : ∃ n, l.length = n := ⟨_, rfl⟩
  obtain ⟨R, hR⟩ : ∃ R, W.heap.size = R := ⟨_, rfl⟩
  have Ba := below_alloc W (.cells #[.int .u8 k1, .int .u32 k2, .int .u32 k3] 38)
  have nb := heap_alloc_new W (.cells #[.int .u8 k1, .int .u32 k2, .int .u32 k3] 38)
  obtain ⟨wa, hwa⟩ : ∃ x, W.alloc (.cells #[.int .u8 k1, .int .u32 k2, .int .u32 k3] 38) = x := ⟨_, rfl⟩
  have hsa : wa.heap.size = R + 1 := by rw [← hwa, ← hR]; simp
  rw [hwa, hR] at nb Ba
  rw [hR, hn]
  have hkn := known_l wa
  by_cases h30 : 30 < n
  · have h30i : (30 : Int) < (n : Int) := by omega
    replace Ba := Lib.hid Ba
    clear nb
    go_enter Try.func8, Try.ntmps8
    go_wp2_with (go_at_call 22; refine hkn.mono ?_; rintro e w2 ⟨rfl, b2⟩)
    go_ret
    exact ⟨rfl, Ba.out.trans (b2.mono (by omega))⟩
  · have h30i : ¬ (30 : Int) < (n : Int) := by omega
    have hn30 : n ≤ 30 := by omega
    have hNN := Lib.hid hN
    have hUU := Lib.hid hU
    have hkk := Lib.hid hk
    replace Ba := Lib.hid Ba
    replace nb := Lib.hid nb
    clear hN hU hk
    go_enter Try.func8, Try.ntmps8
    go_upto_region 6 with (first
      | (go_at_call 22; refine hkn.mono ?_; rintro e w2 ⟨rfl, b2⟩)
      | (go_at_call 23; refine (new_u _).mono ?_; rintro e w3 ⟨TB, b1, b2', rfl, hb1, hb2, S3, B3⟩))
    have B4 := Lib.hid (Ba.out.trans ((b2.mono (by omega)).trans (B3.mono (by have := b2.size; omega))))
    have hlo : R < b1 ∧ R < b2' := by have := b2.size; omega
    have nb4 := Lib.hid ((B3.block R (by have := b2.size; omega)).trans ((b2.block R (by omega)).trans nb.out))
    have S4 := Lib.hid S3
    clear b2 hkn B3 S3 hwa hsa nb Ba hb1 hb2
    go_wp2
    have hR0 : Hid (ReadN w3 (.slice none 0 0) (canon (l.take 0))) := Lib.hid ⟨by simp [canon_nil], .inl ⟨rfl, by simp [canon_nil]⟩⟩
    have hT0 : Hid (∃ T f, TabIs w3 TB b1 b2' T f ∧ FirstOk (k1, k2, k3) T (ordL (l.take 0)) ∧ Fit T 0 0) := Lib.hid ⟨noTb, _, S4.out, first_start _, fit_none⟩
    go_loopw [6, 7] (fun v6 v7 wr => ∃ i : Nat, v7 = .int .i64 i ∧ i ≤ n ∧ Hid (ReadN wr v6 (canon (l.take i))) ∧ Hid (∃ T f, TabIs wr TB b1 b2' T f ∧ FirstOk (k1, k2, k3) T (ordL (l.take i)) ∧ Fit T i i) ∧ Hid (RowKit.Below R W wr) ∧ Hid (wr.heap[R]? = some (.cells #[.int .u8 k1, .int .u32 k2, .int .u32 k3] 38))) (fun _ v7 _ => n - (intOf v7).toNat)
    case atStart => exact ⟨0, rfl, Nat.zero_le _, hR0, hT0, B4, nb4⟩
    case round =>
      clear hR0 hT0 S4 B4 nb4
      obtain ⟨i, rfl, hi, hRd, hT, hB, hkb⟩ := hrel
      by_cases hin : i < n
      · have hii : (i : Int) < (n : Int) := by omega
        obtain ⟨eb, off, rfl, hlt, hcc⟩ := nums_at hNN.out (i := i) (by omega)
        have ci := (hB.out.cell (p := ⟨eb, off + i, none⟩) (by show eb < R; omega)).trans (hcc i (by omega))
        have ux : U (l.getD i 0) := hUU.out _ (by rw [List.getD_eq_getElem?_getD, List.getElem?_eq_getElem (show i < l.length by omega)]; exact List.getElem_mem _)
        have hsn := take_snoc (l := l) (i := i) (by omega)
        obtain ⟨x, hx⟩ : ∃ x, l.getD i 0 = x := ⟨_, rfl⟩
        rw [hx] at ci ux hsn
        replace hcc := Lib.hid hcc
        replace hx := Lib.hid hx
        obtain ⟨T, f, S, F, Z⟩ := hT.out
        clear hT
        have hcl : (canon (l.take i)).length ≤ i := Nat.le_trans (canon_length _) (by rw [List.length_take]; omega)
        have hin' := into_u u6 (canon (l.take i)) x wr hRd.out ux (by omega)
        rw [← canon_snoc, ← hsn] at hin'
        obtain ⟨a6, c6, rfl, _⟩ := hRd.out.nums
        have hci : ((canon (l.take i)).length : Int) ≤ 1000 := by omega
        obtain ⟨nw, hnw⟩ : ∃ m, (canon (l.take i)).length = m := ⟨_, rfl⟩
        rw [hnw] at hin' hci hcl
        obtain ⟨nx, hnx⟩ : ∃ m, (canon (l.take (i + 1))).length = m := ⟨_, rfl⟩
        replace hsn := Lib.hid hsn
        replace S := Lib.hid S
        have l6 : R < wr.heap.size := (Array.getElem?_eq_some_iff.1 hkb.out).1
        have lE : eb < wr.heap.size := World.block_lt_of_cell? _ _ ci
        go_upto_region 12 with (go_at_call 24; refine hin'.mono ?_; rintro e w5 ⟨v5, rfl, hR5, b5⟩; obtain ⟨a5, c5, hv5, -⟩ := hR5.nums; rw [hnx] at hv5; subst hv5)
        have S5 := S.out.below b5 (Nat.le_refl _)
        have kb5 := Lib.hid ((b5.block R l6).trans hkb.out)
        have ci5 := (b5.cell (p := ⟨eb, off + i, none⟩) lE).trans ci
        have B5 := Lib.hid (hB.out.trans (b5.mono (by omega)))
        replace hR5 := Lib.hid hR5
        have lR5 : R < w5.heap.size := (Array.getElem?_eq_some_iff.1 kb5.out).1
        have hRo := hRd.out.below b5 (Nat.le_refl _)
        rw [hnw] at hRo
        clear b5 ci hRd hB hkb S l6 lE
        by_cases hxi : x ∈ l.take i
        · have hc := canon_len_same hxi
          have ho : ordL (l.take (i + 1)) = ordL (l.take i) := by rw [hsn.out, ordL_snoc, if_pos ((ordL_mem _ _).2 hxi)]
          rw [← hsn.out] at hc
          have hnn : nx = nw := by rw [← hnx, ← hnw, hc]
          have hT5 : Hid (∃ T f, TabIs w5 TB b1 b2' T f ∧ FirstOk (k1, k2, k3) T (ordL (l.take (i + 1))) ∧ Fit T (i + 1) (i + 1)) := Lib.hid ⟨T, f, S5, by rw [ho]; exact F, Z.mono (Nat.le_succ i) (Nat.le_succ i)⟩
          have hR6 : Hid (ReadN w5 (.slice a6 nw c6) (canon (l.take (i + 1)))) := Lib.hid (by rw [hc]; exact hRo)
          subst hnn
          replace hnx := Lib.hid hnx
          replace hnw := Lib.hid hnw
          clear ho hc hRo
          go_wp2
          go_roundw
          case rel => exact ⟨i + 1, by go_num, by omega, hR6, hT5, B5, kb5⟩
          case measure => simp [intOf]; omega
        · have hc := canon_len_more hxi
          rw [← hsn.out, hnx, hnw] at hc
          have ho : ordL (l.take (i + 1)) = ordL (l.take i) ++ [x] := by rw [hsn.out, ordL_snoc, if_neg (fun h => hxi ((ordL_mem _ _).1 h))]
          obtain ⟨q1, q2⟩ := first_ask F (t := x) (fun h => hxi ((ordL_mem _ _).1 h))
          have hak := ask_u S5.drew (by have := Z.keys; omega) (by have := Z.waits; omega) x ux (k1, k2, k3) hkk.out 2 (by have := Z.size (k1, k2, k3); omega) (by have := Z.size (k1, k2, k3); omega)
          have Z2 := askT_fit Z ux (k1, k2, k3) 2
          obtain ⟨g, hg⟩ : ∃ b, decide (ordL (l.take i) = []) = b := ⟨_, rfl⟩
          rw [hg] at q1
          rw [q1] at hak
          have hz : ((nw : Int) == 0) = g := by
            rw [← hg, Bool.eq_iff_iff, ← hnw]
            simp only [beq_iff_eq, decide_eq_true_eq]
            constructor
            · intro h
              have h1 : canon (l.take i) = [] := List.eq_nil_of_length_eq_zero (by omega)
              rw [canon_eq_nil h1]
              rfl
            · intro h
              have h1 : l.take i = [] := by
                cases e : l.take i with
                | nil => rfl
                | cons y r =>
                  have : y ∈ ordL (l.take i) := (ordL_mem _ _).2 (by rw [e]; simp)
                  rw [h] at this
                  cases this
              rw [h1, canon_nil]
              rfl
          have hcb : ((nx : Int) == (nw : Int)) = false := by simpa using (by omega : ¬ (nx : Int) = (nw : Int))
          rw [← ho] at q2
          obtain ⟨d0, d1, d2⟩ := three_cells kb5.out
          have hnb := Lib.hid (⟨S5.locks.nocells, S5.waits.nocells⟩ : (∀ cs ty fr, w5.heap[b1]? ≠ some (.cells cs ty fr)) ∧ ∀ cs ty fr, w5.heap[b2']? ≠ some (.cells cs ty fr))
          have hkp : Hid (∀ w', Two b1 b2' w5 w' → w'.cell? ⟨eb, off + i, none⟩ = some (.int .u32 x) ∧ w'.cell? ⟨R, 0, none⟩ = some (.int .u8 k1) ∧ w'.cell? ⟨R, 1, none⟩ = some (.int .u32 k2) ∧ w'.cell? ⟨R, 2, none⟩ = some (.int .u32 k3)) := Lib.hid fun w' h => by
            have e1 : eb < w5.heap.size := World.block_lt_of_cell? _ _ ci5
            exact ⟨(h.cellKeep (p := ⟨eb, off + i, none⟩) e1 (by show eb ≠ b1; omega) (by show eb ≠ b2'; omega)).trans ci5, (h.cellKeep (p := ⟨R, 0, none⟩) lR5 (by show R ≠ b1; omega) (by show R ≠ b2'; omega)).trans d0, (h.cellKeep (p := ⟨R, 1, none⟩) lR5 (by show R ≠ b1; omega) (by show R ≠ b2'; omega)).trans d1, (h.cellKeep (p := ⟨R, 2, none⟩) lR5 (by show R ≠ b1; omega) (by show R ≠ b2'; omega)).trans d2⟩
          replace hc := Lib.hid hc
          replace ho := Lib.hid ho
          replace hg := Lib.hid hg
          replace q2 := Lib.hid q2
          replace F := Lib.hid F
          replace Z2 := Lib.hid Z2
          replace Z := Lib.hid Z
          replace S5 := Lib.hid S5
          replace hRo := Lib.hid hRo
          clear q1
          go_upto_region 14 with fail
          go_region_held2 (fun w' => w'.cell? ⟨eb, off + i, none⟩ = some (.int .u32 x) ∧ w'.cell? ⟨R, 0, none⟩ = some (.int .u8 k1) ∧ w'.cell? ⟨R, 1, none⟩ = some (.int .u32 k2) ∧ w'.cell? ⟨R, 2, none⟩ = some (.int .u32 k3))
            (first | exact hkp.out _ (Two.of0 (RowKit.Below.refl _ _).drew) | exact hkp.out _ ((Two.of0 (RowKit.Below.refl _ _).drew).trans t7) | go_keep)
            (first
              | (go_at_call 25; refine hak.mono ?_; rintro e w7 ⟨f7, rfl, S7, t7⟩))
          have t5 : Two b1 b2' w5 w7 := (Two.of0 (RowKit.Below.refl _ _).drew).trans t7
          have B7 := Lib.hid (B5.out.trans (t5.below (by omega) (by omega) (by omega)))
          have kb7 := Lib.hid ((t5.block R lR5 (by omega) (by omega)).trans kb5.out)
          have hR7 := Lib.hid (hR5.out.two t5 hnb.out.1 hnb.out.2)
          have hT7 : Hid (∃ T f, TabIs w7 TB b1 b2' T f ∧ FirstOk (k1, k2, k3) T (ordL (l.take (i + 1))) ∧ Fit T (i + 1) (i + 1)) := Lib.hid ⟨_, f7, S7, q2.out, Z2.out⟩
          replace hnx := Lib.hid hnx
          replace hnw := Lib.hid hnw
          clear t5 t7 hak S7 d0 d1 d2 hcb
          cases g
          · go_wp2
            go_roundw
            case rel => exact ⟨i + 1, by go_num, by omega, hR7, hT7, B7, kb7⟩
            case measure => simp [intOf]; omega
          · go_wp2
            go_roundw
            case rel => exact ⟨i + 1, by go_num, by omega, hR7, hT7, B7, kb7⟩
            case measure => simp [intOf]; omega
      · obtain rfl : i = n := by omega
        obtain ⟨T, f, S, F, Z⟩ := hT.out
        have htk : l.take i = l := List.take_of_length_le (by omega)
        rw [htk] at F
        have hF := Lib.hid F
        have hZ := Lib.hid Z
        have hS0 := Lib.hid S
        have hO0 : Hid (wr.ownsInts R 23 .u32 (.slice none 0 0) (ordL (l.take 0))) := Lib.hid (World.ownsInts_nil _ _ _ _)
        clear hT S F Z hRd hkb htk
        go_wp2
        go_loopw [11, 12] (fun v11 v12 wr => ∃ j : Nat, v12 = .int .i64 j ∧ j ≤ i ∧ Hid (wr.ownsInts R 23 .u32 v11 (ordL (l.take j))) ∧ Hid (TabIs wr TB b1 b2' T f) ∧ Hid (RowKit.Below R W wr)) (fun _ v12 _ => i - (intOf v12).toNat)
        case atStart => exact ⟨0, rfl, Nat.zero_le _, hO0, hS0, hB⟩
        case round =>
          clear hO0 hS0 hB
          obtain ⟨j, rfl, hj, O, S, hB⟩ := hrel
          by_cases hji : j < i
          · have hjj : (j : Int) < (i : Int) := by omega
            obtain ⟨eb, off, rfl, hlt, hcc⟩ := nums_at hNN.out (i := j) (by omega)
            have cj := hcc j (by omega)
            have ux : U (l.getD j 0) := hUU.out _ (by rw [List.getD_eq_getElem?_getD, List.getElem?_eq_getElem (show j < l.length by omega)]; exact List.getElem_mem _)
            have hsn := take_snoc (l := l) (i := j) (by omega)
            obtain ⟨x, hx⟩ : ∃ x, l.getD j 0 = x := ⟨_, rfl⟩
            rw [hx] at cj ux hsn
            have cj' := Lib.hid cj
            replace hx := Lib.hid hx
            obtain ⟨ord, hord⟩ : ∃ o, ordL (l.take j) = o := ⟨_, rfl⟩
            rw [hord] at O
            have hol : ord.length ≤ j := by rw [← hord]; exact Nat.le_trans (ordL_len _) (by rw [List.length_take]; omega)
            have hnext : Hid (ordL (l.take (j + 1)) = if x ∈ ord then ord else ord ++ [x]) := Lib.hid (by rw [hsn, ordL_snoc, hord])
            obtain ⟨a11, c11, rfl, hN11⟩ := own_nums O.out
            obtain ⟨no, hno⟩ : ∃ m, ord.length = m := ⟨_, rfl⟩
            rw [hno] at O hol ⊢
            replace hno := Lib.hid hno
            replace hord := Lib.hid hord
            clear hsn hcc cj hN11
            have hin0 : Hid (false = decide (x ∈ ord.take 0)) := Lib.hid (by simp)
            go_wp2
            go_loopw [13, 14] (fun v13 v14 wr => ∃ (m : Nat) (b : Bool), v13 = .bool b ∧ v14 = .int .i64 m ∧ m ≤ no ∧ Hid (b = decide (x ∈ ord.take m)) ∧ Hid (wr.ownsInts R 23 .u32 (.slice a11 no c11) ord) ∧ Hid (TabIs wr TB b1 b2' T f) ∧ Hid (RowKit.Below R W wr)) (fun _ v14 _ => no - (intOf v14).toNat)
            case atStart => exact ⟨0, false, rfl, rfl, Nat.zero_le _, hin0, O, S, hB⟩
            case round =>
              clear hin0 O S hB
              obtain ⟨m, b, rfl, rfl, hm, hb, O, S, hB⟩ := hrel
              by_cases hmn : m < no
              · have hmm : (m : Int) < (no : Int) := by omega
                have cj := (hB.out.cell (p := ⟨eb, off + j, none⟩) (by show eb < R; omega)).trans cj'.out
                obtain ⟨ga, oa, hga, hgl, hoc⟩ := nums_at (own_nums' O.out) (i := m) (by have := hno.out; omega)
                have cm := hoc m (by have := hno.out; omega)
                obtain ⟨y, hy⟩ : ∃ y, ord.getD m 0 = y := ⟨_, rfl⟩
                rw [hy] at cm
                have hst : Hid (ord.take (m + 1) = ord.take m ++ [y]) := Lib.hid (by rw [take_snoc (by have := hno.out; omega), hy])
                replace hy := Lib.hid hy
                subst hga
                clear hoc
                have hmv : Hid (∀ q, (wr.drewN q).ownsInts R 23 .u32 (.slice (some ⟨ga, oa, none⟩) no c11) ord ∧ TabIs (wr.drewN q) TB b1 b2' T f ∧ RowKit.Below R W (wr.drewN q)) := Lib.hid fun q => ⟨O.out.kept (grown_drewN wr q none) (Classical.em _), S.out.kept (grown_drewN wr q none) (by simp), hB.out.trans (below_of_grown (grown_drewN wr q none) (by simp) (by have := hB.out.size; omega))⟩
                obtain ⟨bx, hbx⟩ : ∃ z, (y == x) = z := ⟨_, rfl⟩
                have hb2 : Hid ((b || bx) = decide (x ∈ ord.take (m + 1))) := Lib.hid (by
                  rw [hst.out, hb.out, ← hbx, Bool.eq_iff_iff]
                  simp only [Bool.or_eq_true, decide_eq_true_eq, beq_iff_eq, List.mem_append, List.mem_singleton]
                  exact ⟨fun h => h.imp id Eq.symm, fun h => h.imp id Eq.symm⟩)
                cases b
                · go_upto_region 25 with fail
                  first | go_quiet (first | fail) | fail
                  obtain ⟨o2, s2, B2⟩ := hmv.out nq
                  replace o2 := Lib.hid o2
                  replace s2 := Lib.hid s2
                  replace B2 := Lib.hid B2
                  clear hbx
                  cases bx
                  · go_wp2
                    go_roundw
                    case rel => exact ⟨m + 1, false, rfl, by go_num, by omega, hb2, o2, s2, B2⟩
                    case measure => simp [intOf]; omega
                  · go_wp2
                    go_roundw
                    case rel => exact ⟨m + 1, true, rfl, by go_num, by omega, hb2, o2, s2, B2⟩
                    case measure => simp [intOf]; omega
                · go_upto_region 25 with fail
                  first | go_quiet (first | fail) | fail
                  obtain ⟨o2, s2, B2⟩ := hmv.out nq
                  replace o2 := Lib.hid o2
                  replace s2 := Lib.hid s2
                  replace B2 := Lib.hid B2
                  go_wp2
                  go_roundw
                  case rel => exact ⟨m + 1, true, rfl, by go_num, by omega, hb2, o2, s2, B2⟩
                  case measure => simp [intOf]; omega
              · obtain rfl : m = no := by omega
                rw [List.take_of_length_le (by have := hno.out; omega)] at hb
                have cj := (hB.out.cell (p := ⟨eb, off + j, none⟩) (by show eb < R; omega)).trans cj'.out
                cases b
                · have hne : ordL (l.take (j + 1)) = ord ++ [x] := by rw [hnext.out, if_neg (by have := hb.out; simpa using this)]
                  have hnc := Lib.hid (heap_alloc_new wr (.cells #[.int .u32 x] 23))
                  have bN := below_alloc wr (.cells #[.int .u32 x] 23)
                  have S2 := Lib.hid (S.out.below bN (Nat.le_refl _))
                  have O2 := Lib.hid (O.out.alloc (.cells #[.int .u32 x] 23))
                  have hRw : R ≤ wr.heap.size := by have := hB.out.size; omega
                  have B2 := Lib.hid (hB.out.trans (bN.mono hRw))
                  have hR2 : R ≤ (wr.alloc (.cells #[.int .u32 x] 23)).heap.size := by simp; omega
                  have hlw : ord.length + 1 < 1000000 := by have := hno.out; omega
                  replace ux := Lib.hid ux
                  replace hne := Lib.hid hne
                  clear bN hRw
                  go_wp2_with (at_builtin; refine wpList_append_n rfl (.tmp 84) (.tmp 89) rfl R _ ord rfl O2.out (some ⟨wr.heap.size, 0, none⟩) 1 1 [x] rfl (nums_one hnc.out) (by intro z hz; rw [List.mem_singleton.1 hz]; exact ux.out) rfl hlw hR2 ?_; intro v4 w4 O4 g4)
                  have S4 := Lib.hid (S2.out.nums O2.out g4)
                  have B4 := Lib.hid (B2.out.trans (below_of_grown g4 (fun g hg => (row_ge O2.out.1 g hg).1) (by have := B2.out.size; omega)))
                  have O5 : Hid (w4.ownsInts R 23 .u32 v4 (ordL (l.take (j + 1)))) := Lib.hid (by rw [hne.out]; exact O4)
                  clear O4 g4
                  go_roundw
                  case rel => exact ⟨j + 1, by go_num, by omega, O5, S4, B4⟩
                  case measure => simp [intOf]; omega
                · have hne : ordL (l.take (j + 1)) = ord := by rw [hnext.out, if_pos (by have := hb.out; simpa using this)]
                  have O2 : Hid (wr.ownsInts R 23 .u32 (.slice a11 m c11) (ordL (l.take (j + 1)))) := Lib.hid (by rw [hne]; exact O.out)
                  clear hne
                  go_wp2
                  go_roundw
                  case rel => exact ⟨j + 1, by go_num, by omega, O2, S, hB⟩
                  case measure => simp [intOf]; omega
          · obtain rfl : j = i := by omega
            have htk : l.take j = l := List.take_of_length_le (by omega)
            rw [htk] at O
            obtain ⟨ord, hord⟩ : ∃ o, ordL l = o := ⟨_, rfl⟩
            rw [hord] at O hF
            have hol : ord.length ≤ 30 := by rw [← hord]; exact Nat.le_trans (ordL_len _) (by omega)
            have huo : Hid (∀ z ∈ ord, U z) := Lib.hid fun z hz => hUU.out z ((ordL_mem l z).1 (by rw [hord]; exact hz))
            obtain ⟨a11, c11, rfl, hN11⟩ := own_nums O.out
            obtain ⟨no, hno⟩ : ∃ m, ord.length = m := ⟨_, rfl⟩
            rw [hno] at O hol ⊢
            have hT0 : Hid (∃ T f, TabIs wr TB b1 b2' T f ∧ FirstOk (k1, k2, k3) T (ord.drop 0) ∧ Fit T j j) := Lib.hid ⟨T, f, S.out, hF.out, hZ.out⟩
            replace hno := Lib.hid hno
            replace hord := Lib.hid hord
            clear htk hN11 S hF hZ
            go_wp2
            go_loopw [15] (fun v15 wr => ∃ m : Nat, v15 = .int .i64 m ∧ m ≤ no ∧ Hid (∃ T f, TabIs wr TB b1 b2' T f ∧ FirstOk (k1, k2, k3) T (ord.drop m) ∧ Fit T j j) ∧ Hid (ReadN wr (.slice a11 no c11) ord) ∧ Hid (RowKit.Below R W wr)) (fun v15 _ => no - (intOf v15).toNat)
            case atStart => exact ⟨0, rfl, Nat.zero_le _, hT0, Lib.hid (readN_own O.out), hB⟩
            case round =>
              clear hT0 O hB
              obtain ⟨m, rfl, hm, hT, O, hB⟩ := hrel
              by_cases hmn : m < no
              · have hmm : (m : Int) < (no : Int) := by omega
                obtain ⟨T, f, S, F, Z⟩ := hT.out
                obtain ⟨ga, oa, hga, hgl, hoc⟩ : ∃ eb off, a11 = some ⟨eb, off, none⟩ ∧ eb < wr.heap.size ∧ ∀ j, j < ord.length → wr.cell? ⟨eb, off + j, none⟩ = some (.int .u32 (ord.getD j 0)) := by
                  obtain ⟨a, c, e, hN⟩ := O.out.nums
                  cases e
                  exact nums_at hN (i := m) (by have := hno.out; omega)
                have cm := hoc m (by have := hno.out; omega)
                have hdr : ord.drop m = ord.getD m 0 :: ord.drop (m + 1) := by
                  rw [List.drop_eq_getElem_cons (by have := hno.out; omega)]
                  simp [List.getD_eq_getElem?_getD, List.getElem?_eq_getElem (show m < ord.length by have := hno.out; omega)]
                have ux : U (ord.getD m 0) := huo.out _ (by rw [List.getD_eq_getElem?_getD, List.getElem?_eq_getElem (show m < ord.length by have := hno.out; omega)]; exact List.getElem_mem _)
                obtain ⟨x, hx⟩ : ∃ x, ord.getD m 0 = x := ⟨_, rfl⟩
                rw [hx] at cm hdr ux
                rw [hdr] at F
                obtain ⟨q1, q2⟩ := first_rel F S.sorted
                have hrel := release_u S Z (by omega) x ux
                rw [q1] at hrel
                have Z2 := (relT_fit Z S.sorted x).1
                have hnb : Hid ((∀ cs ty fr, wr.heap[b1]? ≠ some (.cells cs ty fr)) ∧ ∀ cs ty fr, wr.heap[b2']? ≠ some (.cells cs ty fr)) := Lib.hid ⟨S.locks.nocells, S.waits.nocells⟩
                have hbl : b1 < wr.heap.size ∧ b2' < wr.heap.size := ⟨S.locks.lt, S.waits.lt⟩
                have hRw : R ≤ wr.heap.size := by have := hB.out.size; omega
                replace hx := Lib.hid hx
                replace hdr := Lib.hid hdr
                replace F := Lib.hid F
                replace S := Lib.hid S
                subst hga
                have hoc' := Lib.hid hoc
                clear hT hoc q1
                go_upto_region 32 with (go_at_call 26; refine hrel.mono ?_; rintro e w5 ⟨f5, v5, rfl, S5, O5, t5⟩)
                have R5 := Lib.hid (O.out.two t5 hnb.out.1 hnb.out.2)
                have B5 := Lib.hid (hB.out.trans (t5.below (by omega) (by omega) hRw))
                have hT5 : Hid (∃ T f, TabIs w5 TB b1 b2' T f ∧ FirstOk (k1, k2, k3) T (ord.drop (m + 1)) ∧ Fit T j j) := Lib.hid ⟨_, f5, S5, q2, Z2⟩
                have hmv : Hid (∀ q, Hid (∃ T f, TabIs (w5.drewN q) TB b1 b2' T f ∧ FirstOk (k1, k2, k3) T (ord.drop (m + 1)) ∧ Fit T j j) ∧ Hid (ReadN (w5.drewN q) (.slice (some ⟨ga, oa, none⟩) no c11) ord) ∧ Hid (RowKit.Below R W (w5.drewN q))) := Lib.hid fun q => by
                  have hb : RowKit.Below w5.heap.size w5 (w5.drewN q) := below_of_grown (grown_drewN w5 q none) (by simp) (Nat.le_refl _)
                  exact ⟨Lib.hid ⟨_, f5, S5.below hb (Nat.le_refl _), q2, Z2⟩, Lib.hid (R5.out.below hb (Nat.le_refl _)), Lib.hid (B5.out.trans (hb.mono (by have := B5.out.size; omega)))⟩
                by_cases hlast : m + 1 < no
                · have c1 : ord[m + 1]? = some (ord.getD (m + 1) 0) := by
                    rw [List.getD_eq_getElem?_getD, List.getElem?_eq_getElem (show m + 1 < ord.length by have := hno.out; omega)]
                    rfl
                  have hd1 : (ord.drop (m + 1)).head?.toList = [ord.getD (m + 1) 0] := by
                    rw [List.head?_drop, c1]
                    rfl
                  rw [hd1] at O5
                  obtain ⟨g5, c5, rfl, h5, l5, e5⟩ := own_one O5
                  obtain ⟨gcs, gty, gfr, hgk⟩ : ∃ cs ty fr, wr.heap[ga]? = some (.cells cs ty fr) := by
                    rcases O.out.2 with ⟨h, _⟩ | ⟨g, cap, h, _, _, _, h4, _⟩
                    · cases h
                    · cases h; exact h4
                  have cn := (t5.cellKeep (p := ⟨ga, oa + (m + 1), none⟩) hgl (fun e => hnb.out.1 _ _ _ ((show ga = b1 from e) ▸ hgk)) (fun e => hnb.out.2 _ _ _ ((show ga = b2' from e) ▸ hgk))).trans (hoc'.out (m + 1) (by have := hno.out; omega))
                  clear hgk
                  obtain ⟨y, hy⟩ : ∃ y, ord.getD (m + 1) 0 = y := ⟨_, rfl⟩
                  rw [hy] at cn e5
                  have hl1 : (m : Int) + 1 < (no : Int) := by omega
                  have hl2 : ((m : Int) + 1 == (no : Int)) = false := by simpa using (by omega : ¬ (m : Int) + 1 = (no : Int))
                  have hl3 : ((m : Int) + 1).toNat = m + 1 := by omega
                  have hl4 : (0 : Int) ≤ (m : Int) + 1 := by omega
                  have hl5 : IntKind.i64.wrap ((m : Int) + 1) = (m : Int) + 1 := by rw [IntKind.wrap_i64]; omega
                  clear hd1 c1 hy t5 S5 O5 q2 cm
                  first | go_quiet (first | fail) | fail
                  obtain ⟨X1, X2, X3⟩ := hmv.out nq
                  go_wp2
                  go_roundw
                  case rel => exact ⟨m + 1, by go_num, by omega, X1, X2, X3⟩
                  case measure => simp [intOf]; omega
                · have hd1 : (ord.drop (m + 1)).head?.toList = [] := by
                    rw [List.drop_of_length_le (by have := hno.out; omega)]
                    rfl
                  rw [hd1] at O5
                  obtain ⟨a5, c5, rfl, -⟩ := own_nums O5
                  have hl1 : ¬ (m : Int) + 1 < (no : Int) := by omega
                  have hl0 : decide ((m : Int) + 1 < (no : Int)) = false := by simpa using hl1
                  have hl2 : ((m : Int) + 1 == (no : Int)) = true := by simpa using (by omega : (m : Int) + 1 = (no : Int))
                  have hl5 : IntKind.i64.wrap ((m : Int) + 1) = (m : Int) + 1 := by rw [IntKind.wrap_i64]; omega
                  have hl6 : (([] : List Int).length : Int) = 0 := rfl
                  clear hd1 t5 S5 O5 q2 cm
                  first | go_quiet (first | fail) | fail
                  obtain ⟨X1, X2, X3⟩ := hmv.out nq
                  go_wp2
                  go_roundw
                  case rel => exact ⟨m + 1, by go_num, by omega, X1, X2, X3⟩
                  case measure => simp [intOf]; omega
              · obtain rfl : m = no := by omega
                go_wp2
                go_ret
                exact ⟨rfl, hB.out⟩
end Go.Proofs.Ytilknhackmccpaa
