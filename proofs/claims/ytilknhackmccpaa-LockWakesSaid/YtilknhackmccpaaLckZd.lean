/- Package lock: LockWakes, its walk. -/
import Derived.Test.YtilknhackmccpaaLckZc
set_option linter.unusedVariables false
set_option linter.unusedSimpArgs false
namespace Go.Proofs.Ytilknhackmccpaa
open Go.RowKit Go.Sort Go.Lib Go.Maps

theorem flds_h : (Try.prog.fieldsOf 54).toList.map (fun f => (f.name, f.type, f.offset)) = [("Key", 38, 0), ("Mode", 5, 3)] := by kernel_rfl
theorem eqin_key (d : Nat) (a b : Ky) (w : World) : (Op.equalIn (d + 2) 38 (.agg #[.int .u8 a.1, .int .u32 a.2.1, .int .u32 a.2.2]) (.agg #[.int .u8 b.1, .int .u32 b.2.1, .int .u32 b.2.2])).run Try.prog w = .ok (keyB a b) w := by
  obtain ⟨a1, a2, a3⟩ := a
  obtain ⟨c1, c2, c3⟩ := b
  obtain ⟨f, g, e, hl, ⟨f1, f2, f3⟩, ⟨g1, g2, g3⟩, e1, e2, e3⟩ := fields_three flds_k
  simp only
  rw [run_equalIn_agg w (d + 1) _ _ _ (by kernel_rfl) (by kernel_rfl), hl]
  simp only [Op.eqFields, f1, f2, f3, g1, g2, g3, e1, e2, e3]
  have h1 : ∀ x y z w, (Go.part 5 #[.int .u8 x, .int .u32 y, .int .u32 z] 0).run Try.prog w = .ok (.int .u8 x) w := fun _ _ _ _ => by kernel_rfl
  have h2 : ∀ x y z w, (Go.part 23 #[.int .u8 x, .int .u32 y, .int .u32 z] 1).run Try.prog w = .ok (.int .u32 y) w := fun _ _ _ _ => by kernel_rfl
  have h3 : ∀ x y z w, (Go.part 23 #[.int .u8 x, .int .u32 y, .int .u32 z] 2).run Try.prog w = .ok (.int .u32 z) w := fun _ _ _ _ => by kernel_rfl
  have i1 : ∀ x y w, (Op.equalIn (d + 1) 5 (.int .u8 x) (.int .u8 y)).run Try.prog w = .ok (x == y) w := fun _ _ w => run_equalIn_int w d _ _ _ _ _ Try.underlying5
  have i2 : ∀ x y w, (Op.equalIn (d + 1) 23 (.int .u32 x) (.int .u32 y)).run Try.prog w = .ok (x == y) w := fun _ _ w => run_equalIn_int w d _ _ _ _ _ Try.underlying23
  simp only [Sem.run_bind, h1, h2, h3, i1, i2, Result.andThen_ok, Sem.run_ite, Sem.run_pure, keyB]
  cases (a1 == c1) <;> cases (a2 == c2) <;> cases (a3 == c3) <;> simp
def holdB (a b : Ky × Int) : Bool := keyB a.1 b.1 && (a.2 == b.2)
theorem holdB_iff (a b : Ky × Int) : holdB a b = true ↔ a = b := by
  obtain ⟨a, x⟩ := a
  obtain ⟨b, y⟩ := b
  simp [holdB, keyB_iff]
theorem eqin_hold (a b : Ky × Int) (w : World) : (Op.equalIn 10000 54 (holdV a) (holdV b)).run Try.prog w = .ok (holdB a b) w := by
  obtain ⟨⟨a1, a2, a3⟩, a4⟩ := a
  obtain ⟨⟨c1, c2, c3⟩, c4⟩ := b
  obtain ⟨f, g, hl, f1, f2, f3, g1, g2, g3⟩ := fields_two flds_h
  simp only [holdV]
  rw [run_equalIn_agg w 9999 _ _ _ (by kernel_rfl) (by kernel_rfl), hl]
  simp only [Op.eqFields, f1, f2, f3, g1, g2, g3]
  have h1 : ∀ x y z m w, (Go.part 38 #[.int .u8 x, .int .u32 y, .int .u32 z, .int .u8 m] 0).run Try.prog w = .ok (.agg #[.int .u8 x, .int .u32 y, .int .u32 z]) w := fun _ _ _ _ _ => by kernel_rfl
  have h2 : ∀ x y z m w, (Go.part 5 #[.int .u8 x, .int .u32 y, .int .u32 z, .int .u8 m] 3).run Try.prog w = .ok (.int .u8 m) w := fun _ _ _ _ _ => by kernel_rfl
  have i1 : ∀ w, (Op.equalIn 9999 38 (.agg #[.int .u8 a1, .int .u32 a2, .int .u32 a3]) (.agg #[.int .u8 c1, .int .u32 c2, .int .u32 c3])).run Try.prog w = .ok (keyB (a1, a2, a3) (c1, c2, c3)) w := fun w => eqin_key 9997 (a1, a2, a3) (c1, c2, c3) w
  have i2 : ∀ x y w, (Op.equalIn 9999 5 (.int .u8 x) (.int .u8 y)).run Try.prog w = .ok (x == y) w := fun _ _ w => run_equalIn_int w 9998 _ _ _ _ _ Try.underlying5
  simp only [Sem.run_bind, h1, h2, i1, i2, Result.andThen_ok, Sem.run_ite, Sem.run_pure, holdB]
  cases keyB (a1, a2, a3) (c1, c2, c3) <;> cases (a4 == c4) <;> simp
theorem neq_hold (a b : Ky × Int) (w : World) : (binOp .neq 54 (holdV a) (holdV b)).run Try.prog w = .ok (.bool (!holdB a b)) w := by
  have h := eqin_hold a b w
  unfold holdV at h ⊢
  rw [run_neq_struct, h]
  rfl
theorem eql_hold (a b : Ky × Int) (w : World) : (binOp .eql 54 (holdV a) (holdV b)).run Try.prog w = .ok (.bool (holdB a b)) w := by
  have h := eqin_hold a b w
  unfold holdV at h ⊢
  rw [run_eql_struct, h]
  rfl
/-- What one waits for, or the zero. -/
def wOf (T : Tb) (x : Int) : Ky × Int := (T.W x).getD ((0, 0, 0), 0)
theorem mine_none {T : Tb} {t : Int} (h : ∀ k, modeL (T.F k).1 t = 0) : holdsL T t = [] := by
  rw [holdsL, List.filterMap_eq_nil_iff]
  intro k _
  rw [if_pos (h k)]
/-- What LockWakes looks at, of one. -/
theorem wakes_one {T : Tb} (I : Inv T) (t x : Int) : (x = t → ((relT T t).1.W x).isSome = false ∧ x ∉ (relT T t).2) ∧
    (x ≠ t → x ∈ (relT T t).2 → ((relT T t).1.W x).isSome = false ∧ (wOf T x).2 ≠ 0 ∧ modeL ((relT T t).1.F (wOf T x).1).1 x = (wOf T x).2) ∧
    (x ≠ t → x ∉ (relT T t).2 → wOf (relT T t).1 x = wOf T x) := by
  have S := rel_spec I t
  refine ⟨fun e => ?_, fun hne hm => ?_, fun hne hm => ?_⟩
  · subst e
    exact ⟨by rw [S.w, if_pos (.inl rfl)]; rfl, fun h => (S.who x h).1 rfl⟩
  · obtain ⟨_, k, m, h1, h2⟩ := S.who x hm
    refine ⟨by rw [S.w, if_pos (.inr hm)]; rfl, ?_, ?_⟩
    · have := ((I.lk k).q.modes _ ((I.line k x m).2 h1))
      simp only at this
      simp only [wOf, h1, Option.getD_some]
      omega
    · simp only [wOf, h1, Option.getD_some]
      exact h2
  · rw [wOf, S.w, if_neg (by simp [hne, hm])]
    rfl
theorem below_drewN {B q : Nat} {w w' : World} (h : RowKit.Below B w w') : RowKit.Below B w (w'.drewN q) := ⟨h.os, h.tape, h.output, h.size, h.block⟩
theorem neq_hold_same (a b c d : Int) (w : World) : (binOp .neq 54 (.agg #[.int .u8 a, .int .u32 b, .int .u32 c, .int .u8 d]) (.agg #[.int .u8 a, .int .u32 b, .int .u32 c, .int .u8 d])).run Try.prog w = .ok (.bool false) w := by
  have h := neq_hold ((a, b, c), d) ((a, b, c), d) w
  rw [(holdB_iff _ _).2 rfl] at h
  exact h

set_option maxRecDepth 100000 in
set_option maxHeartbeats 16000000 in
theorem wakes_walk (W : World) (l : List Lop) (v : Value) (hv : LopsIn W v l) (tx : Int) (htx : U tx) :
    Calls Try.prog 10 #[v, .int .u32 tx] W fun e w' => e = .returned (.bool true) ∧ RowKit.Below W.heap.size W w' := by
  obtain ⟨a, cap, rfl, hok, -⟩ := id hv
  obtain ⟨n, hn⟩ : ∃ n, l.length = n := ⟨_, rfl⟩
  obtain ⟨R, hR⟩ : ∃ R, W.heap.size = R := ⟨_, rfl⟩
  obtain ⟨ih, hih, y0, y1, y2⟩ := info_parts infoHold
  have hkn := known_l W
  have hv2 : ∀ w', RowKit.Below W.heap.size W w' → LopsIn w' (.slice a n cap) l := fun w' b => by
    rw [← hn]
    obtain ⟨a', c', e, h1, h2⟩ := hv
    cases e
    refine ⟨a, cap, rfl, h1, fun hne => ?_⟩
    obtain ⟨eb, off, e1, e2, e3⟩ := h2 hne
    exact ⟨eb, off, e1, Nat.lt_of_lt_of_le e2 b.size, fun i o hi j v hj => (b.cell (p := ⟨eb, off + i * 6 + j, none⟩) e2).trans (e3 i o hi j v hj)⟩
  rw [hR] at hkn hv2 ⊢
  have hVV := Lib.hid hv2
  have hUw : Hid (∀ x ∈ canon (l.map Lop.txn), U x) := Lib.hid fun x hx => by
    obtain ⟨o, ho, rfl⟩ := List.mem_map.1 (mem_canon.1 hx)
    exact (hok o ho).txn
  rw [hn]
  clear hv hv2 hok
  by_cases h40 : 40 < n
  · have h40i : (40 : Int) < (n : Int) := by omega
    go_enter Try.func10, Try.ntmps10
    go_wp2_with (go_at_call 22; refine hkn.mono ?_; rintro e w2 ⟨rfl, b2⟩)
    go_ret
    exact ⟨rfl, b2⟩
  · have h40i : ¬ (40 : Int) < (n : Int) := by omega
    have I := Lib.hid (inv_run l)
    go_enter Try.func10, Try.ntmps10
    go_upto_region 3 with (go_at_call 22; refine hkn.mono ?_; rintro e w2 ⟨rfl, b2⟩)
    have B2 := Lib.hid b2
    have hrun := run_u w2 l (.slice a n cap) (hVV.out w2 b2) (by omega)
    have l2 : R ≤ w2.heap.size := by rw [← hR]; exact b2.size
    clear b2 hkn
    go_upto_region 6 with (go_at_call 27; refine hrun.mono ?_; rintro e w5 ⟨TB, b1, b2', f, vw, rfl, hb1, hb2, S5, Z5, R5, B5⟩)
    obtain ⟨who, hwho⟩ : ∃ x, canon (l.map Lop.txn) = x := ⟨_, rfl⟩
    obtain ⟨T, hT⟩ : ∃ x, runT l = x := ⟨_, rfl⟩
    rw [hT] at S5 Z5 I
    rw [hwho] at R5 hUw
    have hwl : who.length ≤ 40 := by rw [← hwho]; exact Nat.le_trans (canon_length _) (by rw [List.length_map]; omega)
    obtain ⟨a6, c6, rfl, -⟩ := R5.nums
    obtain ⟨m, hm⟩ : ∃ m, who.length = m := ⟨_, rfl⟩
    rw [hm] at hwl R5 ⊢
    have B25 := Lib.hid (B2.out.trans (B5.mono l2))
    have hlo : R ≤ b1 ∧ R ≤ b2' := by omega
    obtain ⟨G, hG⟩ : ∃ G, w5.heap.size = G := ⟨_, rfl⟩
    have hRG : R ≤ G := by have := B5.size; omega
    have hbG : b1 < G ∧ b2' < G := by rw [← hG]; exact ⟨S5.locks.lt, S5.waits.lt⟩
    have hBG0 : Hid (RowKit.Below G w5 w5) := Lib.hid (RowKit.Below.refl _ _)
    have hO0 : Hid (w5.ownsRow G 54 4 (.slice none 0 0) 0 (hCells ((who.take 0).map (wOf T)))) := Lib.hid ⟨rfl, .inl ⟨rfl, rfl⟩⟩
    replace S5 := Lib.hid S5
    replace Z5 := Lib.hid Z5
    replace R5 := Lib.hid R5
    replace hm := Lib.hid hm
    replace hG := Lib.hid hG
    clear B5 hrun l2 hb1 hb2 B2 hwho hT hVV
    go_wp2
    go_loopw [7, 8] (fun v7 v8 wr => ∃ i : Nat, v8 = .int .i64 i ∧ i ≤ m ∧ Hid (wr.ownsRow G 54 4 v7 i (hCells ((who.take i).map (wOf T)))) ∧ Hid (RowKit.Below G w5 wr)) (fun _ v8 _ => m - (intOf v8).toNat)
    case atStart => exact ⟨0, rfl, Nat.zero_le _, hO0, hBG0⟩
    case round =>
      clear hO0 hBG0
      obtain ⟨i, rfl, hi, O, hB⟩ := hrel
      by_cases him : i < m
      · have hii : (i : Int) < (m : Int) := by omega
        have Sr := S5.out.below hB.out (by have := hG.out; omega)
        have Rr := R5.out.below hB.out (by have := hG.out; omega)
        obtain ⟨x, hx⟩ : ∃ x, who[i]? = some x := ⟨_, List.getElem?_eq_getElem (by have := hm.out; omega)⟩
        have hxd : who.getD i 0 = x := by rw [List.getD_eq_getElem?_getD, hx]; rfl
        obtain ⟨ga, oa, rfl, hgl, hoc⟩ : ∃ eb off, a6 = some ⟨eb, off, none⟩ ∧ eb < wr.heap.size ∧ ∀ j, j < who.length → wr.cell? ⟨eb, off + j, none⟩ = some (.int .u32 (who.getD j 0)) := by
          obtain ⟨a, c, e, hN⟩ := Rr.nums
          cases e
          exact nums_at hN (i := i) (by have := hm.out; omega)
        have ci := hoc i (by have := hm.out; omega)
        rw [hxd] at ci
        have hWt := waits_t Sr x (hUw.out x (List.mem_of_getElem? hx))
        have hGw : G ≤ wr.heap.size := by have := hB.out.size; have := hG.out; omega
        have hst : (who.take (i + 1)).map (wOf T) = (who.take i).map (wOf T) ++ [wOf T x] := by
          rw [List.take_add_one, hx, List.map_append]; rfl
        have hwo : (T.W x).getD ((0, 0, 0), 0) = wOf T x := rfl
        rw [hwo] at hWt
        obtain ⟨⟨⟨h1, h2, h3⟩, h4⟩, hh⟩ : ∃ h, wOf T x = h := ⟨_, rfl⟩
        obtain ⟨bw, hbw⟩ : ∃ b, (T.W x).isSome = b := ⟨_, rfl⟩
        rw [hh, hbw] at hWt
        rw [hh] at hst
        simp only [holdV] at hWt
        replace hst := Lib.hid hst
        clear Sr Rr hoc hxd hh hbw hwo hx
        go_upto_region 11 with (go_at_call 30; refine hWt.mono ?_; rintro e w6 ⟨rfl, b6⟩)
        have O6 := O.out.kept (grew b6) (Classical.em _)
        have B6 := hB.out.trans (b6.mono hGw)
        have hR6 : G ≤ w6.heap.size := Nat.le_trans hGw b6.size
        have nb := heap_alloc_new w6 (.cells #[.int .u8 h1, .int .u32 h2, .int .u32 h3, .int .u8 h4] 54)
        have O7 := O6.alloc (.cells #[.int .u8 h1, .int .u32 h2, .int .u32 h3, .int .u8 h4] 54)
        have B7 := B6.alloc hR6 (.cells #[.int .u8 h1, .int .u32 h2, .int .u32 h3, .int .u8 h4] 54)
        obtain ⟨KB, hKB⟩ : ∃ x, x = w6.heap.size := ⟨_, rfl⟩
        obtain ⟨w7, hw7⟩ : ∃ x, x = w6.alloc (.cells #[.int .u8 h1, .int .u32 h2, .int .u32 h3, .int .u8 h4] 54) := ⟨_, rfl⟩
        have hR7 : G ≤ w7.heap.size := by rw [hw7]; simp; omega
        rw [← hw7] at nb O7 B7 ⊢
        rw [← hKB] at nb ⊢
        have k0 : w7.cell? ⟨KB, 0, none⟩ = some (.int .u8 h1) := by rw [cell_of_heap nb]; rfl
        have k1 : w7.cell? ⟨KB, 1, none⟩ = some (.int .u32 h2) := by rw [cell_of_heap nb]; rfl
        have k2 : w7.cell? ⟨KB, 2, none⟩ = some (.int .u32 h3) := by rw [cell_of_heap nb]; rfl
        have k3 : w7.cell? ⟨KB, 3, none⟩ = some (.int .u8 h4) := by rw [cell_of_heap nb]; rfl
        obtain ⟨a8, c8, rfl⟩ := row_shape O7
        have hnewc := Lib.hid (heap_alloc_new w7 (.cells #[.int .u8 h1, .int .u32 h2, .int .u32 h3, .int .u8 h4] 54))
        clear O O6 B6 hB ci hWt hKB hw7 b6 nb
        go_wp2_with (first
          | (refine wpList_append_lies _ (by rfl) _ _ _ (by rfl) G 54 ih _ 4 16 Try.underlying50 hih y0 y1 y2 rfl (by omega) (.slice a8 i c8) i (hCells ((who.take i).map (wOf T))) (by rfl) (O7.alloc _)
                  ⟨w7.heap.size, 0, none⟩ 1 1 (hRow ((h1, h2, h3), h4)) (by rfl) (by rfl) (World.news_of_block hnewc.out) (by simp [Value.oneCell', hRow])
                  (by omega) (by unfold maxLen; omega) (by omega) (by simp; omega) (w7.heap.size + 1) (by simp) ?_
             intro gg gcap w8 hown hgrow hat hltg))
        have B8 : RowKit.Below G w5 w8 := (B7.alloc hR7 _).trans (below_of_grown hgrow (fun j hj => (row_ge O7 j hj).1) (by simp; omega))
        go_roundw
        case rel => exact ⟨i + 1, by go_num, by omega, Lib.hid (by rw [hst.out, hCells_snoc]; exact hown), Lib.hid B8⟩
        case measure => simp [intOf]; omega
      · obtain rfl : i = m := by omega
        obtain ⟨a7, c7, rfl⟩ := row_shape O.out
        have hcell0 : ∀ j x, (who.map (wOf T))[j]? = some x → ∃ g, a7 = some ⟨g, 0, none⟩ ∧ G ≤ g ∧ g < wr.heap.size ∧ wr.cell? ⟨g, j * 4, none⟩ = some (.int .u8 x.1.1) ∧ wr.cell? ⟨g, j * 4 + 1, none⟩ = some (.int .u32 x.1.2.1) ∧ wr.cell? ⟨g, j * 4 + 2, none⟩ = some (.int .u32 x.1.2.2) ∧ wr.cell? ⟨g, j * 4 + 3, none⟩ = some (.int .u8 x.2) := fun j x hj => by
          have O2 := O.out
          rw [List.take_of_length_le (by have := hm.out; omega)] at O2
          obtain ⟨g, cap, e, h1, h2, h3⟩ := hold_cells O2 hj
          cases e
          exact ⟨g, rfl, h1, h2, h3⟩
        have Sr := S5.out.below hB.out (by have := hG.out; omega)
        have Rr := R5.out.below hB.out (by have := hG.out; omega)
        have hGw : G ≤ wr.heap.size := by have := hB.out.size; have := hG.out; omega
        have Zr := (relT_fit Z5.out I.out.rise tx).1
        have hrel := release_u Sr Z5.out (by omega) tx htx
        have hone := fun x => wakes_one I.out tx x
        have hmine : holdsL (relT T tx).1 tx = [] := mine_none (rel_spec I.out tx).mine
        have Ir := (rel_spec I.out tx).inv
        obtain ⟨T2, hT2⟩ : ∃ x, (relT T tx).1 = x := ⟨_, rfl⟩
        obtain ⟨wk, hwk⟩ : ∃ x, (relT T tx).2 = x := ⟨_, rfl⟩
        rw [hT2] at Zr hrel hmine Ir
        rw [hwk] at hrel
        simp only [hT2, hwk] at hone
        have Br := Lib.hid (B25.out.trans (hB.out.mono (by have := hG.out; omega)))
        have hRw : R ≤ wr.heap.size := by omega
        have hnb : (∀ cs ty fr, wr.heap[b1]? ≠ some (.cells cs ty fr)) ∧ ∀ cs ty fr, wr.heap[b2']? ≠ some (.cells cs ty fr) := ⟨Sr.locks.nocells, Sr.waits.nocells⟩
        replace hone := Lib.hid hone
        replace hnb := Lib.hid hnb
        replace hcell0 := Lib.hid hcell0
        replace Zr := Lib.hid Zr
        replace Ir := Lib.hid Ir
        replace Rr := Lib.hid Rr
        clear Sr hB O S5 R5 Z5 I B25 hT2 hwk
        go_upto_region 13 with (go_at_call 26; refine hrel.mono ?_; rintro e w8 ⟨f8, v8, rfl, S8, O8, t8⟩)
        have R8 := Rr.out.two t8 hnb.out.1 hnb.out.2
        have K8 := readN_own O8
        obtain ⟨a11, c11, rfl, -⟩ := K8.nums
        obtain ⟨nk, hnk⟩ : ∃ m, wk.length = m := ⟨_, rfl⟩
        have hkl : nk ≤ 9223372036854775807 := by
          rw [← hnk]
          rcases K8.2 with ⟨_, h⟩ | ⟨g, cap, _, h1, h2, _⟩
          · rw [h]; exact Nat.zero_le _
          · exact Nat.le_trans h1 (Nat.le_trans h2 (by decide))
        rw [hnk] at K8 ⊢
        have B8 := Br.out.trans (t8.below hlo.1 hlo.2 hRw)
        have hcell8 : ∀ j x, (who.map (wOf T))[j]? = some x → ∃ g, a7 = some ⟨g, 0, none⟩ ∧ g < w8.heap.size ∧ w8.cell? ⟨g, j * 4, none⟩ = some (.int .u8 x.1.1) ∧ w8.cell? ⟨g, j * 4 + 1, none⟩ = some (.int .u32 x.1.2.1) ∧ w8.cell? ⟨g, j * 4 + 2, none⟩ = some (.int .u32 x.1.2.2) ∧ w8.cell? ⟨g, j * 4 + 3, none⟩ = some (.int .u8 x.2) := fun j x hj => by
          obtain ⟨g, e, h1, h2, h3, h4, h5, h6⟩ := hcell0.out j x hj
          have n1 : g ≠ b1 := by omega
          have n2 : g ≠ b2' := by omega
          exact ⟨g, e, Nat.lt_of_lt_of_le h2 t8.size, (t8.cellKeep (p := ⟨g, j * 4, none⟩) h2 n1 n2).trans h3, (t8.cellKeep (p := ⟨g, j * 4 + 1, none⟩) h2 n1 n2).trans h4, (t8.cellKeep (p := ⟨g, j * 4 + 2, none⟩) h2 n1 n2).trans h5, (t8.cellKeep (p := ⟨g, j * 4 + 3, none⟩) h2 n1 n2).trans h6⟩
        have hHd := holds_u S8 (by have := Zr.out.keys; omega) tx
        rw [hmine] at hHd
        simp only [List.length_nil] at hHd
        replace S8 := Lib.hid S8
        replace R8 := Lib.hid R8
        replace K8 := Lib.hid K8
        replace B8 := Lib.hid B8
        replace hnk := Lib.hid hnk
        replace hcell8 := Lib.hid hcell8
        have l8 : R ≤ w8.heap.size := Nat.le_trans hRw t8.size
        clear O8 t8 hrel hcell0 hnb Rr Br hmine
        go_upto_region 15 with (go_at_call 28; refine hHd.mono ?_; rintro e w9 ⟨v9, rfl, O9, b9⟩; obtain ⟨a9, c9, rfl⟩ := row_shape O9)
        have S9 := Lib.hid (S8.out.below b9 (Nat.le_refl _))
        have R9 := Lib.hid (R8.out.below b9 (Nat.le_refl _))
        have K9 := Lib.hid (K8.out.below b9 (Nat.le_refl _))
        have B9 := Lib.hid (B8.out.trans (b9.mono l8))
        have H9 : Hid (∀ j x, (who.map (wOf T))[j]? = some x → ∃ g, a7 = some ⟨g, 0, none⟩ ∧ g < w9.heap.size ∧ w9.cell? ⟨g, j * 4, none⟩ = some (.int .u8 x.1.1) ∧ w9.cell? ⟨g, j * 4 + 1, none⟩ = some (.int .u32 x.1.2.1) ∧ w9.cell? ⟨g, j * 4 + 2, none⟩ = some (.int .u32 x.1.2.2) ∧ w9.cell? ⟨g, j * 4 + 3, none⟩ = some (.int .u8 x.2)) := Lib.hid fun j x hj => by
          obtain ⟨g, e, h2, h3, h4, h5, h6⟩ := hcell8.out j x hj
          exact ⟨g, e, Nat.lt_of_lt_of_le h2 b9.size, (b9.cell (p := ⟨g, j * 4, none⟩) h2).trans h3, (b9.cell (p := ⟨g, j * 4 + 1, none⟩) h2).trans h4, (b9.cell (p := ⟨g, j * 4 + 2, none⟩) h2).trans h5, (b9.cell (p := ⟨g, j * 4 + 3, none⟩) h2).trans h6⟩
        have l9 : R ≤ w9.heap.size := Nat.le_trans l8 b9.size
        obtain ⟨G9, hG9⟩ : ∃ G, w9.heap.size = G := ⟨_, rfl⟩
        rw [hG9] at l9
        replace hG9 := Lib.hid hG9
        have hB90 : Hid (RowKit.Below G9 w9 w9) := Lib.hid (RowKit.Below.refl _ _)
        clear O9 b9 hHd hcell8 S8 R8 K8 B8 l8
        go_wp2
        go_loopw [12] (fun v12 wr => ∃ j : Nat, v12 = .int .i64 j ∧ j ≤ i ∧ Hid (RowKit.Below G9 w9 wr)) (fun v12 _ => i - (intOf v12).toNat)
        case atStart => exact ⟨0, rfl, Nat.zero_le _, hB90⟩
        case round =>
          clear hB90
          obtain ⟨j, rfl, hj, hB⟩ := hrel
          by_cases hjm : j < i
          · have hjj : (j : Int) < (i : Int) := by omega
            have Sr := S9.out.below hB.out (by have := hG9.out; omega)
            have Rr := R9.out.below hB.out (by have := hG9.out; omega)
            have Kr := K9.out.below hB.out (by have := hG9.out; omega)
            obtain ⟨x, hx⟩ : ∃ x, who[j]? = some x := ⟨_, List.getElem?_eq_getElem (by have := hm.out; omega)⟩
            have hxd : who.getD j 0 = x := by rw [List.getD_eq_getElem?_getD, hx]; rfl
            obtain ⟨ga, oa, rfl, hgl, hoc⟩ : ∃ eb off, a6 = some ⟨eb, off, none⟩ ∧ eb < wr.heap.size ∧ ∀ j, j < who.length → wr.cell? ⟨eb, off + j, none⟩ = some (.int .u32 (who.getD j 0)) := by
              obtain ⟨a, c, e, hN⟩ := Rr.nums
              cases e
              exact nums_at hN (i := j) (by have := hm.out; omega)
            have ci := hoc j (by have := hm.out; omega)
            rw [hxd] at ci
            have hWt := waits_t Sr x (hUw.out x (List.mem_of_getElem? hx))
            have hGw : G9 ≤ wr.heap.size := by have := hB.out.size; have := hG9.out; omega
            have ho1 := hone.out x
            obtain ⟨gh, rfl, hgh, d0, d1, d2, d3⟩ := H9.out j (wOf T x) (by rw [List.getElem?_map, hx]; rfl)
            have lh : gh < G9 := by have := hG9.out; omega
            have hwo : (T2.W x).getD ((0, 0, 0), 0) = wOf T2 x := rfl
            rw [hwo] at hWt
            obtain ⟨⟨⟨h1, h2, h3⟩, h4⟩, hh⟩ : ∃ h, wOf T2 x = h := ⟨_, rfl⟩
            obtain ⟨⟨⟨q1, q2, q3⟩, q4⟩, hq⟩ : ∃ h, wOf T x = h := ⟨_, rfl⟩
            obtain ⟨bw, hbw⟩ : ∃ b, (T2.W x).isSome = b := ⟨_, rfl⟩
            rw [hh, hbw] at hWt
            rw [hh, hbw, hq] at ho1
            rw [hq] at d0 d1 d2 d3
            simp only at d0 d1 d2 d3
            simp only [holdV] at hWt
            obtain ⟨hA, hBc, hC⟩ := ho1
            replace hA := Lib.hid hA
            replace hBc := Lib.hid hBc
            replace hC := Lib.hid hC
            replace Sr := Lib.hid Sr
            replace Kr := Lib.hid Kr
            have e0 := Lib.hid ((hB.out.cell (p := ⟨gh, j * 4, none⟩) lh).trans d0)
            have e1 := Lib.hid ((hB.out.cell (p := ⟨gh, j * 4 + 1, none⟩) lh).trans d1)
            have e2 := Lib.hid ((hB.out.cell (p := ⟨gh, j * 4 + 2, none⟩) lh).trans d2)
            have e3 := Lib.hid ((hB.out.cell (p := ⟨gh, j * 4 + 3, none⟩) lh).trans d3)
            have ci' := Lib.hid ci
            have hgw : gh < wr.heap.size := by omega
            clear Rr hoc hxd hh hbw hq hwo hx d0 d1 d2 d3 hgh
            go_upto_region 19 with (go_at_call 30; refine hWt.mono ?_; rintro e w10 ⟨rfl, b10⟩)
            have hR10 : G9 ≤ w10.heap.size := Nat.le_trans hGw b10.size
            have nb := heap_alloc_new w10 (.cells #[.int .u8 h1, .int .u32 h2, .int .u32 h3, .int .u8 h4] 54)
            have Ba := (b10.trans ((below_alloc w10 (.cells #[.int .u8 h1, .int .u32 h2, .int .u32 h3, .int .u8 h4] 54)).mono b10.size))
            obtain ⟨KB, hKB⟩ : ∃ x, x = w10.heap.size := ⟨_, rfl⟩
            obtain ⟨w11, hw11⟩ : ∃ x, x = w10.alloc (.cells #[.int .u8 h1, .int .u32 h2, .int .u32 h3, .int .u8 h4] 54) := ⟨_, rfl⟩
            rw [← hw11] at nb Ba ⊢
            rw [← hKB] at nb ⊢
            have lKB : KB < w11.heap.size := (Array.getElem?_eq_some_iff.1 nb).1
            obtain ⟨nw, hnw⟩ : ∃ m, w11.heap.size = m := ⟨_, rfl⟩
            have S11 := Lib.hid (Sr.out.below Ba (Nat.le_refl _))
            have K11 := Lib.hid (Kr.out.below Ba (Nat.le_refl _))
            have B11 := Lib.hid (hB.out.trans (Ba.mono hGw))
            have hRn : G9 ≤ nw := by have := Ba.size; omega
            -- what is read from here on
            have hkp : Hid (∀ w', RowKit.Below nw w11 w' → w'.cell? ⟨ga, oa + j, none⟩ = some (.int .u32 x) ∧ w'.cell? ⟨gh, j * 4, none⟩ = some (.int .u8 q1) ∧ w'.cell? ⟨gh, j * 4 + 1, none⟩ = some (.int .u32 q2) ∧ w'.cell? ⟨gh, j * 4 + 2, none⟩ = some (.int .u32 q3) ∧ w'.cell? ⟨gh, j * 4 + 3, none⟩ = some (.int .u8 q4) ∧ w'.cell? ⟨KB, 0, none⟩ = some (.int .u8 h1) ∧ w'.cell? ⟨KB, 1, none⟩ = some (.int .u32 h2) ∧ w'.cell? ⟨KB, 2, none⟩ = some (.int .u32 h3) ∧ w'.cell? ⟨KB, 3, none⟩ = some (.int .u8 h4)) := Lib.hid fun w' b => by
              rw [← hnw] at b
              have l1 : gh < w11.heap.size := by omega
              have l2 : ga < w11.heap.size := by have := Ba.size; omega
              have f0 := Ba.cell (p := ⟨gh, j * 4, none⟩) hgw
              have f1 := Ba.cell (p := ⟨gh, j * 4 + 1, none⟩) hgw
              have f2 := Ba.cell (p := ⟨gh, j * 4 + 2, none⟩) hgw
              have f3 := Ba.cell (p := ⟨gh, j * 4 + 3, none⟩) hgw
              have f4 := Ba.cell (p := ⟨ga, oa + j, none⟩) hgl
              exact ⟨(b.cell (p := ⟨ga, oa + j, none⟩) l2).trans (f4.trans ci'.out),
                (b.cell (p := ⟨gh, j * 4, none⟩) l1).trans (f0.trans e0.out), (b.cell (p := ⟨gh, j * 4 + 1, none⟩) l1).trans (f1.trans e1.out), (b.cell (p := ⟨gh, j * 4 + 2, none⟩) l1).trans (f2.trans e2.out), (b.cell (p := ⟨gh, j * 4 + 3, none⟩) l1).trans (f3.trans e3.out),
                (b.cell (p := ⟨KB, 0, none⟩) lKB).trans (by rw [cell_of_heap nb]; rfl), (b.cell (p := ⟨KB, 1, none⟩) lKB).trans (by rw [cell_of_heap nb]; rfl), (b.cell (p := ⟨KB, 2, none⟩) lKB).trans (by rw [cell_of_heap nb]; rfl), (b.cell (p := ⟨KB, 3, none⟩) lKB).trans (by rw [cell_of_heap nb]; rfl)⟩
            have hBn0 : Hid (RowKit.Below nw w11 w11) := Lib.hid (RowKit.Below.refl _ _)
            have hin0 : Hid (false = decide (x ∈ wk.take 0)) := Lib.hid (by simp)
            replace nb := Lib.hid nb
            replace hnw := Lib.hid hnw
            clear b10 Ba hWt hKB hw11 Sr Kr hB hgl ci ci' e0 e1 e2 e3 hgw hR10
            go_wp2
            go_loopw [15, 16] (fun v15 v16 wr => ∃ (k : Nat) (b : Bool), v15 = .bool b ∧ v16 = .int .i64 k ∧ k ≤ nk ∧ Hid (b = decide (x ∈ wk.take k)) ∧ Hid (RowKit.Below nw w11 wr)) (fun _ v16 _ => nk - (intOf v16).toNat)
            case atStart => exact ⟨0, false, rfl, rfl, Nat.zero_le _, hin0, hBn0⟩
            case round =>
              clear hin0 hBn0
              obtain ⟨k, b, rfl, rfl, hk, hb, hB⟩ := hrel
              by_cases hkn : k < nk
              · have hkk : (k : Int) < (nk : Int) := by omega
                have Kr := K11.out.below hB.out (by have := hnw.out; omega)
                obtain ⟨y, hy⟩ : ∃ y, wk[k]? = some y := ⟨_, List.getElem?_eq_getElem (by have := hnk.out; omega)⟩
                have hyd : wk.getD k 0 = y := by rw [List.getD_eq_getElem?_getD, hy]; rfl
                obtain ⟨gk, ok, rfl, hkl, hkc⟩ : ∃ eb off, a11 = some ⟨eb, off, none⟩ ∧ eb < wr.heap.size ∧ ∀ j, j < wk.length → wr.cell? ⟨eb, off + j, none⟩ = some (.int .u32 (wk.getD j 0)) := by
                  obtain ⟨a, c, e, hN⟩ := Kr.nums
                  cases e
                  exact nums_at hN (i := k) (by have := hnk.out; omega)
                have ck := hkc k (by have := hnk.out; omega)
                rw [hyd] at ck
                have ci := (hkp.out _ hB.out).1
                have hst : Hid (wk.take (k + 1) = wk.take k ++ [y]) := Lib.hid (by rw [List.take_add_one, hy]; rfl)
                obtain ⟨bx, hbx⟩ : ∃ z, (y == x) = z := ⟨_, rfl⟩
                have hb2 : Hid ((b || bx) = decide (x ∈ wk.take (k + 1))) := Lib.hid (by
                  rw [hst.out, hb.out, ← hbx, Bool.eq_iff_iff]
                  simp only [Bool.or_eq_true, decide_eq_true_eq, beq_iff_eq, List.mem_append, List.mem_singleton]
                  exact ⟨fun h => h.imp id Eq.symm, fun h => h.imp id Eq.symm⟩)
                have hBq : Hid (∀ q, RowKit.Below nw w11 (wr.drewN q)) := Lib.hid fun q => below_drewN hB.out
                clear hkc hyd Kr hy hB
                cases b
                · go_upto_region 23 with fail
                  first | go_quiet (first | fail) | fail
                  have B2 := Lib.hid (hBq.out nq)
                  clear hbx
                  cases bx
                  · go_wp2
                    go_roundw
                    case rel => exact ⟨k + 1, false, rfl, by go_num, by omega, hb2, B2⟩
                    case measure => simp [intOf]; omega
                  · go_wp2
                    go_roundw
                    case rel => exact ⟨k + 1, true, rfl, by go_num, by omega, hb2, B2⟩
                    case measure => simp [intOf]; omega
                · go_upto_region 23 with fail
                  first | go_quiet (first | fail) | fail
                  have B2 := Lib.hid (hBq.out nq)
                  go_wp2
                  go_roundw
                  case rel => exact ⟨k + 1, true, rfl, by go_num, by omega, hb2, B2⟩
                  case measure => simp [intOf]; omega
              · obtain rfl : k = nk := by omega
                rw [List.take_of_length_le (by have := hnk.out; omega)] at hb
                obtain ⟨ci, e0, e1, e2, e3, f0, f1, f2, f3⟩ := hkp.out _ hB.out
                have hBB : Hid (∀ w', RowKit.Below nw w11 w' → RowKit.Below G9 w9 w') := Lib.hid fun w' b => B11.out.trans (b.mono hRn)
                by_cases hxt : x = tx
                · obtain ⟨rfl, hnin⟩ := hA.out hxt
                  obtain rfl : b = false := by rw [hb.out]; simpa using hnin
                  have hxb : (x == tx) = true := by simpa using hxt
                  have hBf := Lib.hid (hBB.out _ hB.out)
                  go_wp2
                  go_roundw
                  case rel => exact ⟨j + 1, by go_num, by omega, hBf⟩
                  case measure => simp [intOf]; omega
                · have hxb : (x == tx) = false := by simpa using hxt
                  cases b
                  · have hnin : x ∉ wk := by have := hb.out; simpa using this
                    obtain ⟨⟨rfl, rfl, rfl⟩, rfl⟩ : (h1 = q1 ∧ h2 = q2 ∧ h3 = q3) ∧ h4 = q4 := by have := hC.out hxt hnin; simpa using this
                    have hneq := fun w => neq_hold_same h1 h2 h3 h4 w
                    go_upto_region 24 with fail
                    first | go_quiet (first | fail) | fail
                    have hBf := Lib.hid (hBB.out _ (below_drewN (q := nq) hB.out))
                    go_wp2
                    go_roundw
                    case rel => exact ⟨j + 1, by go_num, by omega, hBf⟩
                    case measure => simp [intOf]; omega
                  · have hin : x ∈ wk := by have := hb.out; simpa using this
                    obtain ⟨rfl, hq0, hmq⟩ := hBc.out hxt hin
                    have hq0b : (q4 == 0) = false := by simpa using hq0
                    have hBr := hB.out
                    have hmod : Hid (∀ w', RowKit.Below nw w11 w' → Calls Try.prog 29 #[.pointer (some ⟨TB, 0, none⟩), .int .u32 x, .agg #[.int .u8 q1, .int .u32 q2, .int .u32 q3]] w' fun e w'' => e = .returned (.int .u8 q4) ∧ RowKit.Below nw w11 w'') := Lib.hid fun w' b => by
                      have h := mode13_u (S11.out.below b (by have := hnw.out; omega)) Ir.out (by have := Zr.out.keys; omega) x (q1, q2, q3)
                      rw [hmq] at h
                      exact h.mono fun e w'' ⟨h1, h2⟩ => ⟨h1, b.trans (h2.mono (by have := b.size; have := hnw.out; omega))⟩
                    have hkq : Hid (∀ w', RowKit.Below nw w11 w' → w'.cell? ⟨ga, oa + j, none⟩ = some (.int .u32 x) ∧ w'.cell? ⟨gh, j * 4, none⟩ = some (.int .u8 q1) ∧ w'.cell? ⟨gh, j * 4 + 1, none⟩ = some (.int .u32 q2) ∧ w'.cell? ⟨gh, j * 4 + 2, none⟩ = some (.int .u32 q3) ∧ Hid (RowKit.Below nw w11 w')) := Lib.hid fun w' b => by
                      obtain ⟨a1, a2, a3, a4, _⟩ := hkp.out w' b
                      exact ⟨a1, a2, a3, a4, Lib.hid b⟩
                    clear f0 f1 f2 f3 e0 e1 e2 e3 hmq hq0
                    replace hBr := Lib.hid hBr
                    go_upto_region 30 with fail
                    clear ci
                    go_region_held2 (fun w' => w'.cell? ⟨ga, oa + j, none⟩ = some (.int .u32 x) ∧ w'.cell? ⟨gh, j * 4, none⟩ = some (.int .u8 q1) ∧ w'.cell? ⟨gh, j * 4 + 1, none⟩ = some (.int .u32 q2) ∧ w'.cell? ⟨gh, j * 4 + 2, none⟩ = some (.int .u32 q3) ∧ Hid (RowKit.Below nw w11 w'))
                      (first | exact hkq.out _ hBr.out.drew | exact hkq.out _ b7 | go_keep)
                      (first
                        | (go_at_call 29; go_split_ands; refine Calls.mono (hmod.out _ (Hid.out (by assumption))) ?_; rintro e w7 ⟨rfl, b7⟩))
                    have e3 := (hkp.out _ b7).2.2.2.2.1
                    have hBf := Lib.hid (hBB.out _ b7)
                    clear b7
                    go_wp2
                    go_roundw
                    case rel => exact ⟨j + 1, by go_num, by omega, hBf⟩
                    case measure => simp [intOf]; omega
          · obtain rfl : j = i := by omega
            go_wp2
            go_ret
            exact ⟨rfl, B9.out.trans (hB.out.mono l9)⟩
theorem wakes_walk_n (W : World) (l : List Lop) (v : Value) (hv : LopsIn W v l) (tx : Int) (h0 : 0 ≤ tx) (h1 : tx ≤ 4294967295) :
    Calls Try.prog 10 #[v, .int .u32 tx] W fun e w' => e = .returned (.bool true) ∧ RowKit.Below W.heap.size W w' :=
  wakes_walk W l v hv tx (by constructor <;> omega)
end Go.Proofs.Ytilknhackmccpaa
