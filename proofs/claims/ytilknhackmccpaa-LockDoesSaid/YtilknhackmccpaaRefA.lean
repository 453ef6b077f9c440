/- The document's table (mancipleref13): lists of wants, a row that is appended to; mode, without, fits, Less; The document's table: its memory; New, at; The document's table: Waits, Holds; SameHolds; The document's table: a lock is put back; Ask, plainly. -/
import Derived.Test.YtilknhackmccpaaLckS
set_option linter.unusedVariables false
set_option linter.unusedSimpArgs false
namespace Go.Proofs.Ytilknhackmccpaa
open Go.RowKit Go.Sort Go.Lib Go.Maps

/-- Cells that lie behind an address. -/
def CellsAt (w : World) (a : Option Addr) (xs : List Value) : Prop := xs ≠ [] → ∃ eb off, a = some ⟨eb, off, none⟩ ∧ eb < w.heap.size ∧ ∀ j u, xs[j]? = some u → w.cell? ⟨eb, off + j, none⟩ = some u
theorem CellsAt.keep {w w' : World} {a : Option Addr} {xs : List Value} {B : Nat} (h : CellsAt w a xs) (hb : RowKit.Below B w w') (hB : w.heap.size ≤ B) : CellsAt w' a xs := fun hne => by
  obtain ⟨eb, off, h1, h2, h3⟩ := h hne
  exact ⟨eb, off, h1, Nat.lt_of_lt_of_le h2 hb.size, fun j u hj => (hb.cell (p := ⟨eb, off + j, none⟩) (Nat.lt_of_lt_of_le h2 hB)).trans (h3 j u hj)⟩
theorem cellsAt_block {w : World} {B : Nat} {cs : Array Value} {ty : TypeId} {fr : Nat × Nat} (h : w.heap[B]? = some (.cells cs ty fr)) {xs : List Value} (hx : ∀ (j : Nat) u, xs[j]? = some u → cs[j]? = some u) : CellsAt w (some ⟨B, 0, none⟩) xs := fun _ =>
  ⟨B, 0, rfl, (Array.getElem?_eq_some_iff.1 h).1, fun j u hj => by rw [Nat.zero_add, cell_of_heap h]; exact hx j u hj⟩
/-- append to a row of the call's own, of whatever cells. -/
theorem wpList_append_raw {t e : TypeId} {z : Value} {size bytes : Nat} (hu : Try.prog.underlying t = some (.slice e)) (hinfo : (Try.prog.info? e).map (fun i => (i.zero, i.size, i.bytes)) = some (some z, size, bytes)) (hzs : z.cells.size = size) (hsz : 0 < size)
    {w : World} {ops : Array Oper} {rest : List Oper} {o : Oper} {a : Act} {Q : Exit → Act → World → Prop} (hgd : o.guard = none) (s x : Operand)
    (ho : o.op = .call { callee := .builtin .append, args := #[s, x], argTypes := #[t, t] })
    (base : Nat) (v : Value) (n1 : Nat) (xs1 : List Value) (hs : a.eval s = v) (hO : w.ownsRow base e size v n1 xs1) (ad : Option Addr) (n c : Nat) (xs2 : List Value) (hx : a.eval x = .slice ad n c) (hE : CellsAt w ad xs2) (hl : xs2.length = n * size) (h1 : ∀ u ∈ xs2, u.oneCell' = true) (hb : n1 + n ≤ maxLen) (hby : (n1 + n) * bytes ≤ 140737488355328) (hbase : base ≤ w.heap.size)
    (h : ∀ v' w', w'.ownsRow base e size v' (n1 + n) (xs1 ++ xs2) → w.grownBy w' v.ownBlock → wpList Try.prog ops Q rest (a.put o.dst v') w') :
    wpList Try.prog ops Q (o :: rest) a w := by
  obtain ⟨i0, hi0, hz0, hz1, hz2⟩ := info_parts hinfo
  have key : ∃ v' w', (Builtin.append_ #[t, t] o.type #[v, .slice ad n c]).run Try.prog w = .ok v' w' ∧ w'.ownsRow base e size v' (n1 + n) (xs1 ++ xs2) ∧ w.grownBy w' v.ownBlock := by
    cases ad with
    | none =>
      have hx2 : xs2 = [] := by
        rcases xs2 with _ | ⟨u, r⟩
        · rfl
        · obtain ⟨eb, off, e1, _⟩ := hE (by simp)
          cases e1
      subst hx2
      obtain rfl : n = 0 := by
        rcases Nat.eq_zero_or_pos n with h | h
        · exact h
        · have := Nat.mul_pos h hsz
          simp at hl
          omega
      rw [List.append_nil, Nat.add_zero]
      have hv : ∃ b cap, v = .slice b n1 cap ∧ n1 ≤ cap := by
        rcases hO.2 with ⟨rfl, h1⟩ | ⟨g, cap, cur, rfl, _, _, h1, _⟩
        · exact ⟨none, 0, by rw [h1], by omega⟩
        · exact ⟨_, cap, rfl, h1⟩
      obtain ⟨b, cap, rfl, hc⟩ := hv
      exact ⟨_, w, run_append_empty w _ _ _ i0 hu hi0 b _ cap c hc, hO, World.grownBy.refl _ _⟩
    | some ad =>
      obtain ⟨v', w', r1, r2, r3, _, _⟩ := run_append_own_at (P := Try.prog) w base t o.type e i0 z size bytes hu hi0 hz0 hz1 hz2 hzs hsz v n1 xs1 hO ad n c xs2 hl (fun j u hj => by
        obtain ⟨eb, off, e1, _, hc⟩ := hE (by rintro rfl; simp at hj)
        cases e1
        rw [Addr.add_lit]
        exact hc j u hj) h1 hb hby hbase
      exact ⟨v', w', r1, r2, r3⟩
  obtain ⟨v', w', hr, h2, h3⟩ := key
  refine wpList_plain hgd fun K hK => ?_
  unfold Oper.wp execOp
  simp only [ho, resolve, invoke, builtin, Sem.run_bind, Sem.run_pure, Result.andThen_ok, List.map_toArray, List.map_cons, List.map_nil, hs, hx, hr]
  exact hK _ _ (h v' w' h2 h3)

/-- A block of the document's wants. -/
def WBR (w : World) (eb : Nat) : Prop := ∃ cs fr, w.heap[eb]? = some (.cells cs 99 fr)
theorem WBR.lt {w : World} {eb : Nat} (h : WBR w eb) : eb < w.heap.size := by
  obtain ⟨cs, fr, h⟩ := h
  exact (Array.getElem?_eq_some_iff.1 h).1
def WantsR (w : World) (v : Value) (l : List (Int × Int)) : Prop :=
  ∃ a cap, v = .slice a l.length cap ∧ l.length ≤ min maxLen cap ∧ (l ≠ [] → ∃ eb off, a = some ⟨eb, off, none⟩ ∧ WBR w eb ∧ ∀ j u, (wAll l)[j]? = some u → w.cell? ⟨eb, off + j, none⟩ = some u)
theorem WantsR.same {w w' : World} {v : Value} {l : List (Int × Int)} (h : WantsR w v l) (hs : ∀ eb, WBR w eb → w'.heap[eb]? = w.heap[eb]?) : WantsR w' v l := by
  obtain ⟨a, cap, e, hl, hc⟩ := h
  refine ⟨a, cap, e, hl, fun hne => ?_⟩
  obtain ⟨eb, off, h1, h2, h3⟩ := hc hne
  have he := hs eb h2
  obtain ⟨cs, fr, h4⟩ := h2
  refine ⟨eb, off, h1, ⟨cs, fr, he.trans h4⟩, fun j u hj => ?_⟩
  have := h3 j u hj
  rw [cell_of_heap h4] at this
  rw [cell_of_heap (he.trans h4)]
  exact this
theorem WantsR.keep {w w' : World} {v : Value} {l : List (Int × Int)} {B : Nat} (h : WantsR w v l) (hb : RowKit.Below B w w') (hB : w.heap.size ≤ B) : WantsR w' v l :=
  h.same fun eb h => hb.block eb (Nat.lt_of_lt_of_le h.lt hB)
theorem wantsR_none (w : World) : WantsR w (.slice none 0 0) [] := ⟨none, 0, rfl, by simp, fun h => absurd rfl h⟩
theorem WantsR.at {w : World} {v : Value} {l : List (Int × Int)} (h : WantsR w v l) {i : Nat} (hi : i < l.length) : ∃ eb off cap, v = .slice (some ⟨eb, off, none⟩) l.length cap ∧ eb < w.heap.size ∧ w.cell? ⟨eb, off + i * 2, none⟩ = some (.int .u32 (l.getD i (0, 0)).1) ∧ w.cell? ⟨eb, off + i * 2 + 1, none⟩ = some (.int .u8 (l.getD i (0, 0)).2) := by
  obtain ⟨a, cap, rfl, hl, hc⟩ := h
  obtain ⟨eb, off, rfl, h2, h3⟩ := hc (by rintro rfl; simp at hi)
  obtain ⟨g1, g2⟩ := wAll_at l i hi
  exact ⟨eb, off, cap, rfl, h2.lt, h3 _ _ g1, h3 _ _ g2⟩
theorem WantsR.shape {w : World} {v : Value} {l : List (Int × Int)} (h : WantsR w v l) : ∃ a cap, v = .slice a l.length cap ∧ l.length ≤ min maxLen cap := by
  obtain ⟨a, cap, rfl, hl, _⟩ := h
  exact ⟨a, cap, rfl, hl⟩
/-- A list of the document's wants of the call's own. -/
def OwnR (w : World) (base : Nat) (v : Value) (l : List (Int × Int)) : Prop := w.ownsRow base 99 2 v l.length (wAll l)
theorem OwnR.nil (w : World) (base : Nat) : OwnR w base (.slice none 0 0) [] := World.ownsRow_nil _ _ _ _
theorem OwnR.wants {w : World} {base : Nat} {v : Value} {l : List (Int × Int)} (h : OwnR w base v l) : WantsR w v l := by
  rcases h.2 with ⟨rfl, h0⟩ | ⟨g, cap, cur, rfl, hb, hg, hn, hc, hs, ht⟩
  · obtain rfl : l = [] := List.eq_nil_of_length_eq_zero h0
    exact wantsR_none w
  · refine ⟨_, cap, rfl, by omega, fun _ => ⟨g, 0, rfl, ⟨cur, _, hg⟩, fun j u hj => ?_⟩⟩
    rw [Nat.zero_add, cell_of_heap hg, ← Array.getElem?_toList]
    have hjl := (List.getElem?_eq_some_iff.1 hj).1
    rw [wAll_length] at hjl
    rw [← ht, List.getElem?_take_of_lt hjl] at hj
    exact hj
theorem info_r : (Try.prog.info? 99).map (fun i => (i.zero, i.size, i.bytes)) = some (some (.agg #[.int .u32 0, .int .u8 0]), 2, 8) := by kernel_rfl
/-- The first that bears a number. -/
theorem modeL_first {l : List (Int × Int)} {t : Int} {i : Nat} (hi : i < l.length) (he : (l.getD i (0, 0)).1 = t) (hN : ∀ j, j < i → (l.getD j (0, 0)).1 ≠ t) : modeL l t = (l.getD i (0, 0)).2 := by
  rcases modeL_idx l t with ⟨k, h1, _, h3, h4, h5⟩ | ⟨_, _, h3⟩
  · have : k = i := by
      rcases Nat.lt_trichotomy k i with h | h | h
      · exact absurd h4 (hN k h)
      · exact h
      · exact absurd he (h5 i h)
    rw [h3, this]
  · exact absurd he (h3 _ (by rw [getD_eq l hi]; exact List.getElem_mem _))
theorem modeL_nowhere {l : List (Int × Int)} {t : Int} (hN : ∀ j, j < l.length → (l.getD j (0, 0)).1 ≠ t) : modeL l t = 0 := modeL_not fun p hp => by
  obtain ⟨j, hj, e⟩ := List.mem_iff_getElem.1 hp
  have := hN j hj
  rwa [getD_eq l hj, e] at this

set_option maxRecDepth 100000 in
set_option maxHeartbeats 2000000 in
theorem mode_r (v : Value) (l : List (Int × Int)) (t : Int) (w : World) (hv : WantsR w v l) :
    Calls Try.prog 74 #[v, .int .u32 t] w fun e w' => e = .returned (.int .u8 (modeL l t)) ∧ w' = w := by
  obtain ⟨a, cap, rfl, hl⟩ := hv.shape
  have hV := Lib.hid hv
  obtain ⟨n, hn⟩ : ∃ n, l.length = n := ⟨_, rfl⟩
  rw [hn] at hV ⊢
  have hn9 : n ≤ 9223372036854775807 := by have : l.length ≤ maxLen := by omega
                                           unfold maxLen at this; omega
  replace hn := Lib.hid hn
  have hN0 : Hid (∀ j, j < 0 → (l.getD j (0, 0)).1 ≠ t) := Lib.hid fun j hj => absurd hj (Nat.not_lt_zero _)
  clear hv hl
  go_enter Try.func74, Try.ntmps74
  go_wp2
  go_loopw [5] (fun v5 wr => ∃ i : Nat, v5 = .int .i64 i ∧ i ≤ n ∧ wr = w ∧ Hid (∀ j, j < i → (l.getD j (0, 0)).1 ≠ t)) (fun v5 _ => n - (intOf v5).toNat)
  case atStart => exact ⟨0, rfl, Nat.zero_le _, rfl, hN0⟩
  case round =>
    clear hN0
    obtain ⟨i, rfl, hi, rfl, hN⟩ := hrel
    by_cases hin : i < n
    · have hii : (i : Int) < (n : Int) := by omega
      obtain ⟨eb, off, cap', e, hlt, c1, c2⟩ := hV.out.at (i := i) (by have := hn.out; omega)
      cases e
      obtain ⟨⟨y1, y2⟩, hy⟩ : ∃ y, l.getD i (0, 0) = y := ⟨_, rfl⟩
      rw [hy] at c1 c2
      simp only at c1 c2
      by_cases hyt : y1 = t
      · have hb : (y1 == t) = true := by simpa using hyt
        have hm : Hid (modeL l t = y2) := Lib.hid (by rw [modeL_first (i := i) (by have := hn.out; omega) (by rw [hy]; exact hyt) hN.out, hy])
        clear hy
        go_wp2
        go_ret
        rw [hm.out]
        exact ⟨rfl, rfl⟩
      · have hb : (y1 == t) = false := by simpa using hyt
        have hN2 : Hid (∀ j, j < i + 1 → (l.getD j (0, 0)).1 ≠ t) := Lib.hid fun j hj => by
          rcases Nat.lt_or_ge j i with h | h
          · exact hN.out j h
          · obtain rfl : j = i := by omega
            rw [hy]; exact hyt
        clear hy
        go_wp2
        go_roundw
        case rel => exact ⟨i + 1, by go_num, by omega, trivial, hN2⟩
        case measure => simp [intOf]; omega
    · obtain rfl : i = n := by omega
      have hm : Hid (modeL l t = 0) := Lib.hid (modeL_nowhere fun j hj => hN.out j (by have := hn.out; omega))
      go_wp2
      go_ret
      rw [hm.out]
      exact ⟨rfl, rfl⟩

set_option maxRecDepth 100000 in
set_option maxHeartbeats 4000000 in
theorem without_r (v : Value) (l : List (Int × Int)) (t : Int) (w : World) (hv : WantsR w v l) (hll : l.length ≤ 900000) :
    Calls Try.prog 75 #[v, .int .u32 t] w fun e w' => ∃ v', e = .returned v' ∧ OwnR w' w.heap.size v' (notL l t) ∧ RowKit.Below w.heap.size w w' := by
  obtain ⟨a, cap, rfl, hl⟩ := hv.shape
  have hV := Lib.hid hv
  obtain ⟨n, hn⟩ : ∃ n, l.length = n := ⟨_, rfl⟩
  obtain ⟨N, hN⟩ : ∃ N, w.heap.size = N := ⟨_, rfl⟩
  rw [hn] at hV hll ⊢
  rw [hN]
  replace hn := Lib.hid hn
  have hO0 : Hid (OwnR w N (.slice none 0 0) (notL (l.take 0) t)) := Lib.hid (OwnR.nil _ _)
  have hB0 : Hid (RowKit.Below N w w) := Lib.hid (RowKit.Below.refl _ _)
  replace hN := Lib.hid hN
  clear hv hl
  go_enter Try.func75, Try.ntmps75
  go_wp2
  go_loopw [5, 6] (fun v5 v6 wr => ∃ i : Nat, v6 = .int .i64 i ∧ i ≤ n ∧ Hid (OwnR wr N v5 (notL (l.take i) t)) ∧ Hid (RowKit.Below N w wr)) (fun _ v6 _ => n - (intOf v6).toNat)
  case atStart => exact ⟨0, rfl, Nat.zero_le _, hO0, hB0⟩
  case round =>
    clear hO0 hB0
    obtain ⟨i, rfl, hi, O, hB⟩ := hrel
    have hNw : N ≤ wr.heap.size := by have := hB.out.size; have := hN.out; omega
    by_cases hin : i < n
    · have hii : (i : Int) < (n : Int) := by omega
      have hVr := hV.out.keep hB.out (by have := hN.out; omega)
      obtain ⟨eb, off, cap', e, hlt, c1, c2⟩ := hVr.at (i := i) (by have := hn.out; omega)
      cases e
      have hst : notL (l.take (i + 1)) t = notL (l.take i) t ++ notL [l.getD i (0, 0)] t := by
        rw [List.take_succ_eq_append_getElem (by have := hn.out; omega), notL, List.filter_append, getD_eq l (by have := hn.out; omega)]; rfl
      have hln : (notL (l.take i) t).length ≤ i := Nat.le_trans (notL_length _ _) (by rw [List.length_take]; omega)
      obtain ⟨⟨y1, y2⟩, hy⟩ : ∃ y, l.getD i (0, 0) = y := ⟨_, rfl⟩
      rw [hy] at c1 c2 hst
      simp only at c1 c2
      obtain ⟨L, hL⟩ : ∃ L, notL (l.take i) t = L := ⟨_, rfl⟩
      rw [hL] at O hst hln
      clear hy hL hVr
      by_cases hyt : y1 = t
      · have hb : (y1 != t) = false := by simpa using hyt
        have O2 : Hid (OwnR wr N u5 (notL (l.take (i + 1)) t)) := Lib.hid (by rw [hst]; simpa [notL, hyt] using O.out)
        replace hst := Lib.hid hst
        go_wp2
        go_roundw
        case rel => exact ⟨i + 1, by go_num, by omega, O2, hB⟩
        case measure => simp [intOf]; omega
      · have hb : (y1 != t) = true := by simpa using hyt
        have hnl1 : notL [(y1, y2)] t = [(y1, y2)] := by simp [notL, hyt]
        have hst2 : Hid (notL (l.take (i + 1)) t = L ++ [(y1, y2)]) := Lib.hid (by rw [hst, hnl1])
        have hnc := heap_alloc_new wr (.cells #[.int .u32 y1, .int .u8 y2] 99)
        have bN := below_alloc wr (.cells #[.int .u32 y1, .int .u8 y2] 99)
        have O6 := Lib.hid (O.out.alloc (.cells #[.int .u32 y1, .int .u8 y2] 99))
        have B6 := Lib.hid (hB.out.trans (bN.mono hNw))
        have hC : Hid (CellsAt (wr.alloc (.cells #[.int .u32 y1, .int .u8 y2] 99)) (some ⟨wr.heap.size, 0, none⟩) (wAll [(y1, y2)])) := Lib.hid (cellsAt_block hnc fun j u hj => by
          match j, hj with
          | 0, hj => simpa [wAll, wCells] using hj
          | 1, hj => simpa [wAll, wCells] using hj
          | j + 2, hj => simp [wAll, wCells] at hj)
        have hG6 : N ≤ (wr.alloc (.cells #[.int .u32 y1, .int .u8 y2] 99)).heap.size := by simp; omega
        clear hst hnc bN O hB hlt hnl1
        go_wp2_with (at_builtin; refine wpList_append_raw Try.underlying95 info_r rfl (by decide) rfl (.tmp 20) (.tmp 25) rfl N u5 L.length (wAll L) rfl O6.out (some ⟨wr.heap.size, 0, none⟩) 1 1 (wAll [(y1, y2)]) rfl hC.out rfl (wAll_one _) (by unfold maxLen; omega) (by omega) hG6 ?_; intro v14 w14 O14 g14)
        have O15 : Hid (OwnR w14 N v14 (notL (l.take (i + 1)) t)) := Lib.hid (by rw [hst2.out, OwnR, wAll_append, List.length_append]; exact O14)
        have B15 := Lib.hid (B6.out.trans (below_of_grown g14 (fun j hj => (row_ge O6.out j hj).1) hG6))
        go_roundw
        case rel => exact ⟨i + 1, by go_num, by omega, O15, B15⟩
        case measure => simp [intOf]; omega
    · obtain rfl : i = n := by omega
      rw [List.take_of_length_le (by have := hn.out; omega)] at O
      go_wp2
      go_ret
      exact ⟨_, rfl, O.out, hB.out⟩

theorem free_at {l : List (Int × Int)} {x : Int × Int} {i : Nat} (hi : i < l.length) (h : apartB (l.getD i (0, 0)) x = true) : freeB l x = false := by
  cases hf : freeB l x with
  | false => rfl
  | true =>
    have := freeB_iff.1 hf (l.getD i (0, 0)) (by rw [getD_eq l hi]; exact List.getElem_mem _)
    rw [h] at this
    cases this
theorem free_all {l : List (Int × Int)} {x : Int × Int} (h : ∀ j, j < l.length → apartB (l.getD j (0, 0)) x = false) : freeB l x = true := freeB_iff.2 fun p hp => by
  obtain ⟨j, hj, e⟩ := List.mem_iff_getElem.1 hp
  have := h j hj
  rwa [getD_eq l hj, e] at this

set_option maxRecDepth 100000 in
set_option maxHeartbeats 4000000 in
theorem fits_r (v : Value) (l : List (Int × Int)) (x : Int × Int) (w : World) (hv : WantsR w v l) :
    Calls Try.prog 76 #[v, .agg #[.int .u32 x.1, .int .u8 x.2]] w fun e w' => e = .returned (.bool (freeB l x)) ∧ RowKit.Below w.heap.size w w' := by
  obtain ⟨a, cap, rfl, hl⟩ := hv.shape
  obtain ⟨x1, x2⟩ := x
  have b1 := below_alloc w (.cells #[.int .u32 x1, .int .u8 x2] 99)
  have k1 := heap_alloc_new w (.cells #[.int .u32 x1, .int .u8 x2] 99)
  have hV := hv.keep b1 (Nat.le_refl _)
  obtain ⟨N, hN⟩ : ∃ N, w.heap.size = N := ⟨_, rfl⟩
  obtain ⟨w1, hw1⟩ : ∃ y, w.alloc (.cells #[.int .u32 x1, .int .u8 x2] 99) = y := ⟨_, rfl⟩
  rw [hw1] at hV b1 k1
  rw [hN] at k1 b1 ⊢
  obtain ⟨n, hn⟩ : ∃ n, l.length = n := ⟨_, rfl⟩
  rw [hn] at hV ⊢
  have hn9 : n ≤ 9223372036854775807 := by have : l.length ≤ maxLen := by omega
                                           unfold maxLen at this; omega
  have d1 : w1.cell? ⟨N, 0, none⟩ = some (.int .u32 x1) := by rw [cell_of_heap k1]; rfl
  have d2 : w1.cell? ⟨N, 1, none⟩ = some (.int .u8 x2) := by rw [cell_of_heap k1]; rfl
  replace hn := Lib.hid hn
  replace hV := Lib.hid hV
  replace b1 := Lib.hid b1
  have hN0 : Hid (∀ j, j < 0 → apartB (l.getD j (0, 0)) (x1, x2) = false) := Lib.hid fun j hj => absurd hj (Nat.not_lt_zero _)
  have hq0 : Hid (∃ q, w1 = w1.drewN q) := Lib.hid ⟨0, rfl⟩
  clear hv hl k1
  simp only
  go_enter Try.func76, Try.ntmps76
  go_wp2
  go_loopw [5] (fun v5 wr => ∃ i : Nat, v5 = .int .i64 i ∧ i ≤ n ∧ Hid (∃ q, wr = w1.drewN q) ∧ Hid (∀ j, j < i → apartB (l.getD j (0, 0)) (x1, x2) = false)) (fun v5 _ => n - (intOf v5).toNat)
  case atStart => exact ⟨0, rfl, Nat.zero_le _, hq0, hN0⟩
  case round =>
    clear hN0 hq0
    obtain ⟨i, rfl, hi, hq, hA⟩ := hrel
    have hcell : ∀ p, wr.cell? p = w1.cell? p := fun p => by obtain ⟨q, rfl⟩ := hq.out; rfl
    have hBq : Hid (∀ q, RowKit.Below N w (wr.drewN q) ∧ ∃ q', wr.drewN q = w1.drewN q') := Lib.hid fun q => by
      obtain ⟨q', rfl⟩ := hq.out
      exact ⟨⟨b1.out.os, b1.out.tape, b1.out.output, b1.out.size, b1.out.block⟩, _, drewN_drewN ..⟩
    rw [← hcell] at d1 d2
    by_cases hin : i < n
    · have hii : (i : Int) < (n : Int) := by omega
      obtain ⟨eb, off, cap', e, hlt, c1, c2⟩ := hV.out.at (i := i) (by have := hn.out; omega)
      cases e
      rw [← hcell] at c1 c2
      obtain ⟨⟨y1, y2⟩, hy⟩ : ∃ y, l.getD i (0, 0) = y := ⟨_, rfl⟩
      rw [hy] at c1 c2
      simp only at c1 c2
      have hap : apartB (l.getD i (0, 0)) (x1, x2) = ((y1 != x1) && ((y2 == 2) || (x2 == 2))) := by rw [hy]; rfl
      obtain ⟨p1, hp1⟩ : ∃ x, (y1 != x1) = x := ⟨_, rfl⟩
      obtain ⟨p2, hp2⟩ : ∃ x, (y2 == 2) = x := ⟨_, rfl⟩
      obtain ⟨p3, hp3⟩ : ∃ x, (x2 == 2) = x := ⟨_, rfl⟩
      rw [hp1, hp2, hp3] at hap
      replace hap := Lib.hid hap
      clear hcell hq hlt hy
      cases p1 <;> cases p2 <;> cases p3
      all_goals (
        go_upto_region 4 with fail
        first | go_quiet (first | fail) | fail
        first
          | (have hN2 : Hid (∀ j, j < i + 1 → apartB (l.getD j (0, 0)) (x1, x2) = false) := Lib.hid fun j hj => by
              rcases Nat.lt_or_ge j i with h | h
              · exact hA.out j h
              · obtain rfl : j = i := by omega
                exact hap.out
             have hq2 : Hid (∃ q, wr.drewN nq = w1.drewN q) := Lib.hid (hBq.out nq).2
             go_wp2
             go_roundw
             case rel => exact ⟨i + 1, by go_num, by omega, hq2, hN2⟩
             case measure => simp [intOf]; omega)
          | (have hf : Hid (freeB l (x1, x2) = false) := Lib.hid (free_at (i := i) (by have := hn.out; omega) hap.out)
             go_wp2
             go_ret
             rw [hf.out]
             exact ⟨rfl, (hBq.out _).1⟩))
    · obtain rfl : i = n := by omega
      have hf : Hid (freeB l (x1, x2) = true) := Lib.hid (free_all fun j hj => hA.out j (by have := hn.out; omega))
      go_wp2
      go_ret
      rw [hf.out]
      exact ⟨rfl, (hBq.out 0).1⟩

theorem kltB_cases (a b : Ky) : kltB a b = if a.1 != b.1 then decide (a.1 < b.1) else if a.2.1 != b.2.1 then decide (a.2.1 < b.2.1) else decide (a.2.2 < b.2.2) := by
  unfold kltB KLt
  by_cases h1 : a.1 = b.1
  · by_cases h2 : a.2.1 = b.2.1
    · simp [h1, h2]
    · simp [h1, h2]
  · simp [h1]
set_option maxRecDepth 100000 in
set_option maxHeartbeats 2000000 in
theorem less_r (a b : Ky) (w : World) : Calls Try.prog 88 #[.agg #[.int .u8 a.1, .int .u32 a.2.1, .int .u32 a.2.2], .agg #[.int .u8 b.1, .int .u32 b.2.1, .int .u32 b.2.2]] w fun e w' => e = .returned (.bool (kltB a b)) ∧ RowKit.Below w.heap.size w w' := by
  rw [kltB_cases]
  obtain ⟨a1, a2, a3⟩ := a
  obtain ⟨c1, c2, c3⟩ := b
  have b1 := below_alloc w (.cells #[.int .u8 a1, .int .u32 a2, .int .u32 a3] 38)
  have b2 := below_alloc (w.alloc (.cells #[.int .u8 a1, .int .u32 a2, .int .u32 a3] 38)) (.cells #[.int .u8 c1, .int .u32 c2, .int .u32 c3] 38)
  have bT := Lib.hid (b1.trans (b2.mono b1.size))
  clear b1 b2
  obtain ⟨x, hx⟩ : ∃ x, (a1 != c1) = x := ⟨_, rfl⟩
  obtain ⟨y, hy⟩ : ∃ x, (a2 != c2) = x := ⟨_, rfl⟩
  simp only at hx hy bT ⊢
  rw [hx, hy]
  cases x <;> cases y
  all_goals (
    go_enter Try.func88, Try.ntmps88
    go_wp2
    go_ret
    exact ⟨rfl, bT.out⟩)
end Go.Proofs.Ytilknhackmccpaa

set_option linter.unusedVariables false
set_option linter.unusedSimpArgs false
namespace Go.Proofs.Ytilknhackmccpaa
open Go.RowKit Go.Sort Go.Lib Go.Maps

/-- A lock of the document's: its key, who has it, who is in line. -/
abbrev RL := Ky × Value × Value
def lkRow (p : RL) : List Value := [.int .u8 p.1.1, .int .u32 p.1.2.1, .int .u32 p.1.2.2, p.2.1, p.2.2]
def pAll (P : List RL) : List Value := P.flatMap lkRow
theorem pAll_length (P : List RL) : (pAll P).length = P.length * 5 := by
  induction P with
  | nil => rfl
  | cons p s ih => rw [pAll, List.flatMap_cons, List.length_append, ← pAll, ih]; simp [lkRow]; omega
theorem pAll_append (a b : List RL) : pAll (a ++ b) = pAll a ++ pAll b := by simp [pAll]
theorem pAll_at : ∀ (P : List RL) (i : Nat) (p : RL) (r : Nat), P[i]? = some p → r < 5 → (pAll P)[i * 5 + r]? = (lkRow p)[r]?
  | [], i, p, r, h, _ => by simp at h
  | q :: s, 0, p, r, h, hr => by
    simp only [List.getElem?_cons_zero, Option.some.injEq] at h
    subst h
    rw [pAll, List.flatMap_cons, List.getElem?_append_left (by simp [lkRow]; omega), Nat.zero_mul, Nat.zero_add]
  | q :: s, i + 1, p, r, h, hr => by
    rw [pAll, List.flatMap_cons, List.getElem?_append_right (by simp [lkRow]; omega), show (i + 1) * 5 + r - (lkRow q).length = i * 5 + r by simp [lkRow]; omega]
    exact pAll_at s i p r (by simpa using h) hr
theorem pAll_drop (P : List RL) (i : Nat) (hi : i ≤ P.length) (j : Nat) : (pAll (P.drop i))[j]? = (pAll P)[i * 5 + j]? := by
  have h := pAll_append (P.take i) (P.drop i)
  rw [List.take_append_drop] at h
  have hl := pAll_length (P.take i)
  rw [List.length_take, Nat.min_eq_left hi] at hl
  rw [h, List.getElem?_append_right (by omega), hl, Nat.add_sub_cancel_left]
theorem pAll_take (P : List RL) (i j : Nat) (u : Value) (h : (pAll (P.take i))[j]? = some u) : (pAll P)[j]? = some u := by
  have h2 := pAll_append (P.take i) (P.drop i)
  rw [List.take_append_drop] at h2
  rw [h2, List.getElem?_append_left (List.getElem?_eq_some_iff.1 h).1]
  exact h
/-- A value that is one cell. -/
def OneV (p : RL) : Prop := p.2.1.oneCell' = true ∧ p.2.2.oneCell' = true
theorem pAll_one {P : List RL} (h : ∀ p ∈ P, OneV p) : ∀ u ∈ pAll P, u.oneCell' = true := by
  intro u hu
  simp only [pAll, lkRow, List.mem_flatMap, List.mem_cons, List.not_mem_nil, or_false] at hu
  obtain ⟨p, hp, rfl | rfl | rfl | rfl | rfl⟩ := hu
  · rfl
  · rfl
  · rfl
  · exact (h p hp).1
  · exact (h p hp).2
/-- The table of the document, plainly: by rising keys. -/
abbrev RT := List (Ky × Lk)
def RowIs (w : World) (P : List RL) (L : RT) : Prop := P.length = L.length ∧ ∀ (i : Nat) p e, P[i]? = some p → L[i]? = some e → p.1 = e.1 ∧ WantsR w p.2.1 e.2.1 ∧ WantsR w p.2.2 e.2.2
structure RTab (w : World) (RB : Nat) (v : Value) (P : List RL) (L : RT) : Prop where
  cell : w.heap[RB]? = some (.cells #[v] 93)
  row : w.ownsRow 0 97 5 v P.length (pAll P)
  is : RowIs w P L
theorem WantsR.one {w : World} {v : Value} {l : List (Int × Int)} (h : WantsR w v l) : v.oneCell' = true := by
  obtain ⟨a, cap, rfl, _⟩ := h
  rfl
section
variable {w w' : World} {RB : Nat} {v : Value} {P : List RL} {L : RT}
theorem RowIs.one (h : RowIs w P L) : ∀ p ∈ P, OneV p := fun p hp => by
  obtain ⟨i, hi, e⟩ := List.mem_iff_getElem.1 hp
  obtain ⟨q, hq⟩ : ∃ q, L[i]? = some q := ⟨_, List.getElem?_eq_getElem (by rw [← h.1]; exact hi)⟩
  obtain ⟨_, h1, h2⟩ := h.2 i p q (by rw [List.getElem?_eq_getElem hi, e]) hq
  exact ⟨h1.one, h2.one⟩
theorem RowIs.same (h : RowIs w P L) (hs : ∀ eb, WBR w eb → w'.heap[eb]? = w.heap[eb]?) : RowIs w' P L :=
  ⟨h.1, fun i p e h1 h2 => ⟨(h.2 i p e h1 h2).1, (h.2 i p e h1 h2).2.1.same hs, (h.2 i p e h1 h2).2.2.same hs⟩⟩
theorem RowIs.keep {B : Nat} (h : RowIs w P L) (hb : RowKit.Below B w w') (hB : w.heap.size ≤ B) : RowIs w' P L :=
  h.same fun eb h => hb.block eb (Nat.lt_of_lt_of_le h.lt hB)
theorem RTab.lt (h : RTab w RB v P L) : RB < w.heap.size := (Array.getElem?_eq_some_iff.1 h.cell).1
theorem RTab.c0 (h : RTab w RB v P L) : w.cell? ⟨RB, 0, none⟩ = some v := by rw [cell_of_heap h.cell]; rfl
theorem row_same {e : TypeId} {size base m : Nat} {u : Value} {xs : List Value} (h : w.ownsRow base e size u m xs) (hs : ∀ g, u.ownBlock = some g → w'.heap[g]? = w.heap[g]?) : w'.ownsRow base e size u m xs := by
  refine ⟨h.1, ?_⟩
  rcases h.2 with h | ⟨g, cap, cur, rfl, h1, h2, h3⟩
  · exact .inl h
  · exact .inr ⟨g, cap, cur, rfl, h1, (hs g rfl).trans h2, h3⟩
theorem RTab.same (h : RTab w RB v P L) (hs : ∀ (g : Nat) (cs : Array Value) (ty : TypeId) (fr : Nat × Nat), w.heap[g]? = some (.cells cs ty fr) → w'.heap[g]? = w.heap[g]?) : RTab w' RB v P L :=
  ⟨(hs _ _ _ _ h.cell).trans h.cell, row_same h.row fun g hg => by
    rcases h.row.2 with ⟨rfl, _⟩ | ⟨g', cap, cur, rfl, _, h2, _⟩
    · cases hg
    · obtain rfl : g' = g := Option.some.inj hg
      exact hs _ _ _ _ h2, h.is.same fun eb ⟨cs, fr, he⟩ => hs _ _ _ _ he⟩
theorem RTab.below {B : Nat} (h : RTab w RB v P L) (hb : RowKit.Below B w w') (hB : w.heap.size ≤ B) : RTab w' RB v P L :=
  h.same fun g cs ty fr hg => hb.block g (Nat.lt_of_lt_of_le (Array.getElem?_eq_some_iff.1 hg).1 hB)
/-- The locks' own table turns. -/
theorem RTab.two {b1 b2 : Nat} (h : RTab w RB v P L) (k : Two b1 b2 w w') (n1 : ∀ cs ty fr, w.heap[b1]? ≠ some (.cells cs ty fr)) (n2 : ∀ cs ty fr, w.heap[b2]? ≠ some (.cells cs ty fr)) : RTab w' RB v P L :=
  h.same fun g cs ty fr hg => k.block g (Array.getElem?_eq_some_iff.1 hg).1 (by rintro rfl; exact n1 _ _ _ hg) (by rintro rfl; exact n2 _ _ _ hg)
/-- The i-th lock. -/
theorem RTab.at (h : RTab w RB v P L) {i : Nat} (hi : i < L.length) : ∃ g cap p e, v = .slice (some ⟨g, 0, none⟩) L.length cap ∧ L.length ≤ cap ∧ g < w.heap.size ∧ P[i]? = some p ∧ L[i]? = some e ∧ p.1 = e.1 ∧ WantsR w p.2.1 e.2.1 ∧ WantsR w p.2.2 e.2.2 ∧
    w.cell? ⟨g, i * 5, none⟩ = some (.int .u8 p.1.1) ∧ w.cell? ⟨g, i * 5 + 1, none⟩ = some (.int .u32 p.1.2.1) ∧ w.cell? ⟨g, i * 5 + 2, none⟩ = some (.int .u32 p.1.2.2) ∧ w.cell? ⟨g, i * 5 + 3, none⟩ = some p.2.1 ∧ w.cell? ⟨g, i * 5 + 4, none⟩ = some p.2.2 := by
  have hl := h.is.1
  obtain ⟨p, hp⟩ : ∃ p, P[i]? = some p := ⟨_, List.getElem?_eq_getElem (by omega)⟩
  obtain ⟨e, he⟩ : ∃ e, L[i]? = some e := ⟨_, List.getElem?_eq_getElem hi⟩
  obtain ⟨e1, e2, e3⟩ := h.is.2 i p e hp he
  rcases h.row.2 with ⟨_, h0⟩ | ⟨g, cap, cur, rfl, _, hg, hc, _, _, ht⟩
  · omega
  · have hcl : ∀ r, r < 5 → w.cell? ⟨g, i * 5 + r, none⟩ = (lkRow p)[r]? := fun r hr => by
      rw [cell_of_heap hg, ← pAll_at P i p r hp hr, ← ht, List.getElem?_take_of_lt (by omega), Array.getElem?_toList]
    have h0 := hcl 0 (by omega)
    rw [Nat.add_zero] at h0
    exact ⟨g, cap, p, e, by rw [hl], by omega, (Array.getElem?_eq_some_iff.1 hg).1, hp, he, e1, e2, e3, h0, hcl 1 (by omega), hcl 2 (by omega), hcl 3 (by omega), hcl 4 (by omega)⟩
theorem RTab.shape (h : RTab w RB v P L) : ∃ a cap, v = .slice a L.length cap ∧ L.length ≤ cap ∧ cap ≤ maxLen := by
  have hl := h.is.1
  rcases h.row.2 with ⟨rfl, h0⟩ | ⟨g, cap, cur, rfl, _, hg, hc, hm, _, ht⟩
  · exact ⟨none, 0, by rw [← hl, h0], by omega, by simp⟩
  · exact ⟨_, cap, by rw [hl], by omega, hm⟩
theorem RTab.cells (h : RTab w RB v P L) : ∃ a cap, v = .slice a L.length cap ∧ CellsAt w a (pAll P) := by
  have hl := h.is.1
  rcases h.row.2 with ⟨rfl, h0⟩ | ⟨g, cap, cur, rfl, _, hg, hc, hm, _, ht⟩
  · obtain rfl : P = [] := List.eq_nil_of_length_eq_zero h0
    exact ⟨none, 0, by rw [← hl]; rfl, fun h => absurd rfl h⟩
  · refine ⟨_, cap, by rw [hl], cellsAt_block hg fun j u hj => ?_⟩
    have hjl := (List.getElem?_eq_some_iff.1 hj).1
    rw [pAll_length] at hjl
    rw [← ht, List.getElem?_take_of_lt hjl, Array.getElem?_toList] at hj
    exact hj
end
set_option maxRecDepth 100000 in
theorem newR_u (w : World) : Calls Try.prog 32 #[] w fun e w' => ∃ RB, e = .returned (.pointer (some ⟨RB, 0, none⟩)) ∧ w.heap.size ≤ RB ∧ RTab w' RB (.slice none 0 0) [] [] ∧ RowKit.Below w.heap.size w w' := by
  go_enter Try.func32, Try.ntmps32
  go_wp2
  go_ret
  exact ⟨w.heap.size, rfl, Nat.le_refl _, ⟨heap_alloc_new w _, World.ownsRow_nil _ _ _ _, rfl, by simp⟩, below_alloc w _⟩
/-- A key's place. -/
def atI (L : RT) (k : Ky) : Nat := (L.takeWhile fun e => kltB e.1 k).length
def atL (L : RT) (k : Ky) : RT := if (L[atI L k]?).map (·.1) = some k then L else L.take (atI L k) ++ (k, ([], [])) :: L.drop (atI L k)
theorem atI_eq {L : RT} {k : Ky} {i : Nat} (hi : i ≤ L.length) (hl : ∀ (j : Nat) e, j < i → L[j]? = some e → kltB e.1 k = true) (hr : ∀ e, L[i]? = some e → kltB e.1 k = false) : atI L k = i := by
  induction L generalizing i with
  | nil => simp at hi; subst hi; rfl
  | cons x r ih =>
    rcases i with _ | i
    · have := hr x rfl
      simp [atI, List.takeWhile_cons, this]
    · have h0 := hl 0 x (by omega) rfl
      have := ih (i := i) (by simpa using hi) (fun j e hj he => hl (j + 1) e (by omega) (by simpa using he)) (fun e he => hr e (by simpa using he))
      simp [atI, List.takeWhile_cons, h0]
      exact this

theorem ins_get {α : Type} (l : List α) (x : α) {k : Nat} (hk : k ≤ l.length) (j : Nat) : (l.take k ++ x :: l.drop k)[j]? = if j < k then l[j]? else if j = k then some x else l[j - 1]? := by
  have hl : (l.take k).length = k := by rw [List.length_take]; omega
  by_cases h1 : j < k
  · rw [if_pos h1, List.getElem?_append_left (by omega), List.getElem?_take_of_lt h1]
  · rw [if_neg h1, List.getElem?_append_right (by omega), hl]
    by_cases h2 : j = k
    · subst h2; simp
    · rw [if_neg h2, show j - k = (j - k - 1) + 1 by omega, List.getElem?_cons_succ, List.getElem?_drop]
      congr 1; omega
theorem RowIs.ins {w : World} {P : List RL} {L : RT} (h : RowIs w P L) (k : Ky) {i : Nat} (hi : i ≤ L.length) : RowIs w (P.take i ++ (k, .slice none 0 0, .slice none 0 0) :: P.drop i) (L.take i ++ (k, ([], [])) :: L.drop i) := by
  have hl := h.1
  refine ⟨by simp [hl], fun j p e h1 h2 => ?_⟩
  rw [ins_get _ _ (by omega)] at h1
  rw [ins_get _ _ hi] at h2
  by_cases c1 : j < i
  · rw [if_pos c1] at h1 h2; exact h.2 j p e h1 h2
  · rw [if_neg c1] at h1 h2
    by_cases c2 : j = i
    · rw [if_pos c2] at h1 h2
      cases h1; cases h2
      exact ⟨rfl, wantsR_none w, wantsR_none w⟩
    · rw [if_neg c2] at h1 h2; exact h.2 _ p e h1 h2
theorem info_lk : (Try.prog.info? 97).map (fun i => (i.zero, i.size, i.bytes)) = some (some (.agg #[.int .u8 0, .int .u32 0, .int .u32 0, .slice none 0 0, .slice none 0 0]), 5, 64) := by kernel_rfl

set_option maxRecDepth 100000 in
set_option maxHeartbeats 8000000 in
theorem at_r {w : World} {RB : Nat} {v : Value} {P : List RL} {L : RT} (S : RTab w RB v P L) (hn0 : L.length ≤ 100000) (k : Ky) :
    Calls Try.prog 77 #[.pointer (some ⟨RB, 0, none⟩), .agg #[.int .u8 k.1, .int .u32 k.2.1, .int .u32 k.2.2]] w fun e w' => ∃ v' P', e = .returned (.int .i64 (atI L k)) ∧ RTab w' RB v' P' (atL L k) ∧ w.grownBy w' (some RB) ∧ ∀ g, v'.ownBlock = some g → v.ownBlock = some g ∨ w.heap.size ≤ g := by
  obtain ⟨a, cap, rfl, hcap, hcm⟩ := S.shape
  obtain ⟨k1, k2, k3⟩ := k
  have Bk := below_alloc w (.cells #[.int .u8 k1, .int .u32 k2, .int .u32 k3] 38)
  have nb := heap_alloc_new w (.cells #[.int .u8 k1, .int .u32 k2, .int .u32 k3] 38)
  have S1 := S.below Bk (Nat.le_refl _)
  obtain ⟨N, hN⟩ : ∃ N, w.heap.size = N := ⟨_, rfl⟩
  have hRN : RB < N := by rw [← hN]; exact S.lt
  obtain ⟨w1, hw1⟩ : ∃ x, w.alloc (.cells #[.int .u8 k1, .int .u32 k2, .int .u32 k3] 38) = x := ⟨_, rfl⟩
  have hs1 : w1.heap.size = N + 1 := by rw [← hw1, ← hN]; simp
  rw [hw1] at Bk nb S1
  rw [hN] at Bk nb ⊢
  obtain ⟨n, hn⟩ : ∃ n, L.length = n := ⟨_, rfl⟩
  rw [hn] at hcap hn0
  have hS := Lib.hid S1
  have hBk := Lib.hid Bk
  have hnb := Lib.hid nb
  replace hs1 := Lib.hid hs1
  have hS0 : Hid (RTab w RB (.slice a n cap) P L) := Lib.hid (hn ▸ S)
  have hcap' : (n : Int) ≤ (cap : Int) := by omega
  rw [hn] at hS ⊢
  have hn' := Lib.hid hn
  have hB0 : Hid (RowKit.Below (N + 1) w1 w1) := Lib.hid (RowKit.Below.refl _ _)
  have hless : Hid (∀ (b : Ky) wx, RowKit.Below (N + 1) w1 wx → Calls Try.prog 88 #[.agg #[.int .u8 b.1, .int .u32 b.2.1, .int .u32 b.2.2], .agg #[.int .u8 k1, .int .u32 k2, .int .u32 k3]] wx fun e w' => e = .returned (.bool (kltB b (k1, k2, k3))) ∧ RowKit.Below (N + 1) w1 w') :=
    Lib.hid fun b wx hx => (less_r b (k1, k2, k3) wx).mono fun e w' ⟨h1, h2⟩ => ⟨h1, hx.trans (h2.mono (by have := hx.size; have := hs1.out; omega))⟩
  have hbox : Hid (∀ w', RowKit.Below (N + 1) w1 w' → w'.cell? ⟨N, 0, none⟩ = some (.int .u8 k1) ∧ w'.cell? ⟨N, 1, none⟩ = some (.int .u32 k2) ∧ w'.cell? ⟨N, 2, none⟩ = some (.int .u32 k3)) := Lib.hid fun w' b => three_cells ((b.block N (Nat.lt_succ_self N)).trans nb)
  have hRv : Hid (∀ w', RowKit.Below (N + 1) w1 w' → RTab w' RB (.slice a n cap) P L) := Lib.hid fun w' b => hS.out.below b (by have := hs1.out; omega)
  clear S S1 Bk nb hn
  go_enter Try.func77, Try.ntmps77
  go_upto_block 0 with fail
  go_cut [5] from 7 to 27 (fun v5 wx => ∃ i : Nat, v5 = .int .i64 i ∧ i ≤ n ∧ Hid (atI L (k1, k2, k3) = i) ∧ Hid (RowKit.Below (N + 1) w1 wx))
  case first =>
    have hL0 : Hid (∀ (j : Nat) e, j < 0 → L[j]? = some e → kltB e.1 (k1, k2, k3) = true) := Lib.hid fun j e hj => absurd hj (Nat.not_lt_zero _)
    go_wp2_with fail
    go_loopw [5] (fun v5 wr => ∃ i : Nat, v5 = .int .i64 i ∧ i ≤ n ∧ Hid (∀ (j : Nat) e, j < i → L[j]? = some e → kltB e.1 (k1, k2, k3) = true) ∧ Hid (RowKit.Below (N + 1) w1 wr)) (fun v5 _ => n - (intOf v5).toNat)
    case atStart => exact ⟨0, rfl, Nat.zero_le _, hL0, hB0⟩
    case round =>
      clear hL0 hB0
      obtain ⟨i, rfl, hi, hL, hB⟩ := hrel
      by_cases hin : i < n
      · have hii : (i : Int) < (n : Int) := by omega
        obtain ⟨g, cap', p, e, he0, _, hgl, hp, he, e1, _, _, c0, c1, c2, _, _⟩ := (hRv.out _ hB.out).at (i := i) (by have := hn'.out; omega)
        rw [hn'.out] at he0
        cases he0
        obtain ⟨⟨x1, x2, x3⟩, hx⟩ : ∃ x, p.1 = x := ⟨_, rfl⟩
        rw [hx] at c0 c1 c2 e1
        simp only at c0 c1 c2
        obtain ⟨bx, hbx⟩ : ∃ b, kltB (x1, x2, x3) (k1, k2, k3) = b := ⟨_, rfl⟩
        have hls := hless.out (x1, x2, x3)
        rw [hbx] at hls
        have hbx' : kltB e.1 (k1, k2, k3) = bx := by rw [← e1]; exact hbx
        have hkp : Hid (∀ w', RowKit.Below wr.heap.size wr w' → w'.cell? ⟨RB, 0, none⟩ = some (.slice (some ⟨g, 0, none⟩) n cap) ∧ w'.cell? ⟨g, i * 5, none⟩ = some (.int .u8 x1) ∧ w'.cell? ⟨g, i * 5 + 1, none⟩ = some (.int .u32 x2) ∧ w'.cell? ⟨g, i * 5 + 2, none⟩ = some (.int .u32 x3) ∧ w'.cell? ⟨N, 0, none⟩ = some (.int .u8 k1) ∧ w'.cell? ⟨N, 1, none⟩ = some (.int .u32 k2) ∧ w'.cell? ⟨N, 2, none⟩ = some (.int .u32 k3) ∧ Hid (RowKit.Below wr.heap.size wr w')) := Lib.hid fun w' b => by
          have hb2 := hB.out.trans (b.mono (by have := hB.out.size; have := hs1.out; omega))
          obtain ⟨z0, z1, z2⟩ := hbox.out _ hb2
          exact ⟨(hRv.out _ hb2).c0, (b.cell (p := ⟨g, i * 5, none⟩) hgl).trans c0, (b.cell (p := ⟨g, i * 5 + 1, none⟩) hgl).trans c1, (b.cell (p := ⟨g, i * 5 + 2, none⟩) hgl).trans c2, z0, z1, z2, Lib.hid b⟩
        have hls2 : Hid (∀ wx, RowKit.Below wr.heap.size wr wx → Calls Try.prog 88 #[.agg #[.int .u8 x1, .int .u32 x2, .int .u32 x3], .agg #[.int .u8 k1, .int .u32 k2, .int .u32 k3]] wx fun e w' => e = .returned (.bool bx) ∧ RowKit.Below wr.heap.size wr w') := Lib.hid fun wx hx => (less_r (x1, x2, x3) (k1, k2, k3) wx).mono fun e w' ⟨h1, h2⟩ => ⟨by rw [h1, hbx], hx.trans (h2.mono hx.size)⟩
        have hr0 : Hid (RowKit.Below wr.heap.size wr wr) := Lib.hid (RowKit.Below.refl _ _)
        have hwN : N + 1 ≤ wr.heap.size := by have := hB.out.size; have := hs1.out; omega
        replace he := Lib.hid he
        replace hbx' := Lib.hid hbx'
        clear c0 c1 c2 hls hbx hx e1 hp hgl
        go_upto_region 2 with fail
        go_region_held2 (fun w' => w'.cell? ⟨RB, 0, none⟩ = some (.slice (some ⟨g, 0, none⟩) n cap) ∧ w'.cell? ⟨g, i * 5, none⟩ = some (.int .u8 x1) ∧ w'.cell? ⟨g, i * 5 + 1, none⟩ = some (.int .u32 x2) ∧ w'.cell? ⟨g, i * 5 + 2, none⟩ = some (.int .u32 x3) ∧ w'.cell? ⟨N, 0, none⟩ = some (.int .u8 k1) ∧ w'.cell? ⟨N, 1, none⟩ = some (.int .u32 k2) ∧ w'.cell? ⟨N, 2, none⟩ = some (.int .u32 k3) ∧ Hid (RowKit.Below wr.heap.size wr w'))
          (first | exact hkp.out _ hr0.out.drew | exact hkp.out _ b5 | go_keep)
          (first
            | (go_at_call 88; go_split_ands; refine Calls.mono (hls2.out _ (Hid.out (by assumption))) ?_; rintro e w5 ⟨rfl, b5⟩))
        have B5 := Lib.hid (hB.out.trans (b5.mono hwN))
        clear b5 hls2 hr0 hkp
        cases bx
        · have hF : Hid (atI L (k1, k2, k3) = i) := Lib.hid (atI_eq (by have := hn'.out; omega) hL.out fun e' he' => by rw [he.out] at he'; cases he'; exact hbx'.out)
          go_wp2
          go_meet
          exact ⟨i, rfl, hi, hF, B5⟩
        · have hL2 : Hid (∀ (j : Nat) e, j < i + 1 → L[j]? = some e → kltB e.1 (k1, k2, k3) = true) := Lib.hid fun j e' hj he' => by
            rcases Nat.lt_or_ge j i with h | h
            · exact hL.out j e' h he'
            · obtain rfl : j = i := by omega
              rw [he.out] at he'; cases he'; exact hbx'.out
          go_wp2
          go_roundw
          case rel => exact ⟨i + 1, by go_num, by omega, hL2, B5⟩
          case measure => simp [intOf]; omega
      · obtain rfl : i = n := by omega
        have hF : Hid (atI L (k1, k2, k3) = i) := Lib.hid (atI_eq (by have := hn'.out; omega) hL.out fun e' he' => by
          have := (List.getElem?_eq_some_iff.1 he').1
          have := hn'.out
          omega)
        have cR := (hRv.out _ hB.out).c0
        have hBq : Hid (∀ q, RowKit.Below (N + 1) w1 (wr.drewN q)) := Lib.hid fun q => by have := hB.out; exact ⟨this.os, this.tape, this.output, this.size, this.block⟩
        go_upto_region 2 with fail
        first | go_quiet (first | fail) | fail
        have B5 := Lib.hid (hBq.out nq)
        go_wp2
        go_meet
        exact ⟨i, rfl, Nat.le_refl _, hF, B5⟩
  case rest =>
  obtain ⟨i, rfl, hi, hI, hB⟩ := hcut
  have hwN : N + 1 ≤ wc.heap.size := by have := hB.out.size; have := hs1.out; omega
  have hgr : Hid (∀ w', RowKit.Below (N + 1) w1 w' → w.grownBy w' (some RB)) := Lib.hid fun w' b => by
    have b2 := hBk.out.trans (b.mono (Nat.le_succ N))
    exact ⟨b2.os, b2.tape, b2.output, b2.size, fun j hj _ => b2.block j (by omega)⟩
  have hBq : Hid (∀ q, RowKit.Below (N + 1) w1 (wc.drewN q)) := Lib.hid fun q => by have := hB.out; exact ⟨this.os, this.tape, this.output, this.size, this.block⟩
  by_cases hfd : (L[i]?).map (·.1) = some (k1, k2, k3)
  · have hin : i < n := by
      rcases Nat.lt_or_ge i n with h | h
      · exact h
      · rw [List.getElem?_eq_none (by have := hn'.out; omega)] at hfd; cases hfd
    have hii : (i : Int) < (n : Int) := by omega
    have hatL : Hid (atL L (k1, k2, k3) = L) := Lib.hid (by rw [atL, hI.out, if_pos hfd])
    obtain ⟨g, cap', p, e, he0, _, hgl, hp, he, e1, _, _, c0, c1, c2, _, _⟩ := (hRv.out _ hB.out).at (i := i) (by have := hn'.out; omega)
    rw [hn'.out] at he0
    cases he0
    rw [he] at hfd
    have hek : e.1 = (k1, k2, k3) := by simpa using hfd
    rw [e1, hek] at c0 c1 c2
    simp only at c0 c1 c2
    have heq := fun W => eql_key (k1, k2, k3) (k1, k2, k3) W
    rw [(keyB_iff _ _).2 rfl] at heq
    simp only at heq
    have cR := (hRv.out _ hB.out).c0
    obtain ⟨z0, z1, z2⟩ := hbox.out _ hB.out
    replace hI := Lib.hid hI.out
    clear hfd he hp e1 hek
    go_upto_region 4 with fail
    first | go_quiet (first | fail) | fail
    have B5 := Lib.hid (hBq.out nq)
    go_wp2
    go_ret
    rw [hatL.out, hI.out]
    exact ⟨_, P, rfl, hRv.out _ B5.out, hgr.out _ B5.out, fun g hg => .inl hg⟩
  · have hatL : Hid (atL L (k1, k2, k3) = L.take i ++ ((k1, k2, k3), ([], [])) :: L.drop i) := Lib.hid (by rw [atL, hI.out, if_neg hfd])
    have hFin : Hid (∀ w8 m (v8 : Value), RowKit.Below (N + 1) w1 w8 → w8.ownsRow (N + 1) 97 5 v8 m (pAll (P.take i) ++ pAll [((k1, k2, k3), .slice none 0 0, .slice none 0 0)] ++ pAll (P.drop i)) → m = n + 1 → ∃ v' P', Ending.returned (.int .i64 i) = .returned (.int .i64 (atI L (k1, k2, k3))) ∧ RTab (w8.setCell ⟨RB, 0, none⟩ v8) RB v' P' (atL L (k1, k2, k3)) ∧ w.grownBy (w8.setCell ⟨RB, 0, none⟩ v8) (some RB) ∧ ∀ g, v'.ownBlock = some g → (Value.slice a n cap).ownBlock = some g ∨ N ≤ g) := Lib.hid fun w8 m v8 b h hm => by
      subst hm
      have hR8 := (b.block RB (by omega)).trans hS.out.cell
      have hP : pAll (P.take i) ++ pAll [((k1, k2, k3), .slice none 0 0, .slice none 0 0)] ++ pAll (P.drop i) = pAll (P.take i ++ ((k1, k2, k3), .slice none 0 0, .slice none 0 0) :: P.drop i) := by
        rw [← pAll_append, ← pAll_append]; simp
      rw [hP] at h
      have hlen := (hRv.out w8 b).is.1
      have hlP : (P.take i ++ ((k1, k2, k3), (.slice none 0 0 : Value), (.slice none 0 0 : Value)) :: P.drop i).length = n + 1 := by
        have := hn'.out
        simp; omega
      have hge := row_ge h
      have gset := grown_set w8 RB 0 v8
      refine ⟨v8, P.take i ++ ((k1, k2, k3), .slice none 0 0, .slice none 0 0) :: P.drop i, by rw [hI.out], ⟨?_, ?_, ?_⟩, (hgr.out w8 b).trans gset, fun g hg => .inr (by have := (hge g hg).1; omega)⟩
      · simp [World.setCell, Array.getElem?_modify, hR8]
      · rw [hlP]
        exact row_low (h.kept gset (.inr fun e => by have := (hge RB e).1; omega)) (Nat.zero_le _)
      · rw [hatL.out]
        refine ((hRv.out w8 b).is.ins (k1, k2, k3) (by have := hn'.out; omega)).same fun eb ⟨cs, fr, he⟩ => gset.block eb (Array.getElem?_eq_some_iff.1 he).1 (by
          intro e
          obtain rfl : eb = RB := Option.some.inj e
          rw [hR8] at he
          cases he)
    have hlen := hS.out.is.1
    have hl1 : Hid ((pAll (P.take i)).length = i * 5) := Lib.hid (by rw [pAll_length, List.length_take]; have := hn'.out; congr 1; omega)
    have hl3 : Hid ((pAll (P.drop i)).length = (n - i) * 5) := Lib.hid (by rw [pAll_length, List.length_drop]; have := hn'.out; congr 1; omega)
    have hO1 : Hid (∀ p ∈ P.take i, OneV p) := Lib.hid fun p hp => hS.out.is.one p (List.mem_of_mem_take hp)
    have hO3 : Hid (∀ p ∈ P.drop i, OneV p) := Lib.hid fun p hp => hS.out.is.one p (List.mem_of_mem_drop hp)
    have hCp : Hid (∀ w', RowKit.Below (N + 1) w1 w' → CellsAt w' a (pAll P)) := Lib.hid fun w' b => by
      obtain ⟨a', c', e, h⟩ := (hRv.out w' b).cells
      cases e
      exact h
    have cR := (hRv.out _ hB.out).c0
    have hii : (i : Int) ≤ (cap : Int) := by omega
    have hB4s : N + 1 ≤ wc.heap.size := hwN
    replace hlen := Lib.hid hlen
    by_cases hin : i < n
    · obtain ⟨g, cap', p, e, he0, _, hgl, hp, he, e1, _, _, c0, c1, c2, _, _⟩ := (hRv.out _ hB.out).at (i := i) (by have := hn'.out; omega)
      rw [hn'.out] at he0
      cases he0
      have hin' : (i : Int) < (n : Int) := by omega
      obtain ⟨⟨x1, x2, x3⟩, hx⟩ : ∃ x, p.1 = x := ⟨_, rfl⟩
      rw [hx] at c0 c1 c2
      simp only at c0 c1 c2
      have hne : keyB (x1, x2, x3) (k1, k2, k3) = false := by
        cases hb : keyB (x1, x2, x3) (k1, k2, k3) with
        | false => rfl
        | true => exact absurd (by rw [he]; simp [← e1, hx, (keyB_iff _ _).1 hb]) hfd
      have heq := fun W => eql_key (x1, x2, x3) (k1, k2, k3) W
      rw [hne] at heq
      simp only at heq
      obtain ⟨z0, z1, z2⟩ := hbox.out _ hB.out
      clear hfd he hp e1 hx hne
      go_upto_region 4 with fail
      first | go_quiet (first | fail) | fail
      clear z0 z1 z2 c0 c1 c2 cR hgl
      have hB4 := Lib.hid (hBq.out nq)
      have cR := (hRv.out _ hB4.out).c0
      have hB4s : N + 1 ≤ (wc.drewN nq).heap.size := hwN
      have hC1 : Hid (CellsAt (wc.drewN nq) (some ⟨g, 0, none⟩) (pAll (P.take i))) := Lib.hid fun hne => by
        obtain ⟨eb, off, h1, h2, h3⟩ := hCp.out _ hB4.out (by rintro h0; apply hne; have := pAll_append (P.take i) (P.drop i); rw [List.take_append_drop, h0] at this; exact (List.append_eq_nil_iff.1 this.symm).1)
        exact ⟨eb, off, h1, h2, fun j u hj => h3 j u (pAll_take P i j u hj)⟩
      go_upto_region 8 with (at_builtin; refine wpList_append_raw Try.underlying91 info_lk rfl (by decide) rfl (.tmp 48) (.tmp 54) rfl (N + 1) (.slice none 0 0) 0 [] rfl (World.ownsRow_nil _ _ _ _) _ _ _ (pAll (P.take i)) rfl hC1.out hl1.out (pAll_one hO1.out) (by unfold maxLen; omega) (by omega) hB4s ?_; intro v1 w6 ho1 g1)
      rw [Nat.zero_add, List.nil_append] at ho1
      have B6 := Lib.hid (hB4.out.trans (below_of_grown g1 (by simp [Value.ownBlock]) hB4s))
      have h6s : N + 1 ≤ w6.heap.size := Nat.le_trans hB4s g1.size
      have hnc := heap_alloc_new w6 (.cells #[.int .u8 k1, .int .u32 k2, .int .u32 k3, .slice none 0 0, .slice none 0 0] 97)
      have bN := below_alloc w6 (.cells #[.int .u8 k1, .int .u32 k2, .int .u32 k3, .slice none 0 0, .slice none 0 0] 97)
      have O6 := Lib.hid (ho1.alloc (.cells #[.int .u8 k1, .int .u32 k2, .int .u32 k3, .slice none 0 0, .slice none 0 0] 97))
      have B6a := Lib.hid (B6.out.trans (bN.mono h6s))
      have h6t : N + 1 ≤ (w6.alloc (.cells #[.int .u8 k1, .int .u32 k2, .int .u32 k3, .slice none 0 0, .slice none 0 0] 97)).heap.size := by simp; omega
      have hCk : Hid (CellsAt (w6.alloc (.cells #[.int .u8 k1, .int .u32 k2, .int .u32 k3, .slice none 0 0, .slice none 0 0] 97)) (some ⟨w6.heap.size, 0, none⟩) (pAll [((k1, k2, k3), .slice none 0 0, .slice none 0 0)])) := Lib.hid (cellsAt_block hnc fun j u hj => by simpa [pAll, lkRow] using hj)
      have z0 := Lib.hid (hbox.out _ B6.out)
      obtain ⟨z0, z1, z2⟩ := hbox.out _ B6.out
      clear hnc bN ho1 g1 hC1
      go_upto_region 9 with (at_builtin; refine wpList_append_raw Try.underlying91 info_lk rfl (by decide) rfl (.tmp 56) (.tmp 59) rfl (N + 1) v1 i (pAll (P.take i)) rfl O6.out (some ⟨w6.heap.size, 0, none⟩) 1 1 (pAll [((k1, k2, k3), .slice none 0 0, .slice none 0 0)]) rfl hCk.out rfl (pAll_one (by intro p hp; rw [List.mem_singleton.1 hp]; exact ⟨rfl, rfl⟩)) (by unfold maxLen; omega) (by omega) h6t ?_; intro v2 w7 ho2 g2)
      have B7 := Lib.hid (B6a.out.trans (below_of_grown g2 (fun j hj => (row_ge O6.out j hj).1) h6t))
      have h7s : N + 1 ≤ w7.heap.size := Nat.le_trans h6t g2.size
      have O7 := Lib.hid ho2
      clear ho2 g2 z0 z1 z2
      have cR := (hRv.out _ B7.out).c0
      have hC3 : Hid (CellsAt w7 (some ⟨g, i * 5, none⟩) (pAll (P.drop i))) := Lib.hid fun hne => by
        obtain ⟨eb, off, h1, h2, h3⟩ := hCp.out _ B7.out (by rintro h0; apply hne; have := pAll_append (P.take i) (P.drop i); rw [List.take_append_drop, h0] at this; exact (List.append_eq_nil_iff.1 this.symm).2)
        cases h1
        refine ⟨g, i * 5, rfl, h2, fun j u hj => ?_⟩
        rw [pAll_drop P i (by have := hlen.out; have := hn'.out; omega)] at hj
        have := h3 _ u hj
        rwa [Nat.zero_add] at this
      have hcapi : ¬ (cap = i) := by omega
      go_upto_region 10 with (at_builtin; refine wpList_append_raw Try.underlying91 info_lk rfl (by decide) rfl (.tmp 61) (.tmp 67) rfl (N + 1) v2 (i + 1) _ rfl O7.out (some ⟨g, i * 5, none⟩) (n - i) (cap - i) (pAll (P.drop i)) rfl hC3.out hl3.out (pAll_one hO3.out) (by unfold maxLen; omega) (by omega) h7s ?_; intro v3 w8 ho3 g3)
      have B8 := Lib.hid (B7.out.trans (below_of_grown g3 (fun j hj => (row_ge O7.out j hj).1) h7s))
      obtain ⟨a8, c8, rfl⟩ := row_shape ho3
      have hR8 := (B8.out.block RB (by omega)).trans hS.out.cell
      have cR8 := (hRv.out _ B8.out).c0
      have fR8 : w8.frozen? ⟨RB, 0, none⟩ = false := by simp [World.frozen?, hR8]
      have hE8 := Lib.hid (hFin.out w8 _ _ B8.out ho3 (by omega))
      clear ho3 g3 O7 hC3 hR8
      go_wp2
      go_ret
      exact hE8.out
    · obtain rfl : i = n := by omega
      have hd0 : Hid (P.drop i = []) := Lib.hid (List.drop_eq_nil_of_le (by have := hlen.out; have := hn'.out; omega))
      have hP0 : Hid (∀ W a', CellsAt W a' (pAll (P.drop i))) := Lib.hid fun W a' hne => absurd (by rw [hd0.out]; rfl) hne
      clear hfd
      rcases hS.out.row.2 with ⟨e0, h0⟩ | ⟨g, cap', cur, e0, _⟩
      · cases e0
        go_upto_region 4 with fail
        first | go_quiet (first | fail) | fail
        clear cR
        have hB4 := Lib.hid (hBq.out nq)
        have cR := (hRv.out _ hB4.out).c0
        have hB4s : N + 1 ≤ (wc.drewN nq).heap.size := hwN
        have hC1 : Hid (CellsAt (wc.drewN nq) _ (pAll (P.take 0))) := Lib.hid fun hne => by
          obtain ⟨eb, off, h1, h2, h3⟩ := hCp.out _ hB4.out (by rintro h0; apply hne; have := pAll_append (P.take 0) (P.drop 0); rw [List.take_append_drop, h0] at this; exact (List.append_eq_nil_iff.1 this.symm).1)
          exact ⟨eb, off, h1, h2, fun j u hj => h3 j u (pAll_take P 0 j u hj)⟩
        go_upto_region 8 with (at_builtin; refine wpList_append_raw Try.underlying91 info_lk rfl (by decide) rfl (.tmp 48) (.tmp 54) rfl (N + 1) (.slice none 0 0) 0 [] rfl (World.ownsRow_nil _ _ _ _) _ _ _ (pAll (P.take 0)) rfl hC1.out hl1.out (pAll_one hO1.out) (by unfold maxLen; omega) (by omega) hB4s ?_; intro v1 w6 ho1 g1)
        rw [Nat.zero_add, List.nil_append] at ho1
        have B6 := Lib.hid (hB4.out.trans (below_of_grown g1 (by simp [Value.ownBlock]) hB4s))
        have h6s : N + 1 ≤ w6.heap.size := Nat.le_trans hB4s g1.size
        have hnc := heap_alloc_new w6 (.cells #[.int .u8 k1, .int .u32 k2, .int .u32 k3, .slice none 0 0, .slice none 0 0] 97)
        have bN := below_alloc w6 (.cells #[.int .u8 k1, .int .u32 k2, .int .u32 k3, .slice none 0 0, .slice none 0 0] 97)
        have O6 := Lib.hid (ho1.alloc (.cells #[.int .u8 k1, .int .u32 k2, .int .u32 k3, .slice none 0 0, .slice none 0 0] 97))
        have B6a := Lib.hid (B6.out.trans (bN.mono h6s))
        have h6t : N + 1 ≤ (w6.alloc (.cells #[.int .u8 k1, .int .u32 k2, .int .u32 k3, .slice none 0 0, .slice none 0 0] 97)).heap.size := by simp; omega
        have hCk : Hid (CellsAt (w6.alloc (.cells #[.int .u8 k1, .int .u32 k2, .int .u32 k3, .slice none 0 0, .slice none 0 0] 97)) (some ⟨w6.heap.size, 0, none⟩) (pAll [((k1, k2, k3), .slice none 0 0, .slice none 0 0)])) := Lib.hid (cellsAt_block hnc fun j u hj => by simpa [pAll, lkRow] using hj)
        have z0 := Lib.hid (hbox.out _ B6.out)
        obtain ⟨z0, z1, z2⟩ := hbox.out _ B6.out
        clear hnc bN ho1 g1 hC1
        go_upto_region 9 with (at_builtin; refine wpList_append_raw Try.underlying91 info_lk rfl (by decide) rfl (.tmp 56) (.tmp 59) rfl (N + 1) v1 0 (pAll (P.take 0)) rfl O6.out (some ⟨w6.heap.size, 0, none⟩) 1 1 (pAll [((k1, k2, k3), .slice none 0 0, .slice none 0 0)]) rfl hCk.out rfl (pAll_one (by intro p hp; rw [List.mem_singleton.1 hp]; exact ⟨rfl, rfl⟩)) (by unfold maxLen; omega) (by omega) h6t ?_; intro v2 w7 ho2 g2)
        have B7 := Lib.hid (B6a.out.trans (below_of_grown g2 (fun j hj => (row_ge O6.out j hj).1) h6t))
        have h7s : N + 1 ≤ w7.heap.size := Nat.le_trans h6t g2.size
        have O7 := Lib.hid ho2
        clear ho2 g2 z0 z1 z2
        have cR := (hRv.out _ B7.out).c0
        have hC3 := hP0
        go_upto_region 10 with (at_builtin; refine wpList_append_raw Try.underlying91 info_lk rfl (by decide) rfl (.tmp 61) (.tmp 67) rfl (N + 1) v2 (0 + 1) _ rfl O7.out _ _ _ (pAll (P.drop 0)) rfl (hC3.out _ _) (by rw [hd0.out]; simp [pAll]) (pAll_one hO3.out) (by unfold maxLen; omega) (by omega) h7s ?_; intro v3 w8 ho3 g3)
        have B8 := Lib.hid (B7.out.trans (below_of_grown g3 (fun j hj => (row_ge O7.out j hj).1) h7s))
        obtain ⟨a8, c8, rfl⟩ := row_shape ho3
        have hR8 := (B8.out.block RB (by omega)).trans hS.out.cell
        have cR8 := (hRv.out _ B8.out).c0
        have fR8 : w8.frozen? ⟨RB, 0, none⟩ = false := by simp [World.frozen?, hR8]
        have hE8 := Lib.hid (hFin.out w8 _ _ B8.out ho3 (by omega))
        clear ho3 g3 O7 hC3 hR8
        go_wp2
        go_ret
        exact hE8.out
      · simp only [Value.slice.injEq] at e0
        obtain ⟨rfl, -, -⟩ := e0
        by_cases hck : i = cap
        · subst hck
          go_upto_region 4 with fail
          first | go_quiet (first | fail) | fail
          clear cR
          have hB4 := Lib.hid (hBq.out nq)
          have cR := (hRv.out _ hB4.out).c0
          have hB4s : N + 1 ≤ (wc.drewN nq).heap.size := hwN
          have hC1 : Hid (CellsAt (wc.drewN nq) _ (pAll (P.take i))) := Lib.hid fun hne => by
            obtain ⟨eb, off, h1, h2, h3⟩ := hCp.out _ hB4.out (by rintro h0; apply hne; have := pAll_append (P.take i) (P.drop i); rw [List.take_append_drop, h0] at this; exact (List.append_eq_nil_iff.1 this.symm).1)
            exact ⟨eb, off, h1, h2, fun j u hj => h3 j u (pAll_take P i j u hj)⟩
          go_upto_region 8 with (at_builtin; refine wpList_append_raw Try.underlying91 info_lk rfl (by decide) rfl (.tmp 48) (.tmp 54) rfl (N + 1) (.slice none 0 0) 0 [] rfl (World.ownsRow_nil _ _ _ _) _ _ _ (pAll (P.take i)) rfl hC1.out hl1.out (pAll_one hO1.out) (by unfold maxLen; omega) (by omega) hB4s ?_; intro v1 w6 ho1 g1)
          rw [Nat.zero_add, List.nil_append] at ho1
          have B6 := Lib.hid (hB4.out.trans (below_of_grown g1 (by simp [Value.ownBlock]) hB4s))
          have h6s : N + 1 ≤ w6.heap.size := Nat.le_trans hB4s g1.size
          have hnc := heap_alloc_new w6 (.cells #[.int .u8 k1, .int .u32 k2, .int .u32 k3, .slice none 0 0, .slice none 0 0] 97)
          have bN := below_alloc w6 (.cells #[.int .u8 k1, .int .u32 k2, .int .u32 k3, .slice none 0 0, .slice none 0 0] 97)
          have O6 := Lib.hid (ho1.alloc (.cells #[.int .u8 k1, .int .u32 k2, .int .u32 k3, .slice none 0 0, .slice none 0 0] 97))
          have B6a := Lib.hid (B6.out.trans (bN.mono h6s))
          have h6t : N + 1 ≤ (w6.alloc (.cells #[.int .u8 k1, .int .u32 k2, .int .u32 k3, .slice none 0 0, .slice none 0 0] 97)).heap.size := by simp; omega
          have hCk : Hid (CellsAt (w6.alloc (.cells #[.int .u8 k1, .int .u32 k2, .int .u32 k3, .slice none 0 0, .slice none 0 0] 97)) (some ⟨w6.heap.size, 0, none⟩) (pAll [((k1, k2, k3), .slice none 0 0, .slice none 0 0)])) := Lib.hid (cellsAt_block hnc fun j u hj => by simpa [pAll, lkRow] using hj)
          have z0 := Lib.hid (hbox.out _ B6.out)
          obtain ⟨z0, z1, z2⟩ := hbox.out _ B6.out
          clear hnc bN ho1 g1 hC1
          go_upto_region 9 with (at_builtin; refine wpList_append_raw Try.underlying91 info_lk rfl (by decide) rfl (.tmp 56) (.tmp 59) rfl (N + 1) v1 i (pAll (P.take i)) rfl O6.out (some ⟨w6.heap.size, 0, none⟩) 1 1 (pAll [((k1, k2, k3), .slice none 0 0, .slice none 0 0)]) rfl hCk.out rfl (pAll_one (by intro p hp; rw [List.mem_singleton.1 hp]; exact ⟨rfl, rfl⟩)) (by unfold maxLen; omega) (by omega) h6t ?_; intro v2 w7 ho2 g2)
          have B7 := Lib.hid (B6a.out.trans (below_of_grown g2 (fun j hj => (row_ge O6.out j hj).1) h6t))
          have h7s : N + 1 ≤ w7.heap.size := Nat.le_trans h6t g2.size
          have O7 := Lib.hid ho2
          clear ho2 g2 z0 z1 z2
          have cR := (hRv.out _ B7.out).c0
          have hC3 := hP0
          go_upto_region 10 with (at_builtin; refine wpList_append_raw Try.underlying91 info_lk rfl (by decide) rfl (.tmp 61) (.tmp 67) rfl (N + 1) v2 (i + 1) _ rfl O7.out _ _ _ (pAll (P.drop i)) rfl (hC3.out _ _) (by rw [hd0.out]; simp [pAll]) (pAll_one hO3.out) (by unfold maxLen; omega) (by omega) h7s ?_; intro v3 w8 ho3 g3)
          have B8 := Lib.hid (B7.out.trans (below_of_grown g3 (fun j hj => (row_ge O7.out j hj).1) h7s))
          obtain ⟨a8, c8, rfl⟩ := row_shape ho3
          have hR8 := (B8.out.block RB (by omega)).trans hS.out.cell
          have cR8 := (hRv.out _ B8.out).c0
          have fR8 : w8.frozen? ⟨RB, 0, none⟩ = false := by simp [World.frozen?, hR8]
          have hE8 := Lib.hid (hFin.out w8 _ _ B8.out ho3 (by omega))
          clear ho3 g3 O7 hC3 hR8
          go_wp2
          go_ret
          exact hE8.out
        · have hck2 : (i : Int) < (cap : Int) := by omega
          have hck3 : ¬ (cap = i) := by omega
          go_upto_region 4 with fail
          first | go_quiet (first | fail) | fail
          clear cR
          have hB4 := Lib.hid (hBq.out nq)
          have cR := (hRv.out _ hB4.out).c0
          have hB4s : N + 1 ≤ (wc.drewN nq).heap.size := hwN
          have hC1 : Hid (CellsAt (wc.drewN nq) _ (pAll (P.take i))) := Lib.hid fun hne => by
            obtain ⟨eb, off, h1, h2, h3⟩ := hCp.out _ hB4.out (by rintro h0; apply hne; have := pAll_append (P.take i) (P.drop i); rw [List.take_append_drop, h0] at this; exact (List.append_eq_nil_iff.1 this.symm).1)
            exact ⟨eb, off, h1, h2, fun j u hj => h3 j u (pAll_take P i j u hj)⟩
          go_upto_region 8 with (at_builtin; refine wpList_append_raw Try.underlying91 info_lk rfl (by decide) rfl (.tmp 48) (.tmp 54) rfl (N + 1) (.slice none 0 0) 0 [] rfl (World.ownsRow_nil _ _ _ _) _ _ _ (pAll (P.take i)) rfl hC1.out hl1.out (pAll_one hO1.out) (by unfold maxLen; omega) (by omega) hB4s ?_; intro v1 w6 ho1 g1)
          rw [Nat.zero_add, List.nil_append] at ho1
          have B6 := Lib.hid (hB4.out.trans (below_of_grown g1 (by simp [Value.ownBlock]) hB4s))
          have h6s : N + 1 ≤ w6.heap.size := Nat.le_trans hB4s g1.size
          have hnc := heap_alloc_new w6 (.cells #[.int .u8 k1, .int .u32 k2, .int .u32 k3, .slice none 0 0, .slice none 0 0] 97)
          have bN := below_alloc w6 (.cells #[.int .u8 k1, .int .u32 k2, .int .u32 k3, .slice none 0 0, .slice none 0 0] 97)
          have O6 := Lib.hid (ho1.alloc (.cells #[.int .u8 k1, .int .u32 k2, .int .u32 k3, .slice none 0 0, .slice none 0 0] 97))
          have B6a := Lib.hid (B6.out.trans (bN.mono h6s))
          have h6t : N + 1 ≤ (w6.alloc (.cells #[.int .u8 k1, .int .u32 k2, .int .u32 k3, .slice none 0 0, .slice none 0 0] 97)).heap.size := by simp; omega
          have hCk : Hid (CellsAt (w6.alloc (.cells #[.int .u8 k1, .int .u32 k2, .int .u32 k3, .slice none 0 0, .slice none 0 0] 97)) (some ⟨w6.heap.size, 0, none⟩) (pAll [((k1, k2, k3), .slice none 0 0, .slice none 0 0)])) := Lib.hid (cellsAt_block hnc fun j u hj => by simpa [pAll, lkRow] using hj)
          have z0 := Lib.hid (hbox.out _ B6.out)
          obtain ⟨z0, z1, z2⟩ := hbox.out _ B6.out
          clear hnc bN ho1 g1 hC1
          go_upto_region 9 with (at_builtin; refine wpList_append_raw Try.underlying91 info_lk rfl (by decide) rfl (.tmp 56) (.tmp 59) rfl (N + 1) v1 i (pAll (P.take i)) rfl O6.out (some ⟨w6.heap.size, 0, none⟩) 1 1 (pAll [((k1, k2, k3), .slice none 0 0, .slice none 0 0)]) rfl hCk.out rfl (pAll_one (by intro p hp; rw [List.mem_singleton.1 hp]; exact ⟨rfl, rfl⟩)) (by unfold maxLen; omega) (by omega) h6t ?_; intro v2 w7 ho2 g2)
          have B7 := Lib.hid (B6a.out.trans (below_of_grown g2 (fun j hj => (row_ge O6.out j hj).1) h6t))
          have h7s : N + 1 ≤ w7.heap.size := Nat.le_trans h6t g2.size
          have O7 := Lib.hid ho2
          clear ho2 g2 z0 z1 z2
          have cR := (hRv.out _ B7.out).c0
          have hC3 := hP0
          go_upto_region 10 with (at_builtin; refine wpList_append_raw Try.underlying91 info_lk rfl (by decide) rfl (.tmp 61) (.tmp 67) rfl (N + 1) v2 (i + 1) _ rfl O7.out _ _ _ (pAll (P.drop i)) rfl (hC3.out _ _) (by rw [hd0.out]; simp [pAll]) (pAll_one hO3.out) (by unfold maxLen; omega) (by omega) h7s ?_; intro v3 w8 ho3 g3)
          have B8 := Lib.hid (B7.out.trans (below_of_grown g3 (fun j hj => (row_ge O7.out j hj).1) h7s))
          obtain ⟨a8, c8, rfl⟩ := row_shape ho3
          have hR8 := (B8.out.block RB (by omega)).trans hS.out.cell
          have cR8 := (hRv.out _ B8.out).c0
          have fR8 : w8.frozen? ⟨RB, 0, none⟩ = false := by simp [World.frozen?, hR8]
          have hE8 := Lib.hid (hFin.out w8 _ _ B8.out ho3 (by omega))
          clear ho3 g3 O7 hC3 hR8
          go_wp2
          go_ret
          exact hE8.out
end Go.Proofs.Ytilknhackmccpaa

set_option linter.unusedVariables false
set_option linter.unusedSimpArgs false
namespace Go.Proofs.Ytilknhackmccpaa
open Go.RowKit Go.Sort Go.Lib Go.Maps

/-- Modes are modes. -/
def Modes (L : RT) : Prop := ∀ e ∈ L, (∀ p ∈ e.2.1, p.2 = 1 ∨ p.2 = 2) ∧ ∀ p ∈ e.2.2, p.2 = 1 ∨ p.2 = 2
def waitE (t : Int) (e : Ky × Lk) : Option (Ky × Int) := if modeL e.2.2 t = 0 then none else some (e.1, modeL e.2.2 t)
def rWaits (L : RT) (t : Int) : Option (Ky × Int) := L.findSome? (waitE t)
theorem findSome_at {α β : Type} {f : α → Option β} : ∀ {l : List α} {i : Nat} {x : α} {y : β}, l[i]? = some x → f x = some y → (∀ (j : Nat) z, j < i → l[j]? = some z → f z = none) → l.findSome? f = some y
  | [], i, x, y, h, _, _ => by simp at h
  | a :: r, 0, x, y, h, hf, _ => by
    simp only [List.getElem?_cons_zero, Option.some.injEq] at h
    subst h
    simp [List.findSome?_cons, hf]
  | a :: r, i + 1, x, y, h, hf, hN => by
    have h0 := hN 0 a (by omega) rfl
    rw [List.findSome?_cons, h0]
    exact findSome_at (by simpa using h) hf fun j z hj hz => hN (j + 1) z (by omega) (by simpa using hz)
theorem findSome_none {α β : Type} {f : α → Option β} {l : List α} (hN : ∀ (j : Nat) z, l[j]? = some z → f z = none) : l.findSome? f = none := by
  rw [List.findSome?_eq_none_iff]
  intro x hx
  obtain ⟨j, hj, e⟩ := List.mem_iff_getElem.1 hx
  exact hN j x (by rw [List.getElem?_eq_getElem hj, e])

set_option maxRecDepth 100000 in
set_option maxHeartbeats 4000000 in
theorem waits_r {w : World} {RB : Nat} {v : Value} {P : List RL} {L : RT} (S : RTab w RB v P L) (hM : Modes L) (hn0 : L.length ≤ 100000) (t : Int) :
    Calls Try.prog 54 #[.pointer (some ⟨RB, 0, none⟩), .int .u32 t] w fun e w' => e = .returned (.tuple #[holdV ((rWaits L t).getD ((0, 0, 0), 0)), .bool (rWaits L t).isSome]) ∧ RowKit.Below w.heap.size w w' := by
  obtain ⟨a, cap, rfl, hcap, hcm⟩ := S.shape
  have Bk := below_alloc w (.cells #[.int .u8 0, .int .u32 0, .int .u32 0, .int .u8 0] 54)
  have nb := heap_alloc_new w (.cells #[.int .u8 0, .int .u32 0, .int .u32 0, .int .u8 0] 54)
  have S1 := S.below Bk (Nat.le_refl _)
  obtain ⟨N, hN⟩ : ∃ N, w.heap.size = N := ⟨_, rfl⟩
  obtain ⟨w1, hw1⟩ : ∃ x, w.alloc (.cells #[.int .u8 0, .int .u32 0, .int .u32 0, .int .u8 0] 54) = x := ⟨_, rfl⟩
  rw [hw1] at Bk nb S1
  rw [hN] at Bk nb ⊢
  obtain ⟨n, hn⟩ : ∃ n, L.length = n := ⟨_, rfl⟩
  rw [hn] at hn0
  have hS := Lib.hid S1
  rw [hn] at hS
  have hn' := Lib.hid hn
  have hBk := Lib.hid Bk
  have hnb := Lib.hid nb
  have cR := hS.out.c0
  have r0 : w1.cell? ⟨N, 0, none⟩ = some (.int .u8 0) := by rw [cell_of_heap nb]; rfl
  have r1 : w1.cell? ⟨N, 1, none⟩ = some (.int .u32 0) := by rw [cell_of_heap nb]; rfl
  have r2 : w1.cell? ⟨N, 2, none⟩ = some (.int .u32 0) := by rw [cell_of_heap nb]; rfl
  have r3 : w1.cell? ⟨N, 3, none⟩ = some (.int .u8 0) := by rw [cell_of_heap nb]; rfl
  have z0 : w1.frozen? ⟨N, 0, none⟩ = false := by simp [World.frozen?, nb]
  have z1 : w1.frozen? ⟨N, 1, none⟩ = false := by simp [World.frozen?, nb]
  have z2 : w1.frozen? ⟨N, 2, none⟩ = false := by simp [World.frozen?, nb]
  have z3 : w1.frozen? ⟨N, 3, none⟩ = false := by simp [World.frozen?, nb]
  have hF0 : Hid (∀ (j : Nat) e, j < 0 → L[j]? = some e → waitE t e = none) := Lib.hid fun j e hj => absurd hj (Nat.not_lt_zero _)
  have hMo := Lib.hid hM
  replace hw1 := Lib.hid hw1
  clear S S1 Bk nb hn hM
  go_enter Try.func54, Try.ntmps54
  go_wp2
  try rw [hw1.out]
  go_loopw [6] (fun v6 wr => ∃ i : Nat, v6 = .int .i64 i ∧ i ≤ n ∧ wr = w1 ∧ Hid (∀ (j : Nat) e, j < i → L[j]? = some e → waitE t e = none)) (fun v6 _ => n - (intOf v6).toNat)
  case atStart => exact ⟨0, rfl, Nat.zero_le _, rfl, hF0⟩
  case round =>
    clear hF0
    obtain ⟨i, rfl, hi, rfl, hF⟩ := hrel
    by_cases hin : i < n
    · have hii : (i : Int) < (n : Int) := by omega
      obtain ⟨g, cap', p, e, he0, _, hgl, hp, he, e1, _, hWl, c0, c1, c2, c3, c4⟩ := hS.out.at (i := i) (by have := hn'.out; omega)
      rw [hn'.out] at he0
      cases he0
      have hmo := mode_r p.2.2 e.2.2 t wr hWl
      have hpos := modeL_pos (t := t) (hMo.out e (List.mem_of_getElem? he)).2
      obtain ⟨⟨⟨x1, x2, x3⟩, va, vb⟩, hx⟩ : ∃ x, p = x := ⟨_, rfl⟩
      subst hx
      simp only at c0 c1 c2 c3 c4 hmo e1
      have hwe : waitE t e = if modeL e.2.2 t = 0 then none else some (e.1, modeL e.2.2 t) := rfl
      obtain ⟨m, hm⟩ : ∃ m, modeL e.2.2 t = m := ⟨_, rfl⟩
      rw [hm] at hmo hpos hwe
      replace hwe := Lib.hid hwe
      replace he := Lib.hid he
      replace e1 := Lib.hid e1
      clear hWl hp hm
      by_cases hm0 : m = 0
      · subst hm0
        have hF2 : Hid (∀ (j : Nat) e, j < i + 1 → L[j]? = some e → waitE t e = none) := Lib.hid fun j e' hj he' => by
          rcases Nat.lt_or_ge j i with h | h
          · exact hF.out j e' h he'
          · obtain rfl : j = i := by omega
            rw [he.out] at he'; cases he'
            rw [hwe.out]; simp
        go_wp2_with (go_at_call 74; refine hmo.mono ?_; intro e w' h; rw [h.1, h.2]; clear h w' e)
        go_roundw
        case rel => exact ⟨i + 1, by go_num, by omega, trivial, hF2⟩
        case measure => simp [intOf]; omega
      · have hmp : m > 0 := by omega
        have hres : Hid (rWaits L t = some ((x1, x2, x3), m)) := Lib.hid (findSome_at he.out (by rw [hwe.out, if_neg hm0, ← e1.out]) hF.out)
        go_wp2_with (go_at_call 74; refine hmo.mono ?_; intro e w' h; rw [h.1, h.2]; clear h w' e)
        have h9 : ((((wr.setCell ⟨N, 0, none⟩ (.int .u8 x1)).setCell ⟨N, 1, none⟩ (.int .u32 x2)).setCell ⟨N, 2, none⟩ (.int .u32 x3)).setCell ⟨N, 3, none⟩ (.int .u8 m)).heap[N]? = some (.cells #[.int .u8 x1, .int .u32 x2, .int .u32 x3, .int .u8 m] 54) := by simp [World.setCell, Array.getElem?_modify, hnb.out]
        have b9 : RowKit.Below N wr ((((wr.setCell ⟨N, 0, none⟩ (.int .u8 x1)).setCell ⟨N, 1, none⟩ (.int .u32 x2)).setCell ⟨N, 2, none⟩ (.int .u32 x3)).setCell ⟨N, 3, none⟩ (.int .u8 m)) :=
          ((((RowKit.Below.refl N wr).setCell (p := ⟨N, 0, none⟩) (Nat.le_refl _) _).setCell (p := ⟨N, 1, none⟩) (Nat.le_refl _) _).setCell (p := ⟨N, 2, none⟩) (Nat.le_refl _) _).setCell (p := ⟨N, 3, none⟩) (Nat.le_refl _) _
        obtain ⟨w9, hw9⟩ : ∃ x, ((((wr.setCell ⟨N, 0, none⟩ (.int .u8 x1)).setCell ⟨N, 1, none⟩ (.int .u32 x2)).setCell ⟨N, 2, none⟩ (.int .u32 x3)).setCell ⟨N, 3, none⟩ (.int .u8 m)) = x := ⟨_, rfl⟩
        rw [hw9] at h9 b9 ⊢
        have d0 : w9.cell? ⟨N, 0, none⟩ = some (.int .u8 x1) := by rw [cell_of_heap h9]; rfl
        have d1 : w9.cell? ⟨N, 1, none⟩ = some (.int .u32 x2) := by rw [cell_of_heap h9]; rfl
        have d2 : w9.cell? ⟨N, 2, none⟩ = some (.int .u32 x3) := by rw [cell_of_heap h9]; rfl
        have d3 : w9.cell? ⟨N, 3, none⟩ = some (.int .u8 m) := by rw [cell_of_heap h9]; rfl
        refine bodyPost_ret (v := .tuple #[.agg #[.int .u8 x1, .int .u32 x2, .int .u32 x3, .int .u8 m], .bool true]) (by simp [results, Try.results54, go_sem, d0, d1, d2, d3]) rfl ⟨?_, hBk.out.trans b9⟩
        rw [hres.out]
        rfl
    · obtain rfl : i = n := by omega
      have hres : Hid (rWaits L t = none) := Lib.hid (findSome_none fun j e he => hF.out j e (by have := (List.getElem?_eq_some_iff.1 he).1; have := hn'.out; omega) he)
      go_wp2
      have h9 : ((((wr.setCell ⟨N, 0, none⟩ (.int .u8 0)).setCell ⟨N, 1, none⟩ (.int .u32 0)).setCell ⟨N, 2, none⟩ (.int .u32 0)).setCell ⟨N, 3, none⟩ (.int .u8 0)).heap[N]? = some (.cells #[.int .u8 0, .int .u32 0, .int .u32 0, .int .u8 0] 54) := by simp [World.setCell, Array.getElem?_modify, hnb.out]
      have b9 : RowKit.Below N wr ((((wr.setCell ⟨N, 0, none⟩ (.int .u8 0)).setCell ⟨N, 1, none⟩ (.int .u32 0)).setCell ⟨N, 2, none⟩ (.int .u32 0)).setCell ⟨N, 3, none⟩ (.int .u8 0)) :=
        ((((RowKit.Below.refl N wr).setCell (p := ⟨N, 0, none⟩) (Nat.le_refl _) _).setCell (p := ⟨N, 1, none⟩) (Nat.le_refl _) _).setCell (p := ⟨N, 2, none⟩) (Nat.le_refl _) _).setCell (p := ⟨N, 3, none⟩) (Nat.le_refl _) _
      obtain ⟨w9, hw9⟩ : ∃ x, ((((wr.setCell ⟨N, 0, none⟩ (.int .u8 0)).setCell ⟨N, 1, none⟩ (.int .u32 0)).setCell ⟨N, 2, none⟩ (.int .u32 0)).setCell ⟨N, 3, none⟩ (.int .u8 0)) = x := ⟨_, rfl⟩
      rw [hw9] at h9 b9 ⊢
      have d0 : w9.cell? ⟨N, 0, none⟩ = some (.int .u8 0) := by rw [cell_of_heap h9]; rfl
      have d1 : w9.cell? ⟨N, 1, none⟩ = some (.int .u32 0) := by rw [cell_of_heap h9]; rfl
      have d2 : w9.cell? ⟨N, 2, none⟩ = some (.int .u32 0) := by rw [cell_of_heap h9]; rfl
      have d3 : w9.cell? ⟨N, 3, none⟩ = some (.int .u8 0) := by rw [cell_of_heap h9]; rfl
      refine bodyPost_ret (v := .tuple #[.agg #[.int .u8 0, .int .u32 0, .int .u32 0, .int .u8 0], .bool false]) (by simp [results, Try.results54, go_sem, d0, d1, d2, d3]) rfl ⟨?_, hBk.out.trans b9⟩
      rw [hres.out]
      rfl

def rHolds (L : RT) (t : Int) : List (Ky × Int) := L.filterMap fun e => if modeL e.2.1 t = 0 then none else some (e.1, modeL e.2.1 t)
theorem rHolds_succ (L : RT) (t : Int) {i : Nat} {e : Ky × Lk} (h : L[i]? = some e) : rHolds (L.take (i + 1)) t = rHolds (L.take i) t ++ (if modeL e.2.1 t = 0 then [] else [(e.1, modeL e.2.1 t)]) := by
  rw [List.take_add_one, h, rHolds, List.filterMap_append]
  simp only [Option.toList_some, List.filterMap_cons, List.filterMap_nil, rHolds]
  split <;> simp_all
theorem row_at {w : World} {base : Nat} {e : TypeId} {size n : Nat} {v : Value} {xs : List Value} (h : w.ownsRow base e size v n xs) : ∃ a cap, v = .slice a n cap ∧ CellsAt w a xs := by
  have hl := h.1
  rcases h.2 with ⟨rfl, h0⟩ | ⟨g, cap, cur, rfl, _, hg, hc, hm, _, ht⟩
  · refine ⟨none, 0, by rw [h0], fun hne => ?_⟩
    rw [h0, Nat.zero_mul] at hl
    exact absurd (List.eq_nil_of_length_eq_zero hl) hne
  · refine ⟨_, cap, rfl, cellsAt_block hg fun j u hj => ?_⟩
    have hjl := (List.getElem?_eq_some_iff.1 hj).1
    rw [← ht, List.getElem?_take_of_lt (by omega), Array.getElem?_toList] at hj
    exact hj
theorem hCells_at : ∀ (l : List (Ky × Int)) (i : Nat) (x : Ky × Int) (r : Nat), l[i]? = some x → r < 4 → (hCells l)[i * 4 + r]? = (hRow x)[r]?
  | [], i, x, r, h, _ => by simp at h
  | q :: s, 0, x, r, h, hr => by
    simp only [List.getElem?_cons_zero, Option.some.injEq] at h
    subst h
    rw [hCells, List.flatMap_cons, List.getElem?_append_left (by simp [hRow]; omega), Nat.zero_mul, Nat.zero_add]
  | q :: s, i + 1, x, r, h, hr => by
    rw [hCells, List.flatMap_cons, List.getElem?_append_right (by simp [hRow]; omega), show (i + 1) * 4 + r - (hRow q).length = i * 4 + r by simp [hRow]; omega]
    exact hCells_at s i x r (by simpa using h) hr
/-- The cells of the i-th hold. -/
theorem CellsAt.hold {w : World} {a : Option Addr} {l : List (Ky × Int)} (h : CellsAt w a (hCells l)) {i : Nat} {x : Ky × Int} (hi : l[i]? = some x) :
    ∃ eb off, a = some ⟨eb, off, none⟩ ∧ w.cell? ⟨eb, off + i * 4, none⟩ = some (.int .u8 x.1.1) ∧ w.cell? ⟨eb, off + i * 4 + 1, none⟩ = some (.int .u32 x.1.2.1) ∧ w.cell? ⟨eb, off + i * 4 + 2, none⟩ = some (.int .u32 x.1.2.2) ∧ w.cell? ⟨eb, off + i * 4 + 3, none⟩ = some (.int .u8 x.2) := by
  obtain ⟨eb, off, h1, _, h3⟩ := h (by rintro e; have := hCells_at l i x 0 hi (by omega); rw [e] at this; simp [hRow] at this)
  have hc : ∀ r u, (hRow x)[r]? = some u → w.cell? ⟨eb, off + i * 4 + r, none⟩ = some u := fun r u hr => by
    have hr4 : r < 4 := by have := (List.getElem?_eq_some_iff.1 hr).1; simpa [hRow] using this
    have := h3 (i * 4 + r) u (by rw [hCells_at l i x r hi hr4]; exact hr)
    rwa [← Nat.add_assoc] at this
  have h0 := hc 0 _ rfl
  rw [Nat.add_zero] at h0
  exact ⟨eb, off, h1, h0, hc 1 _ rfl, hc 2 _ rfl, hc 3 _ rfl⟩
theorem neq_hold_same' (a b c d : Int) (w : World) : (binOp .neq 54 (.agg #[.int .u8 a, .int .u32 b, .int .u32 c, .int .u8 d]) (.agg #[.int .u8 a, .int .u32 b, .int .u32 c, .int .u8 d])).run Try.prog w = .ok (.bool false) w := by
  obtain ⟨f, g, hl, f1, f2, f3, g1, g2, g3⟩ := fields_two (l := (Try.prog.fieldsOf 54).toList) (n1 := "Key") (n2 := "Mode") (t1 := 38) (t2 := 5) (o1 := 0) (o2 := 3) (by kernel_rfl)
  rw [run_neq_struct, run_equalIn_agg w 9999 _ _ _ (by kernel_rfl) (by kernel_rfl), hl]
  simp only [Op.eqFields, f1, f2, f3, g1, g2, g3]
  have h1 : ∀ x y z m w, (Go.part 38 #[.int .u8 x, .int .u32 y, .int .u32 z, .int .u8 m] 0).run Try.prog w = .ok (.agg #[.int .u8 x, .int .u32 y, .int .u32 z]) w := fun _ _ _ _ _ => by kernel_rfl
  have h2 : ∀ x y z m w, (Go.part 5 #[.int .u8 x, .int .u32 y, .int .u32 z, .int .u8 m] 3).run Try.prog w = .ok (.int .u8 m) w := fun _ _ _ _ _ => by kernel_rfl
  have i1 : ∀ w, (Op.equalIn 9999 38 (.agg #[.int .u8 a, .int .u32 b, .int .u32 c]) (.agg #[.int .u8 a, .int .u32 b, .int .u32 c])).run Try.prog w = .ok true w := fun w => by
    obtain ⟨f, g, e, hl, ⟨f1, f2, f3⟩, ⟨g1, g2, g3⟩, e1, e2, e3⟩ := fields_three flds_k
    rw [run_equalIn_agg w 9998 _ _ _ (by kernel_rfl) (by kernel_rfl), hl]
    simp only [Op.eqFields, f1, f2, f3, g1, g2, g3, e1, e2, e3]
    have h1 : ∀ x y z w, (Go.part 5 #[.int .u8 x, .int .u32 y, .int .u32 z] 0).run Try.prog w = .ok (.int .u8 x) w := fun _ _ _ _ => by kernel_rfl
    have h2 : ∀ x y z w, (Go.part 23 #[.int .u8 x, .int .u32 y, .int .u32 z] 1).run Try.prog w = .ok (.int .u32 y) w := fun _ _ _ _ => by kernel_rfl
    have h3 : ∀ x y z w, (Go.part 23 #[.int .u8 x, .int .u32 y, .int .u32 z] 2).run Try.prog w = .ok (.int .u32 z) w := fun _ _ _ _ => by kernel_rfl
    have i1 : ∀ x y w, (Op.equalIn 9998 5 (.int .u8 x) (.int .u8 y)).run Try.prog w = .ok (x == y) w := fun _ _ w => run_equalIn_int w 9997 _ _ _ _ _ Try.underlying5
    have i2 : ∀ x y w, (Op.equalIn 9998 23 (.int .u32 x) (.int .u32 y)).run Try.prog w = .ok (x == y) w := fun _ _ w => run_equalIn_int w 9997 _ _ _ _ _ Try.underlying23
    simp [Sem.run_bind, h1, h2, h3, i1, i2, Result.andThen_ok, Sem.run_ite, Sem.run_pure]
  have i2 : ∀ x y w, (Op.equalIn 9999 5 (.int .u8 x) (.int .u8 y)).run Try.prog w = .ok (x == y) w := fun _ _ w => run_equalIn_int w 9998 _ _ _ _ _ Try.underlying5
  simp [Sem.run_bind, h1, h2, i1, i2, Result.andThen_ok, Sem.run_ite, Sem.run_pure]

set_option maxRecDepth 100000 in
set_option maxHeartbeats 2000000 in
theorem sameH_u (a1 a2 : Option Addr) (n c1 c2 : Nat) (l : List (Ky × Int)) (w : World) (h1 : CellsAt w a1 (hCells l)) (h2 : CellsAt w a2 (hCells l)) (e1 : l.length = n) (hb1 : n < 4294967296) :
    Calls Try.prog 55 #[.slice a1 n c1, .slice a2 n c2] w fun e w' => e = .returned (.bool true) ∧ ∃ q, w' = w.drewN q := by
  replace h1 := Lib.hid h1
  replace h2 := Lib.hid h2
  replace e1 := Lib.hid e1
  have hq0 : Hid (w = w.drewN 0) := Lib.hid rfl
  go_enter Try.func55, Try.ntmps55
  go_wp2
  go_loopw [5] (fun vi wr => ∃ i q : Nat, vi = .int .i64 i ∧ i ≤ n ∧ Hid (wr = w.drewN q)) (fun vi _ => n - (intOf vi).toNat)
  case atStart => exact ⟨0, 0, rfl, Nat.zero_le _, hq0⟩
  case round =>
    clear hq0
    obtain ⟨i, q, rfl, hi, hq⟩ := hrel
    by_cases hin : i < n
    · have hii : (i : Int) < (n : Int) := by omega
      obtain ⟨⟨⟨x1, x2, x3⟩, m⟩, hx⟩ : ∃ x, l[i]? = some x := ⟨_, List.getElem?_eq_getElem (by have := e1.out; omega)⟩
      obtain ⟨g1, o1, rfl, p0, p1, p2, p3⟩ := h1.out.hold hx
      obtain ⟨g2, o2, rfl, q0, q1, q2, q3⟩ := h2.out.hold hx
      have hcell : ∀ p, wr.cell? p = w.cell? p := fun p => by rw [hq.out]; rfl
      rw [← hcell] at p0 p1 p2 p3 q0 q1 q2 q3
      simp only at p0 p1 p2 p3 q0 q1 q2 q3
      have hneq := fun w => neq_hold_same' x1 x2 x3 m w
      clear hcell hx
      go_upto_region 6 with fail
      first | go_quiet (first | fail) | fail
      have hq2 : Hid (wr.drewN nq = w.drewN (q + nq)) := Lib.hid (by rw [hq.out]; exact drewN_drewN ..)
      go_wp2
      go_roundw
      case rel => exact ⟨i + 1, _, by go_num, by omega, hq2⟩
      case measure => simp [intOf]; omega
    · obtain rfl : i = n := by omega
      go_wp2
      go_ret
      exact ⟨rfl, q, hq.out⟩

set_option maxRecDepth 100000 in
set_option maxHeartbeats 4000000 in
theorem holds_r {w : World} {RB : Nat} {v : Value} {P : List RL} {L : RT} (S : RTab w RB v P L) (hM : Modes L) (hn0 : L.length ≤ 100000) (t : Int) :
    Calls Try.prog 56 #[.pointer (some ⟨RB, 0, none⟩), .int .u32 t] w fun e w' => ∃ v', e = .returned v' ∧ w'.ownsRow w.heap.size 54 4 v' (rHolds L t).length (hCells (rHolds L t)) ∧ RowKit.Below w.heap.size w w' := by
  obtain ⟨ih, hih, y0, y1, y2⟩ := info_parts infoHold
  obtain ⟨a, cap, rfl, hcap, hcm⟩ := S.shape
  obtain ⟨N, hN⟩ : ∃ N, w.heap.size = N := ⟨_, rfl⟩
  rw [hN]
  obtain ⟨n, hn⟩ : ∃ n, L.length = n := ⟨_, rfl⟩
  rw [hn] at hn0
  have hS : Hid (RTab w RB (.slice a n cap) P L) := Lib.hid (hn ▸ S)
  have hn' := Lib.hid hn
  have hO0 : Hid (w.ownsRow N 54 4 (.slice none 0 0) (rHolds (L.take 0) t).length (hCells (rHolds (L.take 0) t))) := Lib.hid ⟨rfl, .inl ⟨rfl, rfl⟩⟩
  have hB0 : Hid (RowKit.Below N w w) := Lib.hid (RowKit.Below.refl _ _)
  have hMo := Lib.hid hM
  replace hN := Lib.hid hN
  clear S hn hM hcap
  go_enter Try.func56, Try.ntmps56
  go_wp2
  go_loopw [5, 6] (fun v5 v6 wr => ∃ i : Nat, v6 = .int .i64 i ∧ i ≤ n ∧ Hid (wr.ownsRow N 54 4 v5 (rHolds (L.take i) t).length (hCells (rHolds (L.take i) t))) ∧ Hid (RowKit.Below N w wr)) (fun _ v6 _ => n - (intOf v6).toNat)
  case atStart => exact ⟨0, rfl, Nat.zero_le _, hO0, hB0⟩
  case round =>
    clear hO0 hB0
    obtain ⟨i, rfl, hi, O, hB⟩ := hrel
    have hNw : N ≤ wr.heap.size := by have := hB.out.size; have := hN.out; omega
    have hSr := hS.out.below hB.out (by have := hN.out; omega)
    have cR := hSr.c0
    by_cases hin : i < n
    · have hii : (i : Int) < (n : Int) := by omega
      obtain ⟨g, cap', p, e, he0, _, hgl, hp, he, e1, hWh, _, c0, c1, c2, c3, c4⟩ := hSr.at (i := i) (by have := hn'.out; omega)
      rw [hn'.out] at he0
      cases he0
      have hmo := mode_r p.2.1 e.2.1 t wr hWh
      have hpos := modeL_pos (t := t) (hMo.out e (List.mem_of_getElem? he)).1
      have hsuc := rHolds_succ L t he
      have hlen : (rHolds (L.take i) t).length ≤ i := Nat.le_trans (List.length_filterMap_le _ _) (by rw [List.length_take]; omega)
      obtain ⟨⟨⟨x1, x2, x3⟩, va, vb⟩, hx⟩ : ∃ x, p = x := ⟨_, rfl⟩
      subst hx
      simp only at c0 c1 c2 c3 c4 hmo e1
      rw [← e1] at hsuc
      obtain ⟨m, hm⟩ : ∃ m, modeL e.2.1 t = m := ⟨_, rfl⟩
      rw [hm] at hmo hpos hsuc
      obtain ⟨LL, hLL⟩ : ∃ l, rHolds (L.take i) t = l := ⟨_, rfl⟩
      rw [hLL] at O hsuc hlen
      replace hsuc := Lib.hid hsuc
      obtain ⟨a8, c8, rfl⟩ := row_shape O.out
      clear hWh hp hm he e1 hLL hSr hgl
      by_cases hm0 : m = 0
      · subst hm0
        have O2 : Hid (wr.ownsRow N 54 4 (.slice a8 LL.length c8) (rHolds (L.take (i + 1)) t).length (hCells (rHolds (L.take (i + 1)) t))) := Lib.hid (by rw [hsuc.out]; simpa using O.out)
        go_wp2_with (go_at_call 74; refine hmo.mono ?_; intro e w' h; rw [h.1, h.2]; clear h w' e)
        go_roundw
        case rel => exact ⟨i + 1, by go_num, by omega, O2, hB⟩
        case measure => simp [intOf]; omega
      · have hmp : m > 0 := by omega
        have he2 : Hid (rHolds (L.take (i + 1)) t = LL ++ [((x1, x2, x3), m)]) := Lib.hid (by rw [hsuc.out, if_neg hm0])
        have hnewc := Lib.hid (heap_alloc_new wr (.cells #[.int .u8 x1, .int .u32 x2, .int .u32 x3, .int .u8 m] 54))
        clear hsuc
        go_wp2_with (first
          | (go_at_call 74; refine hmo.mono ?_; intro e w' h; rw [h.1, h.2]; clear h w' e)
          | (refine wpList_append_lies _ (by rfl) _ _ _ (by rfl) N 54 ih _ 4 16 Try.underlying50 hih y0 y1 y2 rfl (by omega) (.slice a8 LL.length c8) LL.length (hCells LL) (by rfl) (O.out.alloc _)
                  ⟨wr.heap.size, 0, none⟩ 1 1 (hRow ((x1, x2, x3), m)) (by rfl) (by rfl) (World.news_of_block hnewc.out) (by simp [Value.oneCell', hRow])
                  (by omega) (by unfold maxLen; omega) (by omega) (by simp; omega) (wr.heap.size + 1) (by simp) ?_
             intro gg gcap w4 hown hgrow hat hltg))
        have B4 : RowKit.Below N w w4 := (hB.out.alloc hNw _).trans (below_of_grown hgrow (fun j hj => (row_ge O.out j hj).1) (by simp; omega))
        go_roundw
        case rel => exact ⟨i + 1, by go_num, by omega, Lib.hid (by rw [he2.out, hCells_snoc, List.length_append]; exact hown), Lib.hid B4⟩
        case measure => simp [intOf]; omega
    · obtain rfl : i = n := by omega
      rw [List.take_of_length_le (by have := hn'.out; omega)] at O
      go_wp2
      go_ret
      exact ⟨_, rfl, O.out, hB.out⟩
end Go.Proofs.Ytilknhackmccpaa

set_option linter.unusedVariables false
set_option linter.unusedSimpArgs false
namespace Go.Proofs.Ytilknhackmccpaa
open Go.RowKit Go.Sort Go.Lib Go.Maps

theorem pAll_set (P : List RL) {i : Nat} (hi : i < P.length) (p : RL) : pAll (P.set i p) = (((((pAll P).set (i * 5) (.int .u8 p.1.1)).set (i * 5 + 1) (.int .u32 p.1.2.1)).set (i * 5 + 2) (.int .u32 p.1.2.2)).set (i * 5 + 3) p.2.1).set (i * 5 + 4) p.2.2 := by
  have hl := pAll_length P
  apply List.ext_getElem?
  intro j
  by_cases hj : j < P.length * 5
  · obtain ⟨q, r, hr, rfl⟩ : ∃ q r, r < 5 ∧ j = q * 5 + r := ⟨j / 5, j % 5, by omega, by omega⟩
    have hq : q < P.length := by omega
    by_cases hqi : q = i
    · subst hqi
      rw [pAll_at _ q p r (by simp [hq]) hr]
      match r, hr with
      | 0, _ => rw [List.getElem?_set_ne (by omega), List.getElem?_set_ne (by omega), List.getElem?_set_ne (by omega), List.getElem?_set_ne (by omega), Nat.add_zero, List.getElem?_set_self (by omega)]; rfl
      | 1, _ => rw [List.getElem?_set_ne (by omega), List.getElem?_set_ne (by omega), List.getElem?_set_ne (by omega), List.getElem?_set_self (by simp only [List.length_set]; omega)]; rfl
      | 2, _ => rw [List.getElem?_set_ne (by omega), List.getElem?_set_ne (by omega), List.getElem?_set_self (by simp only [List.length_set]; omega)]; rfl
      | 3, _ => rw [List.getElem?_set_ne (by omega), List.getElem?_set_self (by simp only [List.length_set]; omega)]; rfl
      | 4, _ => rw [List.getElem?_set_self (by simp only [List.length_set]; omega)]; rfl
    · rw [List.getElem?_set_ne (by omega), List.getElem?_set_ne (by omega), List.getElem?_set_ne (by omega), List.getElem?_set_ne (by omega), List.getElem?_set_ne (by omega)]
      rw [pAll_at _ q P[q] r (by rw [List.getElem?_set_ne (Ne.symm hqi)]; exact List.getElem?_eq_getElem hq) hr, pAll_at P q P[q] r (List.getElem?_eq_getElem hq) hr]
  · rw [List.getElem?_eq_none (by rw [pAll_length, List.length_set]; omega), List.getElem?_eq_none (by simp only [List.length_set]; omega)]
theorem RowIs.set {w : World} {P : List RL} {L : RT} (h : RowIs w P L) (i : Nat) (k : Ky) {va vb : Value} {l : Lk} (h1 : WantsR w va l.1) (h2 : WantsR w vb l.2) : RowIs w (P.set i (k, va, vb)) (L.set i (k, l)) := by
  refine ⟨by simp [h.1], fun j p e hp he => ?_⟩
  rw [List.getElem?_set] at hp he
  by_cases hij : i = j
  · rw [if_pos hij] at hp he
    split at hp
    · split at he
      · cases hp; cases he; exact ⟨rfl, h1, h2⟩
      · cases he
    · cases hp
  · rw [if_neg hij] at hp he
    exact h.2 j p e hp he
section
variable {w w' : World} {RB : Nat} {v : Value} {P : List RL} {L : RT}
/-- Another block turns. -/
theorem RTab.other {X : Nat} (h : RTab w RB v P L) (hg : w.grownBy w' (some X)) (h1 : X ≠ RB) (h2 : v.ownBlock ≠ some X) (h3 : ¬ WBR w X) : RTab w' RB v P L :=
  ⟨(hg.block RB h.lt (fun e => h1 (Option.some.inj e).symm)).trans h.cell, h.row.kept hg (.inr h2), h.is.same fun eb he => hg.block eb he.lt (fun e => by
    obtain rfl : eb = X := Option.some.inj e
    exact h3 he)⟩
/-- A lock is put back in its place. -/
theorem RTab.put {g n cap i : Nat} (S : RTab w RB (.slice (some ⟨g, 0, none⟩) n cap) P L) (hi : i < L.length) (k : Ky) {va vb : Value} {l : Lk} (h1 : WantsR w va l.1) (h2 : WantsR w vb l.2) :
    RTab (((((w.setCell ⟨g, i * 5, none⟩ (.int .u8 k.1)).setCell ⟨g, i * 5 + 1, none⟩ (.int .u32 k.2.1)).setCell ⟨g, i * 5 + 2, none⟩ (.int .u32 k.2.2)).setCell ⟨g, i * 5 + 3, none⟩ va).setCell ⟨g, i * 5 + 4, none⟩ vb) RB (.slice (some ⟨g, 0, none⟩) n cap) (P.set i (k, va, vb)) (L.set i (k, l)) ∧
    w.grownBy (((((w.setCell ⟨g, i * 5, none⟩ (.int .u8 k.1)).setCell ⟨g, i * 5 + 1, none⟩ (.int .u32 k.2.1)).setCell ⟨g, i * 5 + 2, none⟩ (.int .u32 k.2.2)).setCell ⟨g, i * 5 + 3, none⟩ va).setCell ⟨g, i * 5 + 4, none⟩ vb) (some g) := by
  have hl := S.is.1
  have hg : w.grownBy (((((w.setCell ⟨g, i * 5, none⟩ (.int .u8 k.1)).setCell ⟨g, i * 5 + 1, none⟩ (.int .u32 k.2.1)).setCell ⟨g, i * 5 + 2, none⟩ (.int .u32 k.2.2)).setCell ⟨g, i * 5 + 3, none⟩ va).setCell ⟨g, i * 5 + 4, none⟩ vb) (some g) :=
    ((((grown_set w g (i * 5) _).trans (grown_set _ g (i * 5 + 1) _)).trans (grown_set _ g (i * 5 + 2) _)).trans (grown_set _ g (i * 5 + 3) _)).trans (grown_set _ g (i * 5 + 4) _)
  rcases S.row.2 with ⟨e, _⟩ | ⟨g', cap', cur, e, hb, hh, hc, hm, hs, ht⟩
  · cases e
  · obtain ⟨rfl, rfl, rfl⟩ : g = g' ∧ n = P.length ∧ cap = cap' := by simpa using e
    have hne : RB ≠ g := by rintro rfl; have := S.cell; rw [hh] at this; cases this
    have hw : ∀ eb, WBR w eb → eb ≠ g := by rintro eb ⟨cs, fr, he⟩ rfl; rw [hh] at he; cases he
    refine ⟨⟨(hg.block RB S.lt (fun e => hne (Option.some.inj e))).trans S.cell, ?_, ((S.is.set i k h1 h2).same fun eb he => hg.block eb he.lt (fun e => hw eb he (Option.some.inj e)))⟩, hg⟩
    refine ⟨by rw [pAll_length], .inr ⟨g, cap, ((((cur.setIfInBounds (i * 5) (.int .u8 k.1)).setIfInBounds (i * 5 + 1) (.int .u32 k.2.1)).setIfInBounds (i * 5 + 2) (.int .u32 k.2.2)).setIfInBounds (i * 5 + 3) va).setIfInBounds (i * 5 + 4) vb, by rw [List.length_set], hb, ?_, by rw [List.length_set]; exact hc, hm, by simpa using hs, ?_⟩⟩
    · simp [World.setCell, Array.getElem?_modify, hh]
    · simp only [Array.toList_setIfInBounds, List.length_set]
      rw [List.take_set, List.take_set, List.take_set, List.take_set, List.take_set, ht, pAll_set P (by omega)]
theorem RTab.froz {g n cap : Nat} (S : RTab w RB (.slice (some ⟨g, 0, none⟩) n cap) P L) (j : Nat) : w.frozen? ⟨g, j, none⟩ = false := by
  rcases S.row.2 with ⟨e, _⟩ | ⟨g', cap', cur, e, hb, hh, _⟩
  · cases e
  · obtain ⟨rfl, -, -⟩ : g = g' ∧ n = P.length ∧ cap = cap' := by simpa using e
    simp [World.frozen?, hh]
end
theorem atL_get {L : RT} (k : Ky) : ∃ l, (atL L k)[atI L k]? = some (k, l) ∧ ((L[atI L k]?).map (·.1) = some k ∧ L[atI L k]? = some (k, l) ∧ atL L k = L ∨ (¬ (L[atI L k]?).map (·.1) = some k) ∧ l = ([], []) ∧ atL L k = L.take (atI L k) ++ (k, ([], [])) :: L.drop (atI L k)) := by
  have hle : atI L k ≤ L.length := by
    rw [atI]
    exact (List.takeWhile_prefix _).length_le
  by_cases h : (L[atI L k]?).map (·.1) = some k
  · obtain ⟨⟨k', l⟩, he, hk⟩ := Option.map_eq_some_iff.1 h
    simp only at hk
    subst hk
    exact ⟨l, by rw [atL, if_pos h]; exact he, .inl ⟨h, he, by rw [atL, if_pos h]⟩⟩
  · refine ⟨([], []), ?_, .inr ⟨h, rfl, by rw [atL, if_neg h]⟩⟩
    rw [atL, if_neg h, ins_get _ _ hle, if_neg (by omega), if_pos rfl]
theorem atL_len (L : RT) (k : Ky) : (atL L k).length ≤ L.length + 1 := by
  rw [atL]
  split
  · omega
  · simp; omega
theorem atL_modes {L : RT} (h : Modes L) (k : Ky) : Modes (atL L k) := by
  rw [atL]
  split
  · exact h
  · intro e he
    rcases List.mem_append.1 he with he | he
    · exact h e (List.mem_of_mem_take he)
    · rcases List.mem_cons.1 he with rfl | he
      · simp
      · exact h e (List.mem_of_mem_drop he)
/-- Ask, at a lock that is there. -/
def rAskAt (L : RT) (i : Nat) (t : Int) (k : Ky) (l : Lk) (M : Int) : Bool × RT :=
  if modeL l.1 t = 2 ∨ modeL l.1 t = M then (true, L)
  else if (rWaits L t).isSome then (false, L)
  else if freeB l.1 (t, M) && (modeL l.1 t != 0 || l.2.length == 0) then (true, L.set i (k, (notL l.1 t ++ [(t, M)], l.2)))
  else (false, L.set i (k, (l.1, insL l.2 (place l.1 l.2 t) (t, M))))
theorem frame_two {w w3 wx w' : World} {RB g : Nat} {v v' : Value} (h1 : w.grownBy w3 (some RB)) (h2 : RowKit.Below w3.heap.size w3 wx) (h3 : wx.grownBy w' (some g)) (hv' : v'.ownBlock = some g) (hv : ∀ g, v'.ownBlock = some g → v.ownBlock = some g ∨ w.heap.size ≤ g) : Two RB (v.ownBlock.getD RB) w w' := by
  refine ⟨h3.os.trans (h2.os.trans h1.os), h3.tape.trans (h2.tape.trans h1.tape), h3.output.trans (h2.output.trans h1.output), Nat.le_trans h1.size (Nat.le_trans h2.size h3.size), fun j hj n1 n2 => ?_⟩
  have e1 := h1.block j hj (fun e => n1 (Option.some.inj e))
  have hj3 := Nat.lt_of_lt_of_le hj h1.size
  have e2 := h2.block j hj3
  refine (h3.block j (Nat.lt_of_lt_of_le hj3 h2.size) (fun e => ?_)).trans (e2.trans e1)
  obtain rfl : j = g := Option.some.inj e
  rcases hv j hv' with h | h
  · exact n2 (by rw [h]; rfl)
  · omega
theorem frame_none {w w3 wx : World} {RB : Nat} (o : Nat) (h1 : w.grownBy w3 (some RB)) (h2 : RowKit.Below w3.heap.size w3 wx) : Two RB o w wx :=
  ⟨h2.os.trans h1.os, h2.tape.trans h1.tape, h2.output.trans h1.output, Nat.le_trans h1.size h2.size, fun j hj n1 _ => (h2.block j (Nat.lt_of_lt_of_le hj h1.size)).trans (h1.block j hj (fun e => n1 (Option.some.inj e)))⟩
end Go.Proofs.Ytilknhackmccpaa
