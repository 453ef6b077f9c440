/- Package lock: slices.Insert at wants; wait. -/
import Derived.Test.YtilknhackmccpaaLckG
import Derived.Lib.Overlaps
import Derived.Lib.AppendZerosOnto
import Derived.Laws.CopyOwn
import Derived.Deep.RegionLaw
set_option linter.unusedVariables false
set_option linter.unusedSimpArgs false
namespace Go.Proofs.Ytilknhackmccpaa
open Go.RowKit Go.Sort Go.Lib

/-- One is put in at a place. -/
def insL (l : List (Int × Int)) (i : Nat) (x : Int × Int) : List (Int × Int) := l.take i ++ x :: l.drop i
theorem insL_length (l : List (Int × Int)) (i : Nat) (x : Int × Int) : (insL l i x).length = l.length + 1 := by
  simp only [insL, List.length_append, List.length_cons, List.length_take, List.length_drop]
  omega
theorem rw_list {w : World} {g N : Nat} {d : List (Int × Int)} (h : RW w g N d) : ∃ L : List Value, w.heap[g]? = some (.cells L.toArray 77 (0, 0)) ∧ L.length = N * 2 ∧ L.take (d.length * 2) = wAll d := by
  obtain ⟨cur, h1, h2, h3, h4⟩ := h
  refine ⟨cur.toList, by simpa using h1, by simpa using h2, ?_⟩
  apply List.ext_getElem?
  intro j
  by_cases hj : j < d.length * 2
  · rw [List.getElem?_take_of_lt hj, Array.getElem?_toList]
    obtain ⟨e1, e2⟩ := wAll_at d (j / 2) (by omega)
    obtain ⟨c1, c2⟩ := h4 (j / 2) (by omega)
    rcases Nat.mod_two_eq_zero_or_one j with h5 | h5
    · obtain e : j = j / 2 * 2 := by omega
      rw [e, c1, e1]
    · obtain e : j = j / 2 * 2 + 1 := by omega
      rw [e, c2, e2]
  · rw [List.getElem?_eq_none (by rw [List.length_take]; omega), List.getElem?_eq_none (by rw [wAll_length]; omega)]
theorem rw_of_list {w : World} {g N : Nat} {d : List (Int × Int)} {L : List Value} (h1 : w.heap[g]? = some (.cells L.toArray 77 (0, 0))) (h2 : L.length = N * 2) (h3 : L.take (d.length * 2) = wAll d) (h4 : d.length ≤ N) : RW w g N d := by
  refine ⟨L.toArray, h1, by simpa using h2, h4, fun i hi => ?_⟩
  obtain ⟨e1, e2⟩ := wAll_at d i hi
  rw [← h3, List.getElem?_take_of_lt (by omega)] at e1 e2
  exact ⟨by rw [List.getElem?_toArray]; exact e1, by rw [List.getElem?_toArray]; exact e2⟩

/-- copy at wants, into a row of which the cells are known. -/
theorem run_copy_w {w : World} {g : Nat} {L : List Value} {ty : TypeId} (hg : w.heap[g]? = some (.cells L.toArray ty (0, 0))) (o dLen dCap : Nat) (ad : Addr) (sLen sCap : Nat) (cs : List Value) (hn : cs.length = Nat.min sLen dLen * 2)
    (hsrc : ∀ j v, cs[j]? = some v → w.cell? (ad.add j) = some v) (hfit : o + cs.length ≤ L.length) (h1 : ∀ v ∈ cs, v.oneCell' = true) (rt : TypeId) :
    (Builtin.copy_ #[78, 78] rt #[.slice (some ⟨g, o, none⟩) dLen dCap, .slice (some ad) sLen sCap]).run Try.prog w = .ok (goInt (Nat.min sLen dLen)) (w.setRow g (splice L o cs).toArray) := by
  have hl := run_loadCells_list (P := Try.prog) w ad cs hsrc
  have hst := run_storeCells_at Try.prog g o ty cs 0 L.toArray w hg (by simpa using hfit) h1
  obtain ⟨i0, hi0, hz0, hz1, hz2⟩ := info_parts info_w
  have hz : (Go.sizeOf 77).run Try.prog w = .ok 2 w := size_w w
  simp [Builtin.copy_, run_underlying Try.underlying78, Builtin.lenOf, Builtin.firstCells, hz, ← hn, hl, hst, splice]
theorem wp_copy_run {P : Program} (w : World) {o : Oper} {a : Act} {K : Act → World → Prop} {Q : Exit → Act → World → Prop} (d s : Operand) (t t' : TypeId)
    (ho : o.op = .call { callee := .builtin .copy, args := #[d, s], argTypes := #[t, t'] }) (v u : Value) (hd : a.eval d = v) (hs : a.eval s = u) {v' : Value} {w' : World}
    (hr : (Builtin.copy_ #[t, t'] o.type #[v, u]).run P w = .ok v' w') (h : K (a.put o.dst v') w') : o.wp P a w K Q := by
  unfold Oper.wp execOp
  simp only [ho, resolve, invoke, builtin, Sem.run_bind, Sem.run_pure, Result.andThen_ok, List.map_toArray, List.map_cons, List.map_nil, hd, hs, hr]
  exact h
theorem wpList_copy_run {P : Program} (w : World) {ops : Array Oper} {rest : List Oper} {o : Oper} {a : Act} {Q : Exit → Act → World → Prop} (hgd : o.guard = none) (d s : Operand) (t t' : TypeId)
    (ho : o.op = .call { callee := .builtin .copy, args := #[d, s], argTypes := #[t, t'] }) (v u : Value) (hd : a.eval d = v) (hs : a.eval s = u) {v' : Value} {w' : World}
    (hr : (Builtin.copy_ #[t, t'] o.type #[v, u]).run P w = .ok v' w') (h : wpList P ops Q rest (a.put o.dst v') w') : wpList P ops Q (o :: rest) a w :=
  wpList_plain hgd fun _ hK => wp_copy_run w d s t t' ho v u hd hs hr (hK _ _ h)
theorem wAll_x (x : Int × Int) : wAll [x] = wCells x := by simp [wAll]
theorem x_src {w : World} {vb : Nat} {x : Int × Int} {ty : TypeId} {fr : Nat × Nat} (hg : w.heap[vb]? = some (.cells #[.int .u32 x.1, .int .u8 x.2] ty fr)) : ∀ j v, (wAll [x])[j]? = some v → w.cell? ((⟨vb, 0, none⟩ : Addr).add j) = some v := by
  intro j u hj
  rw [Addr.add_lit, Nat.zero_add, cell_of_heap hg]
  rw [wAll_x] at hj
  match j, hj with
  | 0, hj => simpa [wCells] using hj
  | 1, hj => simpa [wCells] using hj
  | j + 2, hj => simp [wCells] at hj
theorem grown_setRow (w : World) (g : Nat) (cs : Array Value) : w.grownBy (w.setRow g cs) (some g) :=
  ⟨rfl, rfl, rfl, by simp [World.setRow], fun k hk hne => setRow_other w g k _ (fun e => hne (by rw [e]))⟩
theorem wAll_split (l : List (Int × Int)) (i : Nat) : wAll l = wAll (l.take i) ++ wAll (l.drop i) := by rw [← wAll_append, List.take_append_drop]

/-- slices.Insert, in the midst, where there is room. -/
theorem shift_cells {L : List Value} {l : List (Int × Int)} {N i : Nat} (x : Int × Int) (hL : L.length = N * 2) (ht : L.take (l.length * 2) = wAll l) (hi : i < l.length) (hN : l.length + 1 ≤ N) :
    (splice (splice L ((i + 1) * 2) (wAll (l.drop i))) (i * 2) (wAll [x])).take ((insL l i x).length * 2) = wAll (insL l i x) := by
  obtain ⟨R, hR⟩ : ∃ R, R = L.drop (l.length * 2) := ⟨_, rfl⟩
  have hs : L = wAll (l.take i) ++ (wAll (l.drop i) ++ R) := by rw [← List.append_assoc, ← wAll_split, ← ht, hR, List.take_append_drop]
  have h1 : (wAll (l.take i)).length = i * 2 := by rw [wAll_length, List.length_take]; omega
  have h2 : (wAll (l.drop i)).length = (l.length - i) * 2 := by rw [wAll_length, List.length_drop]
  have h3 : (wAll [x]).length = 2 := rfl
  have hRl : R.length = N * 2 - l.length * 2 := by rw [hR, List.length_drop, hL]
  rw [insL_length, insL, wAll_append, show x :: l.drop i = [x] ++ l.drop i from rfl, wAll_append]
  generalize wAll (l.take i) = A at *
  generalize hB : wAll (l.drop i) = B at *
  generalize wAll [x] = X at *
  have e1 : (splice L ((i + 1) * 2) B).take (i * 2) = A := by
    rw [splice, List.take_append_of_le_length (by rw [List.length_take]; omega), List.take_take, hs, List.take_append_of_le_length (by omega), List.take_of_length_le (by omega)]
  have e2 : (splice L ((i + 1) * 2) B).drop (i * 2 + X.length) = B ++ L.drop ((i + 1) * 2 + B.length) := by
    rw [splice, h3, show i * 2 + 2 = (L.take ((i + 1) * 2)).length by rw [List.length_take]; omega, List.drop_left]
  rw [show splice (splice L ((i + 1) * 2) B) (i * 2) X = A ++ (X ++ (B ++ L.drop ((i + 1) * 2 + B.length))) by rw [splice, e1, e2]]
  rw [← List.append_assoc, ← List.append_assoc, ← List.append_assoc, List.take_append_of_le_length (by simp only [List.length_append]; omega), List.take_of_length_le (by simp only [List.length_append]; omega)]

set_option maxRecDepth 100000 in
set_option maxHeartbeats 4000000 in
theorem ins_shift (g cap : Nat) (l : List (Int × Int)) (i : Nat) (x : Int × Int) (vb n : Nat) (w : World) (hn : l.length = n) (hR : RW w g cap l) (hi : i < n) (hroom : n + 1 ≤ cap) (hcap : cap ≤ maxLen) (hvb : w.heap[vb]? = some (.cells #[.int .u32 x.1, .int .u8 x.2] 77)) (hne : vb ≠ g) :
    Calls Try.prog 67 #[.slice (some ⟨g, 0, none⟩) n cap, .int .i64 i, .slice (some ⟨vb, 0, none⟩) 1 1] w fun e w' => e = .returned (.slice (some ⟨g, 0, none⟩) (n + 1) cap) ∧ RW w' g cap (insL l i x) ∧ w.grownBy w' (some g) := by
  obtain ⟨L, hg, hLl, ht⟩ := rw_list hR
  have hz2 : ¬ ((i : Int) = (n : Int)) := by omega
  have hcm : cap ≤ 9223372036854775807 := by unfold maxLen at hcap; omega
  have hsh : ∀ W : World, W.heap[vb]? = some (.cells #[.int .u32 x.1, .int .u8 x.2] 77) → W.heap[g]? = some (.cells L.toArray 77 (0, 0)) → ∀ lb cb, (callFunc 81 #[.slice (some ⟨vb, 0, none⟩) 1 1, .slice (some ⟨g, (i + 1) * 2, none⟩) lb cb]).run Try.prog W = .ok (.value (.bool false)) W := fun W hv hg lb cb => by
    rw [run_callFunc_extern Try.func81 (by kernel_rfl) (by kernel_rfl) (by kernel_rfl) (e := Extern.SlicesOverlaps.overlaps #[78, 78] #[4]) (by kernel_rfl),
      Lib.run_overlaps_apart W 78 4 77 Try.underlying78 2 size_w ⟨vb, 0, none⟩ ⟨g, (i + 1) * 2, none⟩ 1 1 lb cb hne 77 77 2 L.length (by simp [World.shape?, hv]) (by simp [World.shape?, hg]) (by omega) (by simp [World.frozen?, hv]) (by simp [World.frozen?, hv])]
    rfl
  have hov := hsh w hvb hg
  have hlt := hR.lt
  have h2 : (wAll (l.drop i)).length = (n - i) * 2 := by rw [wAll_length, List.length_drop, hn]
  have hcp1 : ∀ ty dc sc, (Builtin.copy_ #[78, 78] ty #[.slice (some ⟨g, (i + 1) * 2, none⟩) (n - i) dc, .slice (some ⟨g, i * 2, none⟩) (n + 1 - i) sc]).run Try.prog w.drew = .ok (goInt (Nat.min (n + 1 - i) (n - i))) (w.drew.setRow g (splice L ((i + 1) * 2) (wAll (l.drop i))).toArray) := fun ty dc sc =>
    run_copy_w (w := w.drew) hg ((i + 1) * 2) (n - i) dc ⟨g, i * 2, none⟩ (n + 1 - i) sc (wAll (l.drop i)) (by rw [h2]; simp only [Nat.min_def]; split <;> omega)
      (fun j v hj => by
        have hjl := (List.getElem?_eq_some_iff.1 hj).1
        rw [h2] at hjl
        have e : (wAll l)[i * 2 + j]? = some v := by
          rw [wAll_split l i, List.getElem?_append_right (by rw [wAll_length, List.length_take]; omega), wAll_length, List.length_take, show i * 2 + j - min i l.length * 2 = j by omega]
          exact hj
        rw [← ht, List.getElem?_take_of_lt (by omega)] at e
        rw [Addr.add_lit]
        show w.cell? _ = _
        rw [cell_of_heap hg, List.getElem?_toArray]
        exact e) (by rw [h2]; omega) (wAll_one _) ty
  obtain ⟨L1, hL1⟩ : ∃ L1, splice L ((i + 1) * 2) (wAll (l.drop i)) = L1 := ⟨_, rfl⟩
  have hL1l : L1.length = cap * 2 := by rw [← hL1, length_splice _ _ _ (by rw [h2]; omega), hLl]
  rw [hL1] at hcp1
  obtain ⟨W1, hW1⟩ : ∃ W1, w.drew.setRow g L1.toArray = W1 := ⟨_, rfl⟩
  have hg1 : W1.heap[g]? = some (.cells L1.toArray 77 (0, 0)) := by rw [← hW1]; exact setRow_heap _ g _ _ _ _ hg
  have hv1 : W1.heap[vb]? = some (.cells #[.int .u32 x.1, .int .u8 x.2] 77) := by rw [← hW1]; exact (setRow_other _ g vb _ hne).trans hvb
  have hcp2 : ∀ ty dc, (Builtin.copy_ #[78, 78] ty #[.slice (some ⟨g, i * 2, none⟩) (n + 1 - i) dc, .slice (some ⟨vb, 0, none⟩) 1 1]).run Try.prog W1 = .ok (goInt (Nat.min 1 (n + 1 - i))) (W1.setRow g (splice L1 (i * 2) (wAll [x])).toArray) := fun ty dc =>
    run_copy_w (w := W1) hg1 (i * 2) (n + 1 - i) dc ⟨vb, 0, none⟩ 1 1 (wAll [x]) (by show 2 = _; simp only [Nat.min_def]; split <;> omega) (x_src hv1) (by show i * 2 + 2 ≤ _; omega) (wAll_one _) ty
  rw [hW1] at hcp1
  have hfin : Hid (RW (W1.setRow g (splice L1 (i * 2) (wAll [x])).toArray) g cap (insL l i x) ∧ w.grownBy (W1.setRow g (splice L1 (i * 2) (wAll [x])).toArray) (some g)) := by
    refine Lib.hid ⟨rw_of_list (setRow_heap _ g _ _ _ _ hg1) ?_ ?_ (by rw [insL_length]; omega), ?_⟩
    · rw [length_splice _ _ _ (by show i * 2 + 2 ≤ _; omega), hL1l]
    · rw [← hL1]; exact shift_cells x hLl ht (by omega) (by omega)
    · rw [← hW1]; exact World.grownBy.trans (⟨rfl, rfl, rfl, Nat.le_refl _, fun _ _ _ => rfl⟩ : w.grownBy w.drew (some g)) (World.grownBy.trans (grown_setRow w.drew g _) (grown_setRow _ g _))
  obtain ⟨W2, hW2⟩ : ∃ W2, W1.setRow g (splice L1 (i * 2) (wAll [x])).toArray = W2 := ⟨_, rfl⟩
  rw [hW2] at hcp2 hfin
  have hw1 : IntKind.i64.wrap ((i : Int) + 1) = (i : Int) + 1 := by rw [IntKind.wrap_i64]; omega
  have hb1 : (0 : Int) ≤ (i : Int) + 1 := by omega
  have htn : ((i : Int) + 1).toNat = i + 1 := by omega
  have hb2 : ¬ (cap = i + 1) := by omega
  have hb3 : (i : Int) ≤ (n : Int) + 1 := by omega
  have hb4 : ¬ (cap = i) := by omega
  have hin : i ≤ n := by omega
  clear hsh hW2 hW1 hL1 hg1 hv1 hvb hg h2 ht hR hLl hL1l
  go_enter Try.func67, Try.ntmps67
  go_wp2_with (simp only [hov])
  go_region_law (refine step_of_wp (by rfl) (wp_copy_run _ (.tmp 73) (.tmp 76) 78 78 (by rfl) _ _ (by simp [Act.eval, Act.put]) (by simp [Act.eval, Act.put]) (hcp1 _ _ _) ?_))
  go_wp2_with (at_builtin; refine wpList_copy_run _ rfl (.tmp 80) (.tmp 81) 78 78 rfl _ _ rfl rfl (hcp2 _ _) ?_)
  go_ret
  exact ⟨rfl, hfin.out.1, hfin.out.2⟩
theorem grow_cells {L : List Value} {l : List (Int × Int)} {i : Nat} (x : Int × Int) (ht : L.take (i * 2) = wAll (l.take i)) (hi : i ≤ l.length) :
    (splice (splice L (i * 2) (wAll [x])) ((i + 1) * 2) (wAll (l.drop i))).take ((insL l i x).length * 2) = wAll (insL l i x) := by
  have h2 : (wAll (l.drop i)).length = (l.length - i) * 2 := by rw [wAll_length, List.length_drop]
  have h1 : (wAll (l.take i)).length = i * 2 := by rw [wAll_length, List.length_take]; omega
  have h3 : (wAll [x]).length = 2 := rfl
  rw [insL_length, insL, wAll_append, show x :: l.drop i = [x] ++ l.drop i from rfl, wAll_append]
  have e1 : (splice L (i * 2) (wAll [x])).take ((i + 1) * 2) = wAll (l.take i) ++ wAll [x] := by
    rw [splice, ht, ← List.append_assoc, List.take_append_of_le_length (by rw [List.length_append]; omega), List.take_of_length_le (by rw [List.length_append]; omega)]
  rw [show splice (splice L (i * 2) (wAll [x])) ((i + 1) * 2) (wAll (l.drop i)) = (wAll (l.take i) ++ wAll [x]) ++ (wAll (l.drop i) ++ (splice L (i * 2) (wAll [x])).drop ((i + 1) * 2 + (wAll (l.drop i)).length)) by rw [← e1]; rfl]
  rw [← List.append_assoc, ← List.append_assoc, List.take_append_of_le_length (by simp only [List.length_append]; omega), List.take_of_length_le (by simp only [List.length_append]; omega)]
theorem src_mid {w : World} {g : Nat} {L : List Value} {l : List (Int × Int)} {ty : TypeId} {fr : Nat × Nat} (i : Nat) (hg : w.heap[g]? = some (.cells L.toArray ty fr)) (ht : L.take (l.length * 2) = wAll l) (hi : i ≤ l.length) : ∀ j v, (wAll (l.drop i))[j]? = some v → w.cell? ((⟨g, i * 2, none⟩ : Addr).add j) = some v := by
  intro j v hj
  have hjl := (List.getElem?_eq_some_iff.1 hj).1
  rw [wAll_length, List.length_drop] at hjl
  have e : (wAll l)[i * 2 + j]? = some v := by
    rw [wAll_split l i, List.getElem?_append_right (by rw [wAll_length, List.length_take]; omega), wAll_length, List.length_take, show i * 2 + j - min i l.length * 2 = j by omega]
    exact hj
  rw [← ht, List.getElem?_take_of_lt (by omega)] at e
  rw [Addr.add_lit, cell_of_heap hg, List.getElem?_toArray]
  exact e
theorem zeroCells_length (n : Nat) : (Builtin.zeroCells (Value.agg #[.int .u32 0, .int .u8 0]).cells n).size = n * 2 := by simp [Builtin.zeroCells, Value.cells]

set_option maxRecDepth 100000 in
set_option maxHeartbeats 4000000 in
theorem ins_grow (g cap : Nat) (l : List (Int × Int)) (i : Nat) (x : Int × Int) (vb n : Nat) (w : World) (hn : l.length = n) (hR : RW w g cap l) (hi : i < n) (hnc : n ≤ cap) (hroom : cap < n + 1) (hbig : n < 1000000) (hvb : w.heap[vb]? = some (.cells #[.int .u32 x.1, .int .u8 x.2] 77)) :
    Calls Try.prog 67 #[.slice (some ⟨g, 0, none⟩) n cap, .int .i64 i, .slice (some ⟨vb, 0, none⟩) 1 1] w fun e w' => ∃ G, e = .returned (.slice (some ⟨w.heap.size, 0, none⟩) (n + 1) G) ∧ n + 1 ≤ G ∧ G ≤ maxLen ∧ RW w' w.heap.size G (insL l i x) ∧ w.grownBy w' none := by
  obtain ⟨L, hg, hLl, ht⟩ := rw_list hR
  obtain ⟨i0, hi0, hz0, hzs, hzb⟩ := info_parts info_w
  have hlt := hR.lt
  have hvl := (Array.getElem?_eq_some_iff.1 hvb).1
  have hz2 : ¬ ((i : Int) = (n : Int)) := by omega
  have hz3 : (cap : Int) < (n : Int) + 1 := by omega
  have hkk : (n : Int) + 1 - (i : Int) = ((n + 1 - i : Nat) : Int) := by omega
  have hik : i + (n + 1 - i) = n + 1 := by omega
  have h1 : (wAll (l.take i)).length = i * 2 := by rw [wAll_length, List.length_take]; omega
  have hold : (Builtin.firstCells i0.size i (.slice (some ⟨g, 0, none⟩) i cap)).run Try.prog w.drew = .ok (wAll (l.take i)).toArray w.drew := by
    rw [hzs]
    exact run_firstCells_some w.drew 2 i ⟨g, 0, none⟩ i cap (wAll (l.take i)) (by rw [h1]) (fun j v hj => by
      have hjl := (List.getElem?_eq_some_iff.1 hj).1
      rw [h1] at hjl
      have e : (wAll l)[j]? = some v := by rw [wAll_split l i, List.getElem?_append_left (by omega)]; exact hj
      rw [← ht, List.getElem?_take_of_lt (by omega)] at e
      rw [Addr.add_lit, Nat.zero_add]
      show w.cell? _ = _
      rw [cell_of_heap hg, List.getElem?_toArray]
      exact e)
  obtain ⟨G, hG⟩ : ∃ G, G = grownCap w (n + 1) cap 77 := ⟨_, rfl⟩
  have hrz : ∀ ty, (Builtin.append_ #[78, 3] ty #[.slice (some ⟨g, 0, none⟩) i cap, .int .i64 ((n : Int) + 1 - (i : Int))]).run Try.prog w = .ok (.slice (some ⟨w.heap.size, 0, none⟩) (n + 1) G) (w.drew.alloc (.cells ((wAll (l.take i)).toArray ++ Builtin.zeroCells (Value.agg #[.int .u32 0, .int .u8 0]).cells (n + 1 - i) ++ Builtin.zeroCells (Value.agg #[.int .u32 0, .int .u8 0]).cells (G - (n + 1))) 77)) := fun ty => by
    have h := Lib.run_append_grow_zeros w 78 3 ty 77 i0 _ .i64 .i64 Try.underlying78 Try.underlying3 hi0 hz0 (some ⟨g, 0, none⟩) i cap (wAll (l.take i)) hold (n + 1 - i) (by omega) (by omega) (by omega) (by omega) (by rw [hzb]; omega) (by rw [hzb, hik]; exact growslice_fits hroom (by omega))
    rw [hik, ← hG] at h
    rw [hkk]
    exact h
  obtain ⟨ROW, hROW⟩ : ∃ ROW : List Value, ROW = ((wAll (l.take i)).toArray ++ Builtin.zeroCells (Value.agg #[.int .u32 0, .int .u8 0]).cells (n + 1 - i) ++ Builtin.zeroCells (Value.agg #[.int .u32 0, .int .u8 0]).cells (G - (n + 1))).toList := ⟨_, rfl⟩
  have hGn : n + 1 ≤ G := by rw [hG]; exact grownCap_ge w _ _ _
  have hGm : G ≤ maxLen := by rw [hG]; exact grownCap_le_maxLen w (n + 1) cap 77 (by unfold maxLen; omega)
  have hRl : ROW.length = G * 2 := by
    rw [hROW, Array.length_toList, Array.size_append, Array.size_append, zeroCells_length, zeroCells_length, List.size_toArray, h1]
    omega
  have hRt : ROW.take (i * 2) = wAll (l.take i) := by
    rw [hROW, Array.toList_append, Array.toList_append, List.append_assoc, List.take_append_of_le_length (by rw [h1]; exact Nat.le_refl _), List.take_of_length_le (by rw [h1]; exact Nat.le_refl _)]
  have hRa : (wAll (l.take i)).toArray ++ Builtin.zeroCells (Value.agg #[.int .u32 0, .int .u8 0]).cells (n + 1 - i) ++ Builtin.zeroCells (Value.agg #[.int .u32 0, .int .u8 0]).cells (G - (n + 1)) = ROW.toArray := by rw [hROW]
  rw [hRa] at hrz
  clear hROW hRa hold
  obtain ⟨W1, hW1⟩ : ∃ W1, w.drew.alloc (.cells ROW.toArray 77) = W1 := ⟨_, rfl⟩
  rw [hW1] at hrz
  obtain ⟨N, hN⟩ : ∃ N, w.heap.size = N := ⟨_, rfl⟩
  have a1 : w.grownBy W1 none := by rw [← hW1]; exact World.grownBy.trans (⟨rfl, rfl, rfl, Nat.le_refl _, fun _ _ _ => rfl⟩ : w.grownBy w.drew none) (World.grownBy_alloc w.drew _ none)
  have n1 : W1.heap[N]? = some (.cells ROW.toArray 77 (0, 0)) := by rw [← hW1, ← hN]; exact heap_alloc_new w.drew _
  have v1 : W1.heap[vb]? = some (.cells #[.int .u32 x.1, .int .u8 x.2] 77) := (a1.block vb hvl (by simp)).trans hvb
  have g1 : W1.heap[g]? = some (.cells L.toArray 77 (0, 0)) := (a1.block g hlt (by simp)).trans hg
  have hx2 : (wAll [x]).length = 2 := rfl
  have hcpA : ∀ (ty : TypeId) dc, (Builtin.copy_ #[78, 78] ty #[.slice (some ⟨N, i * 2, none⟩) (n + 1 - i) dc, .slice (some ⟨vb, 0, none⟩) 1 1]).run Try.prog W1 = .ok (goInt (Nat.min 1 (n + 1 - i))) (W1.setRow N (splice ROW (i * 2) (wAll [x])).toArray) := fun ty dc =>
    run_copy_w n1 (i * 2) (n + 1 - i) dc ⟨vb, 0, none⟩ 1 1 (wAll [x]) (by show 2 = _; simp only [Nat.min_def]; split <;> omega) (x_src v1) (by omega) (wAll_one _) ty
  obtain ⟨R1, hR1⟩ : ∃ R1, splice ROW (i * 2) (wAll [x]) = R1 := ⟨_, rfl⟩
  rw [hR1] at hcpA
  have hR1l : R1.length = G * 2 := by rw [← hR1, length_splice _ _ _ (by omega), hRl]
  obtain ⟨W2, hW2⟩ : ∃ W2, W1.setRow N R1.toArray = W2 := ⟨_, rfl⟩
  have n2 : W2.heap[N]? = some (.cells R1.toArray 77 (0, 0)) := by rw [← hW2]; exact setRow_heap _ N _ _ _ _ n1
  have g2 : W2.heap[g]? = some (.cells L.toArray 77 (0, 0)) := by rw [← hW2]; exact (setRow_other _ N g _ (by omega)).trans g1
  rw [hW2] at hcpA
  have h2 : (wAll (l.drop i)).length = (n - i) * 2 := by rw [wAll_length, List.length_drop, hn]
  have hcpB : ∀ (ty : TypeId) dc sc, (Builtin.copy_ #[78, 78] ty #[.slice (some ⟨N, (i + 1) * 2, none⟩) (n - i) dc, .slice (some ⟨g, i * 2, none⟩) (n - i) sc]).run Try.prog W2.drew = .ok (goInt (Nat.min (n - i) (n - i))) (W2.drew.setRow N (splice R1 ((i + 1) * 2) (wAll (l.drop i))).toArray) := fun ty dc sc =>
    run_copy_w (w := W2.drew) n2 ((i + 1) * 2) (n - i) dc ⟨g, i * 2, none⟩ (n - i) sc (wAll (l.drop i)) (by rw [h2]; simp) (src_mid (w := W2.drew) i g2 ht (by omega)) (by omega) (wAll_one _) ty
  have hfin : Hid (RW (W2.drew.setRow N (splice R1 ((i + 1) * 2) (wAll (l.drop i))).toArray) N G (insL l i x) ∧ w.grownBy (W2.drew.setRow N (splice R1 ((i + 1) * 2) (wAll (l.drop i))).toArray) none) := by
    refine Lib.hid ⟨rw_of_list (setRow_heap W2.drew _ _ _ _ _ n2) ?_ ?_ (by rw [insL_length]; omega), ?_⟩
    · rw [length_splice _ _ _ (by omega), hR1l]
    · rw [← hR1]; exact grow_cells x hRt (by omega)
    · have b : W1.grownBy (W2.drew.setRow N (splice R1 ((i + 1) * 2) (wAll (l.drop i))).toArray) (some N) := by
        rw [← hW2]
        exact World.grownBy.trans (grown_setRow W1 N _) (World.grownBy.trans (⟨rfl, rfl, rfl, Nat.le_refl _, fun _ _ _ => rfl⟩ : (W1.setRow N R1.toArray).grownBy (W1.setRow N R1.toArray).drew (some N)) (grown_setRow _ N _))
      exact ⟨b.os.trans a1.os, b.tape.trans a1.tape, b.output.trans a1.output, Nat.le_trans a1.size b.size, fun k hk _ => (b.block k (Nat.lt_of_lt_of_le hk a1.size) (by simp; omega)).trans (a1.block k hk (by simp))⟩
  obtain ⟨W3, hW3⟩ : ∃ W3, W2.drew.setRow N (splice R1 ((i + 1) * 2) (wAll (l.drop i))).toArray = W3 := ⟨_, rfl⟩
  rw [hW3] at hcpB hfin
  have hw1 : IntKind.i64.wrap ((i : Int) + 1) = (i : Int) + 1 := by rw [IntKind.wrap_i64]; omega
  have hb1 : (0 : Int) ≤ (i : Int) + 1 := by omega
  have htn : ((i : Int) + 1).toNat = i + 1 := by omega
  have hG63 : G ≤ 9223372036854775807 := by unfold maxLen at hGm; omega
  have hGi : ¬ (G = i) := by omega
  have hGim : ¬ (G = i + 1) := by omega
  have hci : ¬ (cap = i) := by omega
  have hin : i ≤ n := by omega
  have hb3 : (i : Int) ≤ (n : Int) := by omega
  have hGh := Lib.hid hGm
  rw [hN] at hrz ⊢
  clear hW3 hW2 hW1 hR1 n1 n2 g1 g2 v1 a1 hvb hg h2 ht hR hLl hR1l hkk hG hGm hRl hRt h1 hx2 hik hi0 hz0 hzs hzb
  go_enter Try.func67, Try.ntmps67
  go_wp2_with (first
    | (at_builtin; refine Lib.wpList_append_run _ rfl (.tmp 34) (.tmp 39) _ _ rfl _ _ rfl rfl _ _ (hrz _) ?_)
    | (at_builtin; refine wpList_copy_run _ rfl (.tmp 43) (.tmp 44) 78 78 rfl _ _ rfl rfl (hcpA _ _) ?_))
  go_region_law (refine step_of_wp (by rfl) (wp_copy_run _ (.tmp 50) (.tmp 53) 78 78 (by rfl) _ _ (by simp [Act.eval, Act.put]) (by simp [Act.eval, Act.put]) (hcpB _ _ _) ?_))
  go_wp2
  go_ret
  exact ⟨G, rfl, hGn, hGh.out, hfin.out.1, hfin.out.2⟩
set_option maxRecDepth 100000 in
set_option maxHeartbeats 4000000 in
theorem ins_end (a : Option Addr) (n cap : Nat) (vb : Nat) (w : World) (hnc : n ≤ cap) (hcap : cap ≤ maxLen) (hsp : ∀ ad, a = some ad → ad = ⟨ad.block, ad.off, none⟩) (hnil : a = none → cap = 0) {v' : Value} {w' : World}
    (hr : ∀ ty, (Builtin.append_ #[78, 78] ty #[.slice a n cap, .slice (some ⟨vb, 0, none⟩) 1 1]).run Try.prog w = .ok v' w') :
    Calls Try.prog 67 #[.slice a n cap, .int .i64 n, .slice (some ⟨vb, 0, none⟩) 1 1] w fun e w1 => e = .returned v' ∧ w1 = w' := by
  have hcm : cap ≤ 9223372036854775807 := by unfold maxLen at hcap; omega
  cases a with
  | none =>
    have h0 := hnil rfl
    subst h0
    obtain rfl : n = 0 := by omega
    clear hsp hnil hcap
    go_enter Try.func67, Try.ntmps67
    go_wp2_with (at_builtin; refine Lib.wpList_append_run _ rfl (.tmp 23) (.tmp 24) _ _ rfl _ _ rfl rfl _ _ (hr _) ?_)
    go_ret
    exact ⟨rfl, rfl⟩
  | some ad =>
    rw [hsp ad rfl] at hr ⊢
    obtain ⟨b, o, s⟩ := ad
    simp only at hr ⊢
    clear hsp hnil hcap
    go_enter Try.func67, Try.ntmps67
    go_wp2_with (at_builtin; refine Lib.wpList_append_run _ rfl (.tmp 23) (.tmp 24) _ _ rfl _ _ rfl rfl _ _ (hr _) ?_)
    all_goals (go_ret; exact ⟨rfl, rfl⟩)
/-- slices.Insert of one want into a list of the call's own. -/
theorem ins_own (base : Nat) (v : Value) (l : List (Int × Int)) (i : Nat) (x : Int × Int) (vb : Nat) (w : World) (hO : OwnL w base v l) (hi : i ≤ l.length) (hl : l.length < 1000000) (hbase : base ≤ w.heap.size)
    (hvb : w.heap[vb]? = some (.cells #[.int .u32 x.1, .int .u8 x.2] 77)) (hne : ∀ g, v.ownBlock = some g → vb ≠ g) :
    Calls Try.prog 67 #[v, .int .i64 i, .slice (some ⟨vb, 0, none⟩) 1 1] w fun e w' => ∃ v', e = .returned v' ∧ OwnL w' base v' (insL l i x) ∧ w.grownBy w' v.ownBlock := by
  by_cases hin : i = l.length
  · subst hin
    obtain ⟨v', w', _, h2, h3⟩ := run_append_w w base v l hO vb 0 1 1 [x] rfl (fun j u hj => by have := x_src hvb j u hj; rwa [Addr.add_lit] at this) (by omega) hbase 0
    have hr : ∀ ty, (Builtin.append_ #[78, 78] ty #[v, .slice (some ⟨vb, 0, none⟩) 1 1]).run Try.prog w = .ok v' w' := fun ty => by assumption
    have e : insL l l.length x = l ++ [x] := by simp [insL]
    rw [e]
    rcases hO with ⟨rfl, rfl⟩ | ⟨g, cap, rfl, _, hn, hc, hR⟩
    · refine (ins_end none 0 0 vb w (by omega) (by unfold maxLen; omega) (by rintro ad ⟨⟩) (fun _ => rfl) hr).mono ?_
      rintro e w1 ⟨rfl, rfl⟩
      exact ⟨_, rfl, h2, h3⟩
    · refine (ins_end _ _ cap vb w hn hc (by rintro ad ⟨⟩; rfl) (by rintro ⟨⟩) hr).mono ?_
      rintro e w1 ⟨rfl, rfl⟩
      exact ⟨_, rfl, h2, h3⟩
  · rcases hO with ⟨rfl, rfl⟩ | ⟨g, cap, rfl, hb, hn, hc, hR⟩
    · simp at hi hin
      omega
    · by_cases hroom : l.length + 1 ≤ cap
      · refine (ins_shift g cap l i x vb l.length w rfl hR (by omega) hroom hc hvb (hne g rfl)).mono ?_
        rintro e w1 ⟨rfl, h1, h2⟩
        exact ⟨_, rfl, .inr ⟨g, cap, by rw [insL_length], hb, by rw [insL_length]; exact hroom, hc, h1⟩, h2⟩
      · refine (ins_grow g cap l i x vb l.length w rfl hR (by omega) hn (by omega) hl hvb).mono ?_
        rintro e w1 ⟨G, rfl, h0, h1, h2, h3⟩
        exact ⟨_, rfl, .inr ⟨_, G, by rw [insL_length], hbase, by rw [insL_length]; exact h0, h1, h2⟩, h3.but _⟩
end Go.Proofs.Ytilknhackmccpaa
