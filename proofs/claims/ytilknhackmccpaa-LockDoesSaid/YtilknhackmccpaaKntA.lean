/- Edges in memory; the groups of 'waits': plain facts; the word for a range over a map of which entries are stored anew (Rng). -/
import Derived.Test.YtilknhackmccpaaSrtH
import Derived.Maps.OwnRows
import Derived.Maps.GroupsBeside
import Derived.Maps.RangeWalk
import Derived.Maps.Views
import Derived.Deep.AppendLies
import Derived.Deep.RegionHeld2
set_option linter.unusedVariables false
set_option linter.unusedSimpArgs false
namespace Go.Proofs.Ytilknhackmccpaa
open Go.RowKit Go.Sort Go.Maps Go.ChangeMaps Go.MapKept Go.ChangeShapes

theorem law_u : Keyed Try.prog 23 := int_keyed Try.underlying23
theorem zero_us (w : World) : (zeroValue 24).run Try.prog w = .ok (.slice none 0 0) w := by kernel_rfl
theorem zero_int (w : World) : (zeroValue 3).run Try.prog w = .ok (.int .i64 0) w := by kernel_rfl
theorem info_u : (Try.prog.info? 23).map (fun i => (i.zero, i.size, i.bytes)) = some (some (.int .u32 0), 1, 4) := by kernel_rfl

/-- A number of 32 bits. -/
def U (x : Int) : Prop := 0 ≤ x ∧ x ≤ 4294967295
theorem U.wf {x : Int} (h : U x) : (Lit.int .u32 x).wf = true := WalkArith.wf_u32 h
theorem U.of {x : Int} (h : (Lit.int .u32 x).wf = true) : U x := by
  simp only [Lit.wf, Bool.and_eq_true, decide_eq_true_eq] at h
  exact h
theorem U.key {x : Int} (h : U x) : keyOf Try.prog 23 (.int .u32 x) = some (.int .u32 x) := keyOf_int_mk Try.underlying23 h.wf

/-- Edges that lie behind an address. -/
def Edg (w : World) (a : Option Addr) (l : List (Int × Int)) : Prop :=
  l ≠ [] → ∃ eb off, a = some ⟨eb, off, none⟩ ∧ eb < w.heap.size ∧ ∀ i, i < l.length → w.cell? ⟨eb, off + i * 2, none⟩ = some (.int .u32 (l.getD i (0, 0)).1) ∧ w.cell? ⟨eb, off + i * 2 + 1, none⟩ = some (.int .u32 (l.getD i (0, 0)).2)
def UE (l : List (Int × Int)) : Prop := ∀ p ∈ l, U p.1 ∧ U p.2
theorem UE.at {l : List (Int × Int)} (h : UE l) {i : Nat} (hi : i < l.length) : U (l.getD i (0, 0)).1 ∧ U (l.getD i (0, 0)).2 := by
  have : l.getD i (0, 0) = l[i] := by simp [List.getD_eq_getElem?_getD, List.getElem?_eq_getElem hi]
  rw [this]
  exact h _ (List.getElem_mem hi)

/-- Whom x waits for by the first k edges, as they come. -/
def grp (l : List (Int × Int)) (k : Nat) (x : Int) : List Int := ((l.take k).filter fun p => p.1 == x).map (·.2)
theorem grp_zero (l : List (Int × Int)) (x : Int) : grp l 0 x = [] := rfl
theorem grp_same (l : List (Int × Int)) {k : Nat} (hk : k < l.length) : grp l (k + 1) (l.getD k (0, 0)).1 = grp l k (l.getD k (0, 0)).1 ++ [(l.getD k (0, 0)).2] := by
  have : l.getD k (0, 0) = l[k] := by simp [List.getD_eq_getElem?_getD, List.getElem?_eq_getElem hk]
  rw [this]
  rw [grp, grp, List.take_succ_eq_append_getElem hk, List.filter_append, List.map_append]
  simp
theorem grp_other (l : List (Int × Int)) {k : Nat} (hk : k < l.length) {x : Int} (hx : x ≠ (l.getD k (0, 0)).1) : grp l (k + 1) x = grp l k x := by
  have : l.getD k (0, 0) = l[k] := by simp [List.getD_eq_getElem?_getD, List.getElem?_eq_getElem hk]
  rw [this] at hx
  rw [grp, grp, List.take_succ_eq_append_getElem hk, List.filter_append, List.map_append]
  simp [Ne.symm hx]
theorem grp_length (l : List (Int × Int)) (k : Nat) (x : Int) : (grp l k x).length ≤ k := by
  simp only [grp, List.length_map]
  exact Nat.le_trans (List.length_filter_le _ _) (by rw [List.length_take]; omega)
theorem grp_U {l : List (Int × Int)} (h : UE l) (k : Nat) (x : Int) : ∀ y ∈ grp l k x, U y := by
  intro y hy
  simp only [grp, List.mem_map, List.mem_filter] at hy
  obtain ⟨p, ⟨hp, _⟩, rfl⟩ := hy
  exact (h p (List.mem_of_mem_take hp)).2

/-- A group as a datum. -/
def dat (zs : List Int) : DataW Unit := if zs = [] then .nil else .slice (lits .u32 zs) []
theorem lits_inj {a b : List Int} (h : lits (H := Unit) .u32 a = lits .u32 b) : a = b := by
  unfold lits at h
  exact (List.map_inj_right (fun x y hxy => by simpa using hxy)).1 h
theorem dat_inj {a b : List Int} (h : dat a = dat b) : a = b := by
  unfold dat at h
  split at h <;> split at h
  · rename_i h1 h2; rw [h1, h2]
  · cases h
  · cases h
  · exact lits_inj (by simpa using h)
theorem dat_row {w : World} {base : Nat} {e : TypeId} {v : Value} {zs zs' : List Int} (h : w.ownsInts base e .u32 v zs) (hd : dat zs' = rowDatum .u32 v zs) : zs' = zs := by
  unfold dat at hd
  rcases h.1.2 with ⟨rfl, h0⟩ | ⟨g, cap, cur, rfl, _⟩
  · have : zs = [] := by simpa using h0
    subst this
    split at hd
    · assumption
    · cases hd
  · split at hd
    · cases hd
    · exact lits_inj (by simpa [rowDatum] using hd)

theorem row_dat {w : World} {base : Nat} {e : TypeId} {v : Value} {zs : List Int} (h : w.ownsInts base e .u32 v zs) (hn : zs = [] → v.ownBlock = none) : rowDatum .u32 v zs = dat zs := by
  by_cases hz : zs = []
  · subst hz
    rcases h.1.2 with ⟨rfl, _⟩ | ⟨g, cap, cur, rfl, _⟩
    · rfl
    · cases hn rfl
  · rw [h.datum_pos hz]
    simp [dat, hz]
/-- A map that reads so. -/
def Reads (D : DataW Unit) (G : Int → List Int) : Prop := IsMap D ∧ ∀ x, D.atKey (.int .u32 x) .nil = dat (G x)
theorem Reads.put {D : DataW Unit} {G G' : Int → List Int} (h : Reads D G) {x : Int} {d : DataW Unit} (hd : d = dat (G' x)) (ho : ∀ y, y ≠ x → G' y = G y) : Reads (D.put (.int .u32 x) d) G' := by
  refine ⟨h.1.put _ _, fun y => ?_⟩
  by_cases hy : y = x
  · subst hy
    rw [atKey_put_same h.1 (by trivial), hd]
  · rw [atKey_put_other (by simpa using hy), h.2 y, ho y hy]

section
variable {w w1 w' : World} {base b n : Nat} {e : TypeId} {D : DataW Unit}
theorem groups_alloc (h : w.ownsGroups Try.prog 23 base e .u32 b n D) (o : Obj) : (w.alloc o).ownsGroups Try.prog 23 base e .u32 b n D :=
  h.kept (World.grownBy_alloc w o none) (by simp) (fun _ _ _ x _ => by cases x.val.ownBlock <;> simp)
theorem groups_row {r : Nat} (h : w.ownsGroups Try.prog 23 base e .u32 b n D) (hg : w.grownBy w' (some r)) (hr : r < base) (hb : r ≠ b) : w'.ownsGroups Try.prog 23 base e .u32 b n D :=
  h.kept hg (by simpa using Ne.symm hb) (h.rowsAbove fun j hj => by cases hj; exact hr)
/-- A block that is no row of cells is no group's row. -/
theorem groups_off (h : w.ownsGroups Try.prog 23 base e .u32 b n D) {r : Nat} (hr : ∀ cs ty fr, w.heap[r]? ≠ some (.cells cs ty fr)) (hg : w.grownBy w' (some r)) (hb : r ≠ b) : w'.ownsGroups Try.prog 23 base e .u32 b n D := by
  refine h.kept hg (by simpa using Ne.symm hb) fun es clock hes x hx => ?_
  obtain ⟨es', clock', hb', F, _⟩ := h
  rw [hes] at hb'
  cases hb'
  obtain ⟨y, hy⟩ := F.reads x hx
  obtain ⟨z, hz, _⟩ := WideElems.rd_val hy
  obtain ⟨zs, ho, _⟩ := rowElem_inv hz
  rcases ho.1.2 with ⟨e1, _⟩ | ⟨g, cap, cur, e1, _, hg', _⟩
  · left; rw [e1]; rfl
  · right
    rw [e1]
    intro e2
    simp [Value.ownBlock] at e2
    subst e2
    exact hr _ _ _ hg'
/-- A look-up, in whatever world in which the map's block is the same. -/
theorem groups_at (h : w.ownsGroups Try.prog 23 base e .u32 b n D) {G : Int → List Int} (hR : Reads D G) (hn : n < maxLen) {x : Int} (hx : U x) :
    ∃ v, (∀ w' : World, w'.heap[b]? = w.heap[b]? → (Instr.lookup 64 (.map (some b)) (.int .u32 x) false).run Try.prog w' = .ok v w') ∧ w.ownsInts base e .u32 v (G x) ∧ (G x).length ≤ n ∧ (G x = [] → v.ownBlock = none) ∧ w.groupBack Try.prog 64 23 base e .u32 b n D (.int .u32 x) (.int .u32 x) v := by
  obtain ⟨v, zs, hrun, hat, hoi, hzl, hback⟩ := h.at law_u Try.underlying64 (zero_us w) hn hx.key
  have := dat_row hoi ((hR.2 x).symm.trans hat)
  subst this
  refine ⟨v, fun w' hw' => ?_, hoi, hzl, fun he => ?_, hback⟩
  rotate_left
  · have h1 := (hR.2 x).symm.trans hat
    rw [he] at h1
    rcases hoi.1.2 with ⟨rfl, _⟩ | ⟨g, cap, cur, rfl, _⟩
    · rfl
    · cases h1
  obtain ⟨es, clock, hb, F, _⟩ := h
  rcases fit_look false law_u Try.underlying64 (zero_us w) hb F hx.key with ⟨r1, r2, _⟩ | ⟨e0, y, r1, r2, r3, _⟩
  · rw [hrun] at r1
    cases r1
    rcases fit_look false law_u Try.underlying64 (zero_us w') (hw'.trans hb) F hx.key with ⟨q1, q2, _⟩ | ⟨e0, y, q1, q2, q3, _⟩
    · exact q1
    · exact absurd q2 (r2 e0 q1)
  · rw [hrun] at r3
    cases r3
    rcases fit_look false law_u Try.underlying64 (zero_us w') (hw'.trans hb) F hx.key with ⟨q1, q2, _⟩ | ⟨e1, y1, q1, q2, q3, _⟩
    · exact absurd r2 (q2 e0 r1)
    · have := entry_eq_of_key ((stamped_iff es clock).1 F.stamped).2.2 q1 r1 (q2.trans r2.symm)
      subst this
      exact q3
theorem look_shun (h : w.ownsGroups Try.prog 23 base e .u32 b n D) {x : Int} (hx : U x) {v : Value} (hl : (Instr.lookup 64 (.map (some b)) (.int .u32 x) false).run Try.prog w = .ok v w) {No : Nat → Prop} (hs : w.Shuns b No) : ∀ g, v.ownBlock = some g → ¬ No g := by
  obtain ⟨es, clock, hb, F, _⟩ := h
  rcases fit_look false law_u Try.underlying64 (zero_us w) hb F hx.key with ⟨r1, _⟩ | ⟨e0, y, r1, r2, r3, _⟩
  · rw [hl] at r1
    cases r1
    intro g hg
    cases hg
  · rw [hl] at r3
    cases r3
    exact hs es clock hb e0 r1
end

def keyNum : Value → Int
  | .int .u32 k => k
  | _ => -1
/-- 'for n := range m' under way, the entries of which may be stored anew: left: which keys are still to come. -/
def Rng (w : World) (b r : Nat) (left : Int → Bool) (cnt : Nat) : Prop :=
  ∃ es clock since seen c0, w.heap[b]? = some (.map es clock) ∧ Stamped es clock ∧ (∀ x ∈ es.toList, ∃ k, U k ∧ x.key = .int .u32 k ∧ left k = !seen.contains x.born) ∧
    w.heap[r]? = some (.mapIter (some b) since seen c0) ∧ (∀ x ∈ es.toList, x.born < since) ∧ (leftOf es seen).size = cnt ∧
    (∀ k, left k = true → ∃ x ∈ es.toList, x.key = .int .u32 k) ∧ since ≤ c0 ∧ since ≤ clock
theorem Rng.kept {w w' : World} {b r cnt : Nat} {left : Int → Bool} {row : Option Nat} (h : Rng w b r left cnt) (hg : w.grownBy w' row) (hb' : some b ≠ row) (hr' : some r ≠ row) : Rng w' b r left cnt := by
  obtain ⟨es, clock, since, seen, c0, hb, h1, h2, hr, h3⟩ := h
  have hbl := (Array.getElem?_eq_some_iff.1 hb).1
  have hrl := (Array.getElem?_eq_some_iff.1 hr).1
  exact ⟨es, clock, since, seen, c0, (hg.block b hbl hb').trans hb, h1, h2, (hg.block r hrl hr').trans hr, h3⟩
theorem Rng.iter {w : World} {b r cnt : Nat} {left : Int → Bool} (h : Rng w b r left cnt) : r < w.heap.size ∧ ∀ cs ty fr, w.heap[r]? ≠ some (.cells cs ty fr) := by
  obtain ⟨es, clock, since, seen, c0, hb, h1, h2, hr, h3⟩ := h
  exact ⟨(Array.getElem?_eq_some_iff.1 hr).1, fun _ _ _ => by rw [hr]; simp⟩
theorem Rng.blt {w : World} {b r cnt : Nat} {left : Int → Bool} (h : Rng w b r left cnt) : b < w.heap.size := by
  obtain ⟨es, clock, since, seen, c0, hb, _⟩ := h
  exact (Array.getElem?_eq_some_iff.1 hb).1
theorem Rng.off {w : World} {b r cnt : Nat} {left : Int → Bool} (h : Rng w b r left cnt) {base : Nat} {e : TypeId} {v : Value} {zs : List Int} (ho : w.ownsInts base e .u32 v zs) : some r ≠ v.ownBlock := by
  rcases ho.1.2 with ⟨e1, _⟩ | ⟨g, cap, cur, e1, _, hg', _⟩
  · rw [e1]; simp [Value.ownBlock]
  · rw [e1]
    intro e2
    simp [Value.ownBlock] at e2
    subst e2
    exact h.iter.2 _ _ _ hg'
theorem Rng.ne {w : World} {b r cnt : Nat} {left : Int → Bool} (h : Rng w b r left cnt) : r ≠ b := by
  obtain ⟨es, clock, since, seen, c0, hb, h1, h2, hr, h3⟩ := h
  rintro rfl
  rw [hb] at hr
  cases hr
/-- How many are to come, read off the world. -/
theorem Rng.left_eq {w : World} {b r cnt : Nat} {left : Int → Bool} (h : Rng w b r left cnt) : w.rangeLeft b r = cnt := by
  obtain ⟨es, clock, since, seen, c0, hb, h1, h2, hr, h3, h4, _⟩ := h
  simp only [World.rangeLeft, hb, hr]
  exact h4
/-- The start. -/
theorem Rng.start {w : World} {base b n : Nat} {e : TypeId} {D : DataW Unit} (h : w.ownsGroups Try.prog 23 base e .u32 b n D) {G : Int → List Int} (hR : Reads D G) :
    ∃ w' left cnt, (Instr.range 64 (.map (some b))).run Try.prog w = .ok (.pointer (some ⟨w.heap.size, 0, none⟩)) w' ∧ Rng w' b w.heap.size left cnt ∧ w.grownBy w' none ∧ w'.heap.size = w.heap.size + 1 ∧ cnt ≤ n ∧ ∀ x, U x → left x = false → G x = [] := by
  obtain ⟨es, clock, hb, F, hs, hD, hbb, hlen, hap⟩ := h
  have hblt := (Array.getElem?_eq_some_iff.1 hb).1
  have hks : ∀ x ∈ es.toList, ∃ k, U k ∧ x.key = .int .u32 k := fun x hx => by
    obtain ⟨y, hy⟩ := F.reads x hx
    obtain ⟨k, h1, _, h2⟩ := keyOf_int_inv Try.underlying23 (WideElems.rd_key hy)
    exact ⟨k, U.of h2, h1⟩
  refine ⟨_, fun k => es.toList.any fun x => keyNum x.key == k, _, run_range_map w 64 23 24 b es clock Try.underlying64 hb,
    ⟨es, clock, clock, #[], clock, ((MapKept.heap_alloc w _).2 b hblt).trans hb, F.stamped, ?_, (MapKept.heap_alloc w _).1, F.stamped.1, rfl, ?_, Nat.le_refl _, Nat.le_refl _⟩, World.grownBy_alloc w _ none, by simp, Nat.le_trans (by simp only [leftOf]; exact Array.size_filter_le) hs, ?_⟩
  · intro x hx
    obtain ⟨k, h1, h2⟩ := hks x hx
    refine ⟨k, h1, h2, ?_⟩
    simp only [Array.contains_empty, Bool.not_false, List.any_eq_true]
    exact ⟨x, hx, by rw [h2]; simp [keyNum]⟩
  · intro k hk
    obtain ⟨x, hx, h⟩ := List.any_eq_true.1 hk
    obtain ⟨k', h1, h2⟩ := hks x hx
    rw [h2] at h
    have : k' = k := by simpa [keyNum] using h
    exact ⟨x, hx, this ▸ h2⟩
  · intro x hxu hx
    have hat := hR.2 x
    subst hD
    rcases fit_look false law_u Try.underlying64 (zero_us w) hb F hxu.key with ⟨_, _, h3⟩ | ⟨e0, y, h1, h2, _⟩
    · rw [h3] at hat
      exact (dat_inj (a := []) hat).symm
    · have := List.any_eq_false.1 hx e0 h1
      rw [h2] at this
      simp [keyNum] at this
/-- The step. -/
theorem Rng.next {w : World} {b r cnt : Nat} {left : Int → Bool} (h : Rng w b r left cnt) :
    (cnt = 0 ∧ (∀ k, left k = false) ∧ ∀ ty, (Instr.next (.pointer (some ⟨r, 0, none⟩)) false ty).run Try.prog w = .ok (.tuple #[.bool false]) w) ∨
    ∃ k v w' cnt', U k ∧ left k = true ∧ (∀ ty, (Instr.next (.pointer (some ⟨r, 0, none⟩)) false ty).run Try.prog w = .ok (.tuple #[.bool true, .int .u32 k, v]) w') ∧ (∃ es clock, w'.heap[b]? = some (.map es clock) ∧ ∃ x ∈ es.toList, x.key = .int .u32 k) ∧
      Rng w' b r (fun x => left x && !(x == k)) cnt' ∧ cnt' < cnt ∧ w.grownBy w' (some r) ∧ w'.heap.size = w.heap.size ∧ (Instr.entry (.pointer (some ⟨r, 0, none⟩))).run Try.prog w' = .ok (.tuple #[.int .u32 k, v]) w' := by
  have hne := h.ne
  obtain ⟨es, clock, since, seen, c0, hb, hst, hks, hr, hold, rfl, hl2, hsc, hsk⟩ := h
  rcases run_next_at (P := Try.prog) w 0 r b since c0 seen es clock hr hb hold hsc with ⟨h0, hrun⟩ | ⟨e, he, w1, hal, hrun⟩
  · refine Or.inl ⟨h0, fun k => ?_, fun _ => hrun⟩
    cases hk : left k
    · rfl
    · obtain ⟨x, hx, hxk⟩ := hl2 k hk
      obtain ⟨k', _, h2, h3⟩ := hks x hx
      rw [hxk] at h2
      cases h2
      rw [h3, all_seen es seen h0 x hx] at hk
      cases hk
  · obtain ⟨hem, hes⟩ := mem_left he
    obtain ⟨k, hu, hek, hlk⟩ := hks e hem
    have hr1 : w1.heap[r]? = some (.mapIter (some b) since seen c0) := by rcases hal with rfl | rfl <;> exact hr
    have hb1 : w1.heap[b]? = some (.map es clock) := by rcases hal with rfl | rfl <;> exact hb
    have hset := heap_set (o' := .mapIter (some b) since (seen.push e.born) clock) hr1
    have hb' : (setBlock w1 r (.mapIter (some b) since (seen.push e.born) clock)).heap[b]? = some (.map es clock) := (hset.2 b (fun e1 => hne e1.symm)).trans hb1
    have hst' := (stamped_iff es clock).1 hst
    refine Or.inr ⟨k, e.val, _, _, hu, by rw [hlk, hes]; rfl, by rw [hek] at hrun; exact fun _ => hrun, ⟨es, clock, hb', e, hem, hek⟩,
      ⟨es, clock, since, seen.push e.born, clock, hb', hst, fun x hx => ?_, hset.1, hold, rfl, fun x hx => hl2 x (by simp at hx; exact hx.1), hsk, hsk⟩, left_shrinks es seen e he, ?_, ?_, by
      have := run_entry_at (P := Try.prog) _ r b since seen es clock e hset.1 hb' hem hst'.2.1
      rw [hek] at this
      exact this⟩
    · obtain ⟨kx, h1, h2, h3⟩ := hks x hx
      refine ⟨kx, h1, h2, ?_⟩
      simp only [h3, contains_push]
      by_cases hbe : x.born = e.born
      · obtain rfl := born_inj hst'.2.1 hx hem hbe
        rw [hek] at h2
        cases h2
        simp
      · have hne' : kx ≠ k := by
          rintro rfl
          exact hbe (congrArg MapEntry.born (entry_eq_of_key hst'.2.2 hx hem (h2.trans hek.symm)))
        rw [show (kx == k) = false by simpa using hne', show (x.born == e.born) = false by simpa using hbe, Bool.or_false, Bool.not_false, Bool.and_true]
    · rcases hal with rfl | rfl <;> exact ⟨rfl, rfl, rfl, by simp [setBlock], fun i _ hi => hset.2 i (fun e1 => hi (by rw [e1]))⟩
    · rcases hal with rfl | rfl <;> simp [setBlock]

/-- A store at a key that is there. -/
theorem Rng.store {w w2 : World} {b r cnt : Nat} {left : Int → Bool} (h : Rng w b r left cnt) {k : Int} (hk : U k) (hin : ∃ es clock, w.heap[b]? = some (.map es clock) ∧ ∃ x ∈ es.toList, x.key = .int .u32 k) {v : Value}
    (hrun : (Instr.mapUpdate 64 (.map (some b)) (.int .u32 k) v).run Try.prog w = .ok () w2) : Rng w2 b r left cnt := by
  have hne := h.ne
  obtain ⟨es, clock, since, seen, c0, hb, hst, hks, hr, hold, rfl, hl2, hsc, hsk⟩ := h
  obtain ⟨es0, clock0, hb0, x0, hx0, hk0⟩ := hin
  rw [hb] at hb0
  cases hb0
  have hkeys : ∀ e ∈ es.toList, ∃ l, keyOf Try.prog 23 e.key = some l := fun e he => by
    obtain ⟨k', h1, h2, _⟩ := hks e he
    exact ⟨_, by rw [h2]; exact h1.key⟩
  rcases law_u.find w hk.key es.toList hkeys with ⟨_, h2⟩ | ⟨j, e0, h1, h2, h3⟩
  · exact absurd hk0 (h2 x0 hx0)
  have hj : es[j]? = some e0 := by simpa using h2
  have hw2 : w2 = setBlock w b (.map (es.modify j fun e => { e with key := .int .u32 k, val := v }) clock) := by
    simp [Instr.mapUpdate, run_underlying Try.underlying64, MapKept.run_getObj_map hb, law_u.check w _ hk.key, h1, MapKept.run_setObj_map _ hb, Result.andThen, hj, h3, law_u.stays w hk.key] at hrun
    exact hrun.symm
  subst hw2
  have hset := heap_set (o' := .map (es.modify j fun e => { e with key := .int .u32 k, val := v }) clock) hb
  have hj0 : ∀ e, es[j]? = some e → e.key = .int .u32 k := fun e he => by
    rw [hj] at he
    cases he
    exact h3
  have hg : (es.modify j fun e => { e with key := .int .u32 k, val := v }).toList.map (fun e => (e.born, e.key)) = es.toList.map (fun e => (e.born, e.key)) := by
    apply List.ext_getElem?
    intro i
    simp only [List.getElem?_map, Array.getElem?_toList, Array.getElem?_modify]
    by_cases hij : j = i
    · subst hij
      simp [hj, h3]
    · simp [hij]
  generalize hes' : (es.modify j fun e => { e with key := .int .u32 k, val := v }) = es' at hset hg ⊢
  have hm1 : ∀ x ∈ es'.toList, ∃ y ∈ es.toList, y.born = x.born ∧ y.key = x.key := fun x hx => by
    have : (x.born, x.key) ∈ es.toList.map (fun e => (e.born, e.key)) := by rw [← hg]; exact List.mem_map.2 ⟨x, hx, rfl⟩
    obtain ⟨y, hy, e⟩ := List.mem_map.1 this
    simp only [Prod.mk.injEq] at e
    exact ⟨y, hy, e⟩
  have hm2 : ∀ x ∈ es.toList, ∃ y ∈ es'.toList, y.born = x.born ∧ y.key = x.key := fun x hx => by
    have : (x.born, x.key) ∈ es'.toList.map (fun e => (e.born, e.key)) := by rw [hg]; exact List.mem_map.2 ⟨x, hx, rfl⟩
    obtain ⟨y, hy, e⟩ := List.mem_map.1 this
    simp only [Prod.mk.injEq] at e
    exact ⟨y, hy, e⟩
  have hbn : es'.toList.map (·.born) = es.toList.map (·.born) := by
    have := congrArg (List.map Prod.fst) hg
    simpa [List.map_map, Function.comp_def] using this
  have hsz : ∀ a : Array MapEntry, (leftOf a seen).size = ((a.toList.map (·.born)).filter fun x => !seen.contains x).length := fun a => by
    rw [leftOf, ← Array.length_toList, Array.toList_filter, List.filter_map, List.length_map]
    rfl
  refine ⟨es', clock, since, seen, c0, hset.1, ?_, fun x hx => ?_, (hset.2 r hne).trans hr, fun x hx => ?_, by rw [hsz, hsz, hbn], fun k' hk' => ?_, hsc, hsk⟩
  · rw [← hes']
    exact stamped_modify hst j _ (fun _ _ => rfl) (fun e _ he => (hj0 e he).symm)
  · obtain ⟨y, hy, e1, e2⟩ := hm1 x hx
    obtain ⟨k', g1, g2, g3⟩ := hks y hy
    exact ⟨k', g1, e2 ▸ g2, e1 ▸ g3⟩
  · obtain ⟨y, hy, e1, _⟩ := hm1 x hx
    rw [← e1]
    exact hold y hy
  · obtain ⟨x, hx, hxk⟩ := hl2 k' hk'
    obtain ⟨y, hy, _, e2⟩ := hm2 x hx
    exact ⟨y, hy, e2.trans hxk⟩
theorem cell_of_heap {w : World} {B : Nat} {cs : Array Value} {ty : TypeId} {fr : Nat × Nat} (h : w.heap[B]? = some (.cells cs ty fr)) (i : Nat) : w.cell? ⟨B, i, none⟩ = cs[i]? := cell_of_row w B i cs ty fr h
theorem step_of_wp {P : Program} {w : World} {ops : Array Oper} {o : Oper} {a : Act} {K : Act → World → Prop} {Q : Exit → Act → World → Prop} {E : Prop} (hgd : o.guard = none) (h : Oper.wp P o a w K Q) :
    if Region.wanted o (yielded ops a.tmps) = true then Oper.wp P o a w K Q else E := by
  have hw : Region.wanted o (yielded ops a.tmps) = true := by simp [Region.wanted, hgd]
  rw [if_pos hw]
  exact h
/-- An append of which the run is known. -/
theorem wp_append_run {P : Program} (w : World) {o : Oper} {a : Act} {K : Act → World → Prop} {Q : Exit → Act → World → Prop} (s x : Operand) (t : TypeId)
    (ho : o.op = .call { callee := .builtin .append, args := #[s, x], argTypes := #[t, t] }) (v xv : Value) (hs : a.eval s = v) (hx : a.eval x = xv) {v' : Value} {w' : World}
    (hr : (Builtin.append_ #[t, t] o.type #[v, xv]).run P w = .ok v' w') (h : K (a.put o.dst v') w') : o.wp P a w K Q := by
  unfold Oper.wp execOp
  simp only [ho, resolve, invoke, builtin, Sem.run_bind, Sem.run_pure, Result.andThen_ok, List.map_toArray, List.map_cons, List.map_nil, hs, hx, hr]
  exact h
end Go.Proofs.Ytilknhackmccpaa
