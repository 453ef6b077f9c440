/- A row of numbers that is sorted in place: what memory holds of it; contracts of cmp.Less and insertionSortOrdered at uint32. -/
import Derived.Test.YtilknhackmccpaaRows
import Derived.WalkKit
import Derived.WalkSpells
import Derived.WalkLawsBesides
import Derived.Lib.Hide
import Derived.BigGuard
import Derived.BigCall
import Derived.CellFam
import Derived.Deep.Draws
import Derived.Deep.QuietTactic
import Derived.BigQuiet
import Derived.Maps.AppendAt
import Derived.Sort.WalkA
import Derived.Sort.AssemblyPlain
set_option linter.unusedVariables false
set_option linter.unusedSimpArgs false
namespace Go.Proofs.Ytilknhackmccpaa
open Go.RowKit Go.Sort

set_option maxHeartbeats 400000 in
theorem nan_u (x : Int) (w : World) : Calls Try.prog 110 #[.int .u32 x] w fun e w' => e = .returned (.bool false) ∧ w' = w := by
  go_enter Try.func110, Try.ntmps110
  go_wp2
  go_ret
  exact ⟨by simp, rfl⟩
set_option maxHeartbeats 400000 in
theorem less_u (x y : Int) (w : World) : Calls Try.prog 95 #[.int .u32 x, .int .u32 y] w fun e w' => e = .returned (.bool (ltInt x y)) ∧ w' = w := by
  go_enter Try.func95, Try.ntmps95
  go_wp2_with (go_at_call 110; refine (nan_u _ _).mono ?_; rintro e w' ⟨rfl, rfl⟩)
  go_ret
  exact ⟨rfl, rfl⟩

theorem of_not_true {b : Bool} (h : (!b) = true) : b = false := by simpa using h
theorem of_not_false {b : Bool} (h : (!b) = false) : b = true := by simpa using h
theorem below_alloc (w : World) (ob : Obj) : RowKit.Below w.heap.size w (w.alloc ob) := (RowKit.Below.refl _ _).alloc (Nat.le_refl _) ob
/-- Block g is a row of N cells, of which the first hold d. -/
def Row (w : World) (g N : Nat) (e : TypeId) (d : Array Int) : Prop :=
  ∃ cur : Array Value, w.heap[g]? = some (.cells cur e (0, 0)) ∧ cur.size = N ∧ d.size ≤ N ∧ ∀ i, i < d.size → cur[i]? = some (.int .u32 d[i]!)
/-- From w0 on nothing was turned but the row, which holds d. -/
structure Rw (w0 : World) (g N : Nat) (e : TypeId) (d : Array Int) (w : World) : Prop where
  row : Row w g N e d
  grown : w0.grownBy w (some g)
section
variable {w0 w w' : World} {g N : Nat} {e : TypeId} {d d' : Array Int}
theorem Row.lt (h : Row w g N e d) : g < w.heap.size := by
  obtain ⟨cur, h, _⟩ := h
  exact (Array.getElem?_eq_some_iff.1 h).1
theorem Row.cell (h : Row w g N e d) {i : Nat} (hi : i < d.size) : w.cell? ⟨g, i, none⟩ = some (.int .u32 d[i]!) := by
  obtain ⟨cur, h1, _, _, h2⟩ := h
  rw [cell_of_row w g _ _ e _ h1]
  exact h2 i hi
theorem Row.froz (h : Row w g N e d) (i : Nat) : w.frozen? ⟨g, i, none⟩ = false := by
  obtain ⟨cur, h1, _⟩ := h
  simp [World.frozen?, h1]
theorem Row.keep (h : Row w g N e d) (hb : w'.heap[g]? = w.heap[g]?) : Row w' g N e d := by
  obtain ⟨cur, h1, h2⟩ := h
  exact ⟨cur, hb.trans h1, h2⟩
theorem Row.set (h : Row w g N e d) {i : Nat} (hi : i < d.size) (x : Int) : Row (w.setCell ⟨g, i, none⟩ (.int .u32 x)) g N e (d.setIfInBounds i x) := by
  obtain ⟨cur, h1, h2, h3, h4⟩ := h
  refine ⟨cur.setIfInBounds i (.int .u32 x), ?_, by simpa using h2, by simpa using h3, fun j hj => ?_⟩
  · simp [World.setCell, Array.getElem?_modify, h1]
  · simp at hj
    rw [Array.getElem?_setIfInBounds]
    by_cases hij : i = j
    · subst hij
      rw [if_pos rfl, if_pos (by omega), getElem!_set_same d i x hi]
    · rw [if_neg hij, h4 j hj, getElem!_set_other d i j x (Ne.symm hij)]
theorem grown_drewN (w : World) (q : Nat) (row : Option Nat) : w.grownBy (w.drewN q) row := ⟨rfl, rfl, rfl, Nat.le_refl _, fun _ _ _ => rfl⟩
theorem grown_set (w : World) (g i : Nat) (v : Value) : w.grownBy (w.setCell ⟨g, i, none⟩ v) (some g) :=
  ⟨rfl, rfl, rfl, by simp [World.setCell], fun j _ hj => Below.heap_setCell _ _ _ _ (fun e => hj (by rw [e]))⟩
theorem Rw.refl (h : Row w g N e d) : Rw w g N e d w := ⟨h, World.grownBy.refl _ _⟩
theorem Rw.lt (h : Rw w0 g N e d w) : g < w.heap.size := h.row.lt
theorem Rw.drewN (h : Rw w0 g N e d w) (q : Nat) : Rw w0 g N e d (w.drewN q) := ⟨h.row.keep rfl, h.grown.trans (grown_drewN w q _)⟩
theorem Rw.set (h : Rw w0 g N e d w) {i : Nat} (hi : i < d.size) (x : Int) : Rw w0 g N e (d.setIfInBounds i x) (w.setCell ⟨g, i, none⟩ (.int .u32 x)) := ⟨h.row.set hi x, h.grown.trans (grown_set w g i _)⟩
/-- Two are exchanged, some draws on. -/
theorem Rw.swap (h : Rw w0 g N e d w) {i j : Nat} (hi : i < d.size) (hj : j < d.size) (q : Nat) :
    Rw w0 g N e (swp d i j) (((w.drewN q).setCell ⟨g, i, none⟩ (.int .u32 d[j]!)).setCell ⟨g, j, none⟩ (.int .u32 d[i]!)) :=
  ((h.drewN q).set hi _).set (by simpa using hj) _
theorem Rw.then (h : Rw w0 g N e d w) (k : Rw w g N e d' w') : Rw w0 g N e d' w' := ⟨k.row, h.grown.trans k.grown⟩
/-- A block is laid. -/
theorem Rw.alloc (h : Rw w0 g N e d w) (ob : Obj) : Rw w0 g N e d (w.alloc ob) := ⟨h.row.keep (Below.heap_alloc _ _ _ h.lt), h.grown.trans (World.grownBy_alloc _ _ _)⟩
/-- Behind the first store of an exchange: the second cell is there, be it the same one. -/
theorem Rw.alias (h : Rw w0 g N e d w) {i j : Nat} (hi : i < d.size) (hj : j < d.size) (x : Int) : ∃ X, (w.setCell ⟨g, i, none⟩ (.int .u32 x)).cell? ⟨g, j, none⟩ = some X ∧ (w.setCell ⟨g, i, none⟩ (.int .u32 x)).frozen? ⟨g, j, none⟩ = false :=
  ⟨_, (h.set hi x).row.cell (i := j) (by simpa using hj), (h.set hi x).row.froz j⟩
theorem Rw.at (h : Rw w0 g N e d w) {G : Nat → Int} (hG : ∀ t, d[t]! = G t) {i : Nat} (hi : i < d.size) : w.cell? ⟨g, i, none⟩ = some (.int .u32 (G i)) := by rw [← hG]; exact h.row.cell hi
/-- What the cells hold, by name. -/
theorem Rw.fam (h : Rw w0 g N e d w) {n : Nat} (hn : d.size = n) : ∃ G : Nat → Int, (∀ t, d[t]! = G t) ∧ (∀ t, t < n → w.cell? ⟨g, t, none⟩ = some (.int .u32 (G t))) ∧ ∀ t, t < n → w.frozen? ⟨g, t, none⟩ = false :=
  ⟨fun t => d[t]!, fun _ => rfl, fun t ht => h.row.cell (by omega), fun t _ => h.row.froz t⟩
end

set_option maxRecDepth 100000 in
set_option maxHeartbeats 1000000 in
theorem ins_u (g N n cap a b : Nat) (e : TypeId) (d : Array Int) (w : World) (H : Row w g N e d) (hn : d.size = n) (hab : a ≤ b) (hb : b ≤ n) (hsz : n < 4611686018427387904) :
    Calls Try.prog 89 #[.slice (some ⟨g, 0, none⟩) n cap, .int .i64 a, .int .i64 b] w fun r w' =>
      r = .returned (.tuple #[]) ∧ (insertionSort ltInt d a b).size = n ∧ Rw w g N e (insertionSort ltInt d a b) w' := by
  have R0 := Lib.hid (Rw.refl H)
  clear H
  go_enter Try.func89, Try.ntmps89
  go_wp2
  go_loopw [6] (fun vi wr => ∃ (i : Nat) (dk : Array Int), vi = .int .i64 i ∧ a < i ∧ i ≤ b + 1 ∧ dk.size = n ∧ Hid (Rw w g N e dk wr) ∧ Hid (insOuter ltInt a b i dk = insertionSort ltInt d a b)) (fun vi _ => b + 1 - (intOf vi).toNat)
  case atStart => exact ⟨a + 1, d, by go_num, by omega, by omega, hn, R0, Lib.hid rfl⟩
  case round =>
    clear R0
    obtain ⟨i, dk, rfl, hai, hib, hsk, RK, HO⟩ := hrel
    go_wp2
    · have hlt : i < b := by assumption
      go_loopw [7] (fun vj wr2 => ∃ (j : Nat) (dj : Array Int), vj = .int .i64 j ∧ a ≤ j ∧ j ≤ i ∧ dj.size = n ∧ Hid (Rw w g N e dj wr2) ∧ Hid (insInner ltInt a j dj = insInner ltInt a i dk)) (fun vj _ => (intOf vj).toNat)
      case atStart => exact ⟨i, dk, rfl, by omega, Nat.le_refl _, hsk, RK, Lib.hid rfl⟩
      case round =>
        clear RK
        obtain ⟨j, dj, rfl, haj, hji, hsj, RJ, HI⟩ := hrel
        obtain ⟨G, hG, hcw, hfw⟩ := RJ.out.fam hsj
        have OUT : Hid ((j ≤ a ∨ ltInt (G j) (G (j - 1)) = false) → insOuter ltInt a b (i + 1) dj = insertionSort ltInt d a b) := Lib.hid fun hs => by
          rw [← HO.out, insOuter_go ltInt a b i dk hlt, ← HI.out, insInner_stop ltInt a j dj (by rw [hG, hG]; exact hs)]
        have GO : Hid (a < j → ltInt (G j) (G (j - 1)) = true → insInner ltInt a (j - 1) (swp dj j (j - 1)) = insInner ltInt a i dk) := Lib.hid fun h1 h2 => by
          rw [← HI.out, insInner_go ltInt a j dj h1 (by rw [hG, hG]; exact h2)]
        replace hG := Lib.hid hG
        go_wp2
        by_cases hja : a < j
        · have c1 := hcw j (by omega)
          have c2 := hcw (j - 1) (by omega)
          have f1 := hfw j (by omega)
          have f2 := hfw (j - 1) (by omega)
          first | go_quiet (first | (go_at_call 95; refine Calls.quiet_of_same (less_u _ _ _))) | fail
          go_wp2
          · have hl : ltInt (G j) (G (j - 1)) = true := by assumption
            go_region
            all_goals go_wp2
            go_roundw
            case rel => exact ⟨j - 1, swp dj j (j - 1), by congr 1; omega, by omega, by omega, by rw [size_swp]; exact hsj, by have := RJ.out.swap (i := j) (j := j - 1) (by omega) (by omega) (nq + 1); rw [hG.out, hG.out] at this; exact Lib.hid this, Lib.hid (GO.out hja hl)⟩
            case measure => simp [intOf]; omega
          · have hl : ltInt (G j) (G (j - 1)) = false := by assumption
            go_roundw
            case rel => exact ⟨i + 1, dj, by go_num, by omega, by omega, hsj, Lib.hid (RJ.out.drewN nq), Lib.hid (OUT.out (.inr hl))⟩
            case measure => simp [intOf]; omega
        · first | go_quiet (first | (go_at_call 95; refine Calls.quiet_of_same (less_u _ _ _))) | fail
          go_wp2
          go_roundw
          case rel => exact ⟨i + 1, dj, by go_num, by omega, by omega, hsj, Lib.hid (RJ.out.drewN nq), Lib.hid (OUT.out (.inl (by omega)))⟩
          case measure => simp [intOf]; omega
    · have hge : ¬ i < b := by assumption
      have E := HO.out
      rw [insOuter_stop ltInt a b i dk hge] at E
      go_end0
      exact ⟨rfl, by rw [← E]; exact hsk, by rw [← E]; exact RK.out⟩
end Go.Proofs.Ytilknhackmccpaa
