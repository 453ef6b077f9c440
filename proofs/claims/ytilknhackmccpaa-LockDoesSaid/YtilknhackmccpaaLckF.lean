/- Package lock: without; Package lock: without. -/
import Derived.Test.YtilknhackmccpaaLckD
set_option linter.unusedVariables false
set_option linter.unusedSimpArgs false
namespace Go.Proofs.Ytilknhackmccpaa
open Go.RowKit Go.Sort Go.Lib

theorem info_w : (Try.prog.info? 77).map (fun i => (i.zero, i.size, i.bytes)) = some (some (.agg #[.int .u32 0, .int .u8 0]), 2, 8) := by kernel_rfl
def wAll (l : List (Int × Int)) : List Value := l.flatMap wCells
theorem wAll_length (l : List (Int × Int)) : (wAll l).length = l.length * 2 := by
  induction l with
  | nil => rfl
  | cons p r ih => simp only [wAll, List.flatMap_cons, List.length_append, List.length_cons, wCells, List.length_nil] at ih ⊢; omega
theorem wAll_at : ∀ (l : List (Int × Int)) (i : Nat), i < l.length → (wAll l)[i * 2]? = some (.int .u32 (l.getD i (0, 0)).1) ∧ (wAll l)[i * 2 + 1]? = some (.int .u8 (l.getD i (0, 0)).2)
  | [], i, h => by simp at h
  | p :: r, 0, _ => ⟨rfl, rfl⟩
  | p :: r, i + 1, h => by
    have := wAll_at r i (by simpa using h)
    have e1 : (i + 1) * 2 = i * 2 + 2 := by omega
    rw [e1]
    simpa [wAll, wCells] using this
theorem wAll_one (l : List (Int × Int)) : ∀ u ∈ wAll l, u.oneCell' = true := by
  intro u hu
  simp only [wAll, wCells, List.mem_flatMap, List.mem_cons, List.not_mem_nil, or_false] at hu
  obtain ⟨p, _, rfl | rfl⟩ := hu <;> rfl
/-- A list of wants of the call's own. -/
def OwnL (w : World) (base : Nat) (v : Value) (l : List (Int × Int)) : Prop :=
  (v = .slice none 0 0 ∧ l = []) ∨ ∃ g cap, v = .slice (some ⟨g, 0, none⟩) l.length cap ∧ base ≤ g ∧ l.length ≤ cap ∧ cap ≤ maxLen ∧ RW w g cap l
theorem OwnL.wants {w : World} {base : Nat} {v : Value} {l : List (Int × Int)} (h : OwnL w base v l) : Wants w v l := by
  rcases h with ⟨rfl, rfl⟩ | ⟨g, cap, rfl, _, hn, hc, hR⟩
  · exact ⟨none, 0, rfl, by simp, (by rintro ad ⟨⟩), fun h => absurd rfl h⟩
  · exact hR.wants hc cap hn
theorem own_of_owns {w : World} {base : Nat} {v : Value} {l : List (Int × Int)} (h : w.ownsRow base 77 2 v l.length (wAll l)) : OwnL w base v l := by
  rcases h.2 with ⟨rfl, h0⟩ | ⟨g, cap, cur, rfl, hb, hg, hn, hc, hs, ht⟩
  · exact .inl ⟨rfl, List.eq_nil_of_length_eq_zero h0⟩
  · refine .inr ⟨g, cap, rfl, hb, hn, hc, cur, hg, hs, hn, fun i hi => ?_⟩
    obtain ⟨h1, h2⟩ := wAll_at l i hi
    rw [← ht] at h1 h2
    rw [List.getElem?_take_of_lt (by omega)] at h1 h2
    exact ⟨by rw [← Array.getElem?_toList]; exact h1, by rw [← Array.getElem?_toList]; exact h2⟩
/-- slices.Clone. -/
theorem clone_u (v : Value) (l : List (Int × Int)) (w : World) (hv : Wants w v l) (hl : l.length < 10000000) :
    Calls Try.prog 68 #[v] w fun e w' => ∃ v', e = .returned v' ∧ OwnL w' w.heap.size v' l ∧ RowKit.Below w.heap.size w w' := by
  obtain ⟨i0, hi0, hz0, hz1, hz2⟩ := info_parts info_w
  obtain ⟨a, cap, rfl, hm, hsp, hc⟩ := hv
  cases a with
  | none =>
    have hl0 : l = [] := by
      rcases l with _ | ⟨p, r⟩
      · rfl
      · obtain ⟨eb, off, h, _⟩ := hc (by simp)
        cases h
    subst hl0
    have hcon := AnyE.slices_Clone_nil Try.cloneW 0 cap w
    change Calls Try.prog 68 _ _ _ at hcon
    refine hcon.mono ?_
    rintro e w' ⟨rfl, rfl⟩
    exact ⟨_, rfl, .inl ⟨rfl, rfl⟩, RowKit.Below.refl _ _⟩
  | some ad =>
    obtain ⟨z, hz⟩ : ∃ z, i0.zero = some z := ⟨_, hz0⟩
    rw [hsp ad rfl]
    have hcon := AnyE.slices_Clone Try.cloneW i0 (.agg #[.int .u32 0, .int .u8 0]) 2 8 hi0 hz0 hz1 hz2 rfl (by omega) size_w ad.block ad.off l.length cap (wAll l) w (wAll_length l) (by omega) (by omega) (fun j u hj => by
      rcases l with _ | ⟨p, r⟩
      · simp [wAll] at hj
      · obtain ⟨eb, off, e, hlt, hcc⟩ := hc (by simp)
        cases e
        have hjl : j < ((p :: r).length) * 2 := by
          rw [← wAll_length]
          exact (List.getElem?_eq_some_iff.1 hj).1
        obtain ⟨h1, h2⟩ := wAll_at (p :: r) (j / 2) (by omega)
        obtain ⟨c1, c2⟩ := hcc (j / 2) (by omega)
        have : j % 2 = 0 ∨ j % 2 = 1 := by omega
        rcases this with e | e
        · have ej : j = j / 2 * 2 := by omega
          rw [ej] at hj ⊢
          rw [h1] at hj
          rw [← Option.some.inj hj]
          exact c1
        · have ej : j = j / 2 * 2 + 1 := by omega
          rw [ej] at hj ⊢
          rw [h2] at hj
          rw [← Option.some.inj hj]
          exact c2) (wAll_one l)
    change Calls Try.prog 68 _ _ _ at hcon
    refine hcon.mono ?_
    rintro e w' ⟨v', rfl, ho, _, hb⟩
    exact ⟨v', rfl, own_of_owns ho, hb⟩
end Go.Proofs.Ytilknhackmccpaa

namespace Go.Proofs.Ytilknhackmccpaa
open Go.RowKit Go.Sort Go.Lib

theorem notL_length (l : List (Int × Int)) (t : Int) : (notL l t).length ≤ l.length := List.length_filter_le _ _
theorem OwnL.kept {w w' : World} {base : Nat} {v : Value} {l : List (Int × Int)} (h : OwnL w base v l) {row : Option Nat} (hg : w.grownBy w' row) (hne : v.ownBlock = none ∨ v.ownBlock ≠ row) : OwnL w' base v l := by
  rcases h with h | ⟨g, cap, rfl, h1, h2, h3, hR⟩
  · exact .inl h
  · refine .inr ⟨g, cap, rfl, h1, h2, h3, hR.kept hg ?_⟩
    rcases hne with h | h
    · cases h
    · exact h
theorem OwnL.low {w : World} {base base' : Nat} {v : Value} {l : List (Int × Int)} (h : OwnL w base v l) (hb : base' ≤ base) : OwnL w base' v l := by
  rcases h with h | ⟨g, cap, rfl, h1, h2⟩
  · exact .inl h
  · exact .inr ⟨g, cap, rfl, by omega, h2⟩
theorem delf_none (fv : Value) (w : World) :
    Calls Try.prog 71 #[.slice none 0 0, fv] w fun e w' => e = .returned (.slice none 0 0) ∧ w' = w := by
  have hI := idx_none none 0 fv w
  go_enter Try.func71, Try.ntmps71
  go_wp2_with (go_at_call 62; refine hI.mono ?_; intro e w' h; rw [h.1, h.2]; clear h w' e)
  go_ret
  exact ⟨rfl, rfl⟩
/-- slices.DeleteFunc over of's closure, at a list of the call's own. -/
theorem delf_own (base : Nat) (v : Value) (l : List (Int × Int)) (t : Int) (B : Nat) (w : World) (hv : OwnL w base v l) (hB : B < w.heap.size) (hcell : w.cell? ⟨B, 0, none⟩ = some (.int .u32 t)) (hBg : ∀ g, v.ownBlock = some g → B ≠ g) :
    Calls Try.prog 71 #[v, .func (.func 80) #[] #[.pointer (some ⟨B, 0, none⟩)]] w fun e w' =>
      ∃ v', e = .returned v' ∧ OwnL w' base v' (notL l t) ∧ w.grownBy w' v.ownBlock := by
  rcases hv with ⟨rfl, rfl⟩ | ⟨g, cap, rfl, h1, h2, h3, hR⟩
  · refine (delf_none _ w).mono ?_
    rintro e w' ⟨rfl, rfl⟩
    exact ⟨_, rfl, .inl ⟨rfl, rfl⟩, World.grownBy.refl _ _⟩
  · refine (delf_u g cap cap l t B l.length w hR rfl h2 h3 hB hcell (hBg g rfl)).mono ?_
    rintro e w' ⟨rfl, hR', hg⟩
    exact ⟨_, rfl, .inr ⟨g, cap, rfl, h1, Nat.le_trans (notL_length l t) h2, h3, hR'⟩, hg⟩
theorem below_of_grown {w w' : World} {B : Nat} {row : Option Nat} (hg : w.grownBy w' row) (hr : ∀ g, row = some g → B ≤ g) (hB : B ≤ w.heap.size) : RowKit.Below B w w' :=
  ⟨hg.os, hg.tape, hg.output, hg.size, fun i hi => hg.block i (by omega) (fun e => by have := hr i e.symm; omega)⟩
/-- without. -/
theorem without_u (v : Value) (l : List (Int × Int)) (t : Int) (w : World) (hv : Wants w v l) (hl : l.length < 10000000) :
    Calls Try.prog 49 #[v, .int .u32 t] w fun e w' => ∃ v', e = .returned v' ∧ OwnL w' w.heap.size v' (notL l t) ∧ RowKit.Below w.heap.size w w' := by
  have hC := clone_u v l w hv hl
  obtain ⟨base, hbase⟩ : ∃ b, w.heap.size = b := ⟨_, rfl⟩
  rw [hbase] at hC ⊢
  go_enter Try.func49, Try.ntmps49
  go_wp2_with (first
    | (go_at_call 68; refine hC.mono ?_; rintro e w1 ⟨v1, rfl, o1, b1⟩)
    | (go_at_call 63; refine (of_u t _).mono ?_; rintro e w2 ⟨rfl, rfl⟩)
    | (go_at_call 71; refine (delf_own base v1 l t w1.heap.size _ (o1.kept (World.grownBy_alloc w1 (.cells #[.int .u32 t] 23) none) (by cases v1.ownBlock <;> simp)) (by simp) (by rw [cell_of_heap (heap_alloc_new w1 _)]; rfl) (by
        intro g hg
        rcases o1 with ⟨rfl, _⟩ | ⟨g', cap, rfl, _, _, _, hR⟩
        · cases hg
        · obtain rfl : g' = g := Option.some.inj hg
          have := hR.lt
          omega)).mono ?_; rintro e w3 ⟨v3, rfl, o3, g3⟩))
  go_ret
  refine ⟨v3, rfl, o3, ?_⟩
  have b2 := below_alloc w1 (.cells #[.int .u32 t] 23)
  have hbs : base ≤ w1.heap.size := by have := b1.size; omega
  exact (b1.trans (b2.mono hbs)).trans (below_of_grown g3 (by
    intro g hg
    rcases o1 with ⟨rfl, _⟩ | ⟨g', cap, rfl, hb, _⟩
    · cases hg
    · obtain rfl : g' = g := Option.some.inj hg
      exact hb) (by have := b2.size; omega))
end Go.Proofs.Ytilknhackmccpaa
