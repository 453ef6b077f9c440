/- Contracts of see, must, amount, more, less. -/
import Derived.Test.YtdbpjbmalinlbaaGreatRulB
namespace Go.Proofs.YtdbpjbmalinlbaaGreat
open Go.RowKit

section
variable {x : Nat} {o : OpV} {s : List Cel} {p : List Pt} {r : Rp} {w w' : World}

set_option maxHeartbeats 400000 in
theorem see_none (k : Ky) (h : Hand x o [] p r w) :
    Calls Tryz.prog 72 #[.pointer (some ⟨x, 0, none⟩), keyV k] w (Met x o w (fun v : Option Vl => .tuple #[valV (v.getD (0, 0)), .bool v.isSome]) (fun _ => p) (fun _ => r) (.need k)) := by
  have hx := h.lt
  have h' := Lib.hid h
  obtain ⟨sv, pv, h1, ⟨a, cap, rfl, h2, h3⟩, h4⟩ := h
  have c7 : w.cell? ⟨x, 7, none⟩ = some (.slice a 0 cap) := by simp [cell_of_heap h1, handCells]
  clear h1 h2 h3 h4
  unfold keyV
  go_enter Tryz.func72, Tryz.ntmps72
  go_wp2_with fail
  exact ⟨rfl, ((Step.refl _ _).alloc hx _).alloc (by simp; omega) _, rfl, _, _, _, (h'.out.alloc _).alloc _⟩

theorem SeenAt.tail {sv : Value} {c : Cel} (h : SeenAt x w sv (c :: s)) : ∃ b off cap, sv = .slice (some ⟨b, off, none⟩) (s.length + 1) cap ∧ b < x ∧ s.length + 1 ≤ cap ∧ (∀ j v, (celRow c)[j]? = some v → w.cell? ⟨b, off + j, none⟩ = some v) ∧
    SeenAt x w (.slice (some ⟨b, off + 6, none⟩) s.length (cap - 1)) s := by
  obtain ⟨a, cap, h1, h2, h3⟩ := h
  rcases h3 with h3 | ⟨b, off, rfl, h4, h5⟩
  · exact absurd h3 (by simp)
  · refine ⟨b, off, cap, h1, h4, h2, fun j v hj => by have := h5 0 c rfl j v hj; simpa using this, some ⟨b, off + 6, none⟩, cap - 1, rfl, by simp at h2; omega, .inr ⟨b, off + 6, rfl, h4, fun i d hi j v hj => ?_⟩⟩
    have := h5 (i + 1) d (by simpa using hi) j v hj
    rw [show off + 6 + i * 6 + j = off + (i + 1) * 6 + j by omega]; exact this
theorem Hand.setSeen {c : Cel} {a : Option Addr} {cap : Nat} (h : Hand x o (c :: s) p r w) (hs : SeenAt x w (.slice a s.length cap) s) :
    Hand x o s p r (w.setCell ⟨x, 7, none⟩ (.slice a s.length cap)) := by
  have hx := h.lt
  obtain ⟨sv, pv, h1, h2, h3, h4⟩ := h
  refine ⟨_, pv, ?_, hs.keep fun b hb => Below.heap_setCell _ _ _ _ (by show b ≠ x; omega), owns_keep h3 fun b hb => Below.heap_setCell _ _ _ _ (by have := (owns_lt h3 hb).1; show b ≠ x; omega), by have := h4.1; simp at this; omega, h4.2.1, fun c hc => h4.2.2 c (by simp [hc])⟩
  simp [World.setCell, Array.getElem?_modify, h1, handCells]

set_option maxHeartbeats 400000 in
theorem see_some (k : Ky) (c : Cel) (h : Hand x o (c :: s) p r w) :
    Calls Tryz.prog 72 #[.pointer (some ⟨x, 0, none⟩), keyV k] w (Met x o w (fun v : Option Vl => .tuple #[valV (v.getD (0, 0)), .bool v.isSome]) (fun _ => p) (fun _ => r) (.ok c.ans s)) := by
  have hx := h.lt
  have h' := Lib.hid h
  have fz := h.frozen 7
  obtain ⟨sv, pv, h1, h2, h3, h4⟩ := h
  obtain ⟨b, off, cap, rfl, h5, h6, h7, h8⟩ := h2.tail
  have c7 : w.cell? ⟨x, 7, none⟩ = some (.slice (some ⟨b, off, none⟩) (s.length + 1) cap) := by simp [cell_of_heap h1, handCells]
  have C7 := Lib.hid c7
  have d0 : w.cell? ⟨b, off, none⟩ = some (.int .u8 c.k.1) := h7 0 _ rfl
  have d1 := h7 1 _ rfl
  have d2 := h7 2 _ rfl
  have d3 := h7 3 _ rfl
  have d4 := h7 4 _ rfl
  have d5 := h7 5 _ rfl
  have hl : (s.length : Int) ≤ 4000 := by have := h4.1.2; simp at this; omega
  have hcap : (s.length : Int) + 1 ≤ cap := by omega
  have hS := Lib.hid h8
  clear h1 h2 h3 h4 h7 h8
  have hbs : b < w.heap.size := by omega
  have hx1 : x < w.heap.size + 1 := by omega
  have hx2 : x < w.heap.size + 1 + 1 := by omega
  unfold keyV
  by_cases hc1 : cap = 1
  · have hs0 : s.length = 0 := by omega
    have hs1 := List.length_eq_zero_iff.1 hs0
    subst hc1 hs1
    have hn : Hid (SeenAt x w (.slice (some ⟨b, off, none⟩) 0 0) ([] : List Cel)) := Lib.hid ⟨_, _, rfl, Nat.le_refl _, .inl rfl⟩
    clear hs0
    cases hc : c.is
    · have hE : Hid (c.ans = none) := Lib.hid (by unfold Cel.ans; rw [hc]; rfl)
      rw [hc] at d5
      clear hc
      go_enter Tryz.func72, Tryz.ntmps72
      go_wp2_with fail
      refine bodyPost_ret (v := .tuple #[valV (0, 0), .bool false]) (by simp [results, Tryz.results72, go_sem, valV]) rfl ⟨?_, ?_, (((h'.out.setSeen hn.out).alloc _).alloc _).alloc _⟩
      · exact ((((Step.refl _ _).setX 7 (by decide) _).alloc (by simpa [World.setCell] using hx) _).alloc (by simp [World.setCell]; omega) _).alloc (by simp [World.setCell]; omega) _
      · rw [hE.out]; rfl
    · have hE : Hid (c.ans = some c.v) := Lib.hid (by unfold Cel.ans; rw [hc]; rfl)
      rw [hc] at d5
      clear hc
      go_enter Tryz.func72, Tryz.ntmps72
      go_wp2_with fail
      refine bodyPost_ret (v := .tuple #[valV c.v, .bool true]) (by simp [results, Tryz.results72, go_sem, valV]) rfl ⟨?_, ?_, (((h'.out.setSeen hn.out).alloc _).alloc _).alloc _⟩
      · exact ((((Step.refl _ _).setX 7 (by decide) _).alloc (by simpa [World.setCell] using hx) _).alloc (by simp [World.setCell]; omega) _).alloc (by simp [World.setCell]; omega) _
      · rw [hE.out]; rfl
  · have hc2 : (cap - 1 == 0) = false := by simp; omega
    have hc3 : ¬ (cap - 1 = 0) := by omega
    cases hc : c.is
    · have hE : Hid (c.ans = none) := Lib.hid (by unfold Cel.ans; rw [hc]; rfl)
      rw [hc] at d5
      clear hc
      go_enter Tryz.func72, Tryz.ntmps72
      go_wp2_with fail
      refine bodyPost_ret (v := .tuple #[valV (0, 0), .bool false]) (by simp [results, Tryz.results72, go_sem, valV]) rfl ⟨?_, ?_, (((h'.out.setSeen hS.out).alloc _).alloc _).alloc _⟩
      · exact ((((Step.refl _ _).setX 7 (by decide) _).alloc (by simpa [World.setCell] using hx) _).alloc (by simp [World.setCell]; omega) _).alloc (by simp [World.setCell]; omega) _
      · rw [hE.out]; rfl
    · have hE : Hid (c.ans = some c.v) := Lib.hid (by unfold Cel.ans; rw [hc]; rfl)
      rw [hc] at d5
      clear hc
      go_enter Tryz.func72, Tryz.ntmps72
      go_wp2_with fail
      refine bodyPost_ret (v := .tuple #[valV c.v, .bool true]) (by simp [results, Tryz.results72, go_sem, valV]) rfl ⟨?_, ?_, (((h'.out.setSeen hS.out).alloc _).alloc _).alloc _⟩
      · exact ((((Step.refl _ _).setX 7 (by decide) _).alloc (by simpa [World.setCell] using hx) _).alloc (by simp [World.setCell]; omega) _).alloc (by simp [World.setCell]; omega) _
      · rw [hE.out]; rfl

theorem see_any (k : Ky) (h : Hand x o s p r w) :
    Calls Tryz.prog 72 #[.pointer (some ⟨x, 0, none⟩), keyV k] w (Met x o w (fun v : Option Vl => .tuple #[valV (v.getD (0, 0)), .bool v.isSome]) (fun _ => p) (fun _ => r) ((T.ask k .done).run s)) := by
  cases s with
  | nil => exact see_none k h
  | cons c s => exact see_some k c h

theorem see_is {c : Cel} {v : Vl} (hc : c.ans = some v) (k : Ky) (h : Hand x o (c :: s) p r w) :
    Calls Tryz.prog 72 #[.pointer (some ⟨x, 0, none⟩), .agg #[.int .u8 k.1, .int .u32 k.2.1, .int .u32 k.2.2]] w fun e w' => e = .returned (.tuple #[.agg #[.int .u64 v.1, .int .u64 v.2], .bool true]) ∧ Step x w w' ∧ Hand x o s p r w' := by
  refine (see_some k c h).mono ?_
  rintro e w' ⟨S, rfl, H⟩
  rw [hc]
  exact ⟨rfl, S, H⟩
theorem see_not {c : Cel} (hc : c.ans = none) (k : Ky) (h : Hand x o (c :: s) p r w) :
    Calls Tryz.prog 72 #[.pointer (some ⟨x, 0, none⟩), .agg #[.int .u8 k.1, .int .u32 k.2.1, .int .u32 k.2.2]] w fun e w' => e = .returned (.tuple #[.agg #[.int .u64 0, .int .u64 0], .bool false]) ∧ Step x w w' ∧ Hand x o s p r w' := by
  refine (see_some k c h).mono ?_
  rintro e w' ⟨S, rfl, H⟩
  rw [hc]
  exact ⟨rfl, S, H⟩

def mustT (k : Ky) : T Vl := .ask k fun | some v => .done v | none => .over 211
def amountT (k : Ky) : T Int := .ask k fun v => .done (v.getD (0, 0)).1

/-- A new block of two cells, behind calls on the hand. -/
theorem far_two {a b : Value} {t : TypeId} (h : Hand x o s p r w) (S : Step x (w.alloc (.cells #[a, b] t)) w') :
    w'.cell? ⟨w.heap.size, 0, none⟩ = some a ∧ w'.cell? ⟨w.heap.size, 1, none⟩ = some b ∧ w'.frozen? ⟨w.heap.size, 0, none⟩ = false ∧ w'.frozen? ⟨w.heap.size, 1, none⟩ = false ∧ w.heap.size < w'.heap.size := by
  have h1 := S.block _ (h.farNew (.cells #[a, b] t))
  have h2 : (w.alloc (.cells #[a, b] t)).heap[w.heap.size]? = some (.cells #[a, b] t (0, 0)) := by
    show (w.heap.push _)[_]? = _
    rw [Array.getElem?_push, if_pos rfl]
  rw [h2] at h1
  exact ⟨by simp [cell_of_heap h1], by simp [cell_of_heap h1], frozen_of_heap h1 0, frozen_of_heap h1 1, (Array.getElem?_eq_some_iff.1 h1).1⟩

set_option maxHeartbeats 400000 in
theorem must_is {c : Cel} {v : Vl} (hc : c.ans = some v) (k : Ky) (h : Hand x o (c :: s) p r w) :
    Calls Tryz.prog 75 #[.pointer (some ⟨x, 0, none⟩), .agg #[.int .u8 k.1, .int .u32 k.2.1, .int .u32 k.2.2]] w fun e w' => e = .returned (.agg #[.int .u64 v.1, .int .u64 v.2]) ∧ Step x w w' ∧ Hand x o s p r w' := by
  have hx := h.lt
  have HC := Lib.hid hc
  have ha := h.alloc (.cells #[.int .u8 k.1, .int .u32 k.2.1, .int .u32 k.2.2] 52)
  have h' := Lib.hid (ha.alloc (.cells #[.int .u64 0, .int .u64 0] 48))
  have HA := Lib.hid ha
  clear h hc ha
  go_enter Tryz.func75, Tryz.ntmps75
  go_wp2_with fail
  refine (see_is HC.out k h'.out).mono ?_
  rintro e w1 ⟨rfl, S1, H1⟩
  obtain ⟨c0, c1, f0, f1, hs⟩ := far_two HA.out S1
  have F1 := S1.far _ (HA.out.farNew _)
  rw [World.size_alloc] at c0 c1 f0 f1 hs F1
  have hx1 := H1.lt
  go_wp2_with fail
  refine (check_yes _ _).mono ?_
  rintro e w2 ⟨rfl, rfl⟩
  go_wp2_with fail
  have S2 := (((Step.refl x w).alloc hx (.cells #[.int .u8 k.1, .int .u32 k.2.1, .int .u32 k.2.2] 52)).alloc (by simp; omega) (.cells #[.int .u64 0, .int .u64 0] 48)).trans S1
  refine bodyPost_ret (v := .agg #[.int .u64 v.1, .int .u64 v.2]) (by simp [results, Tryz.results75, go_sem, hs, c0, c1]) rfl ⟨rfl, ?_, ?_⟩
  · exact ((S2.setNew hx (p := ⟨w.heap.size + 1, 0, none⟩) (by simp) _).setNew hx (p := ⟨w.heap.size + 1, 1, none⟩) (by simp) _).alloc (by simpa [World.setCell] using hx1) _
  · exact ((H1.setFar (q := ⟨w.heap.size + 1, 0, none⟩) F1 (by show x < w.heap.size + 1; omega) _).setFar (q := ⟨w.heap.size + 1, 1, none⟩) (F1.setCell (by show w.heap.size + 1 ≠ x; omega) _) (by show x < w.heap.size + 1; omega) _).alloc _

set_option maxHeartbeats 400000 in
theorem must_not {c : Cel} (hc : c.ans = none) (k : Ky) (h : Hand x o (c :: s) p r w) :
    Calls Tryz.prog 75 #[.pointer (some ⟨x, 0, none⟩), .agg #[.int .u8 k.1, .int .u32 k.2.1, .int .u32 k.2.2]] w fun e w' => e = overP 211 ∧ Step x w w' ∧ Dead x o w' := by
  have hx := h.lt
  have HC := Lib.hid hc
  have ha := h.alloc (.cells #[.int .u8 k.1, .int .u32 k.2.1, .int .u32 k.2.2] 52)
  have h' := Lib.hid (ha.alloc (.cells #[.int .u64 0, .int .u64 0] 48))
  clear h hc ha
  go_enter Tryz.func75, Tryz.ntmps75
  go_wp2_with fail
  refine (see_not HC.out k h'.out).mono ?_
  rintro e w1 ⟨rfl, S1, H1⟩
  have hx1 := H1.lt
  go_wp2_with fail
  refine (check_no _ _).mono ?_
  rintro e w2 ⟨rfl, rfl⟩
  go_wp2_with fail
  exact ⟨rfl, rfl, ((((Step.refl x w).alloc hx _).alloc (by simp; omega) _).trans S1).alloc hx1 _, (H1.alloc _).dead⟩

set_option maxHeartbeats 400000 in
theorem must_nil (k : Ky) (h : Hand x o [] p r w) :
    Calls Tryz.prog 75 #[.pointer (some ⟨x, 0, none⟩), .agg #[.int .u8 k.1, .int .u32 k.2.1, .int .u32 k.2.2]] w fun e w' => e = needsP k ∧ Step x w w' ∧ Dead x o w' := by
  have hx := h.lt
  have ha := h.alloc (.cells #[.int .u8 k.1, .int .u32 k.2.1, .int .u32 k.2.2] 52)
  have h' := Lib.hid (ha.alloc (.cells #[.int .u64 0, .int .u64 0] 48))
  clear h ha
  go_enter Tryz.func75, Tryz.ntmps75
  go_wp2_with fail
  refine (see_none k h'.out).mono ?_
  rintro e w1 ⟨S1, rfl, H1⟩
  go_wp2_with fail
  exact ⟨rfl, rfl, (((Step.refl x w).alloc hx _).alloc (by simp; omega) _).trans S1, H1⟩

/-- The value of a thing. -/
abbrev valA (v : Vl) : Value := .agg #[.int .u64 v.1, .int .u64 v.2]
theorem must_any (k : Ky) (h : Hand x o s p r w) :
    Calls Tryz.prog 75 #[.pointer (some ⟨x, 0, none⟩), .agg #[.int .u8 k.1, .int .u32 k.2.1, .int .u32 k.2.2]] w (Met x o w (fun v : Vl => .agg #[.int .u64 v.1, .int .u64 v.2]) (fun _ => p) (fun _ => r) ((mustT k).run s)) := by
  cases s with
  | nil => exact (must_nil k h).mono fun e w' ⟨he, S, D⟩ => by subst he; exact Met.need S rfl D
  | cons c s =>
    cases hc : c.ans with
    | none => exact (must_not hc k h).mono fun e w' ⟨he, S, D⟩ => by subst he; exact Met.over S (by unfold mustT T.run; rw [hc]; rfl) D
    | some v => exact (must_is hc k h).mono fun e w' ⟨he, S, H⟩ => Met.ok S (by unfold mustT T.run; rw [hc]; rfl) he H

set_option maxHeartbeats 400000 in
theorem amount_some (c : Cel) (k : Ky) (h : Hand x o (c :: s) p r w) :
    Calls Tryz.prog 80 #[.pointer (some ⟨x, 0, none⟩), .agg #[.int .u8 k.1, .int .u32 k.2.1, .int .u32 k.2.2]] w fun e w' => e = .returned (.int .u64 (c.ans.getD (0, 0)).1) ∧ Step x w w' ∧ Hand x o s p r w' := by
  have hx := h.lt
  have h' := Lib.hid (h.alloc (.cells #[.int .u8 k.1, .int .u32 k.2.1, .int .u32 k.2.2] 52))
  clear h
  go_enter Tryz.func80, Tryz.ntmps80
  go_wp2_with fail
  refine (see_some k c h'.out).mono ?_
  rintro e w1 ⟨S1, rfl, H1⟩
  have hx1 := H1.lt
  unfold valV
  go_wp2_with fail
  go_ret
  exact ⟨rfl, (((Step.refl x w).alloc hx _).trans S1).alloc hx1 _, H1.alloc _⟩

set_option maxHeartbeats 400000 in
theorem amount_nil (k : Ky) (h : Hand x o [] p r w) :
    Calls Tryz.prog 80 #[.pointer (some ⟨x, 0, none⟩), .agg #[.int .u8 k.1, .int .u32 k.2.1, .int .u32 k.2.2]] w fun e w' => e = needsP k ∧ Step x w w' ∧ Dead x o w' := by
  have hx := h.lt
  have h' := Lib.hid (h.alloc (.cells #[.int .u8 k.1, .int .u32 k.2.1, .int .u32 k.2.2] 52))
  clear h
  go_enter Tryz.func80, Tryz.ntmps80
  go_wp2_with fail
  refine (see_none k h'.out).mono ?_
  rintro e w1 ⟨S1, rfl, H1⟩
  go_wp2_with fail
  exact ⟨rfl, rfl, ((Step.refl x w).alloc hx _).trans S1, H1⟩
theorem hamount_any (k : Ky) (h : Hand x o s p r w) :
    Calls Tryz.prog 80 #[.pointer (some ⟨x, 0, none⟩), .agg #[.int .u8 k.1, .int .u32 k.2.1, .int .u32 k.2.2]] w (Met x o w (fun a : Int => .int .u64 a) (fun _ => p) (fun _ => r) ((amountT k).run s)) := by
  cases s with
  | nil => exact (amount_nil k h).mono fun e w' ⟨he, S, D⟩ => by subst he; exact Met.need S rfl D
  | cons c s => exact (amount_some c k h).mono fun e w' ⟨he, S, H⟩ => Met.ok S rfl he H
end
end Go.Proofs.YtdbpjbmalinlbaaGreat
