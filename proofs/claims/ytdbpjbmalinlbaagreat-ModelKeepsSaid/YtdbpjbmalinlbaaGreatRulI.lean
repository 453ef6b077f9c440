/- Contracts of begin, items. -/
import Derived.Test.YtdbpjbmalinlbaaGreatRulH
import Derived.Deep.RegionHeld2
namespace Go.Proofs.YtdbpjbmalinlbaaGreat
open Go.RowKit

section
variable {x : Nat} {o : OpV} {s : List Cel} {p : List Pt} {r : Rp} {w w' : World}

theorem check_any (b : Bool) (e : Int) (w : World) : Calls Tryz.prog 69 #[.bool b, .int .u16 e] w fun x w' => ((Hid (b = true) ∧ x = .returned (.tuple #[])) ∨ (Hid (b = false) ∧ x = overP e)) ∧ w = w' := by
  cases b
  · exact (check_no e w).mono fun x w' ⟨h1, h2⟩ => ⟨.inr ⟨Lib.hid rfl, h1⟩, h2⟩
  · exact (check_yes e w).mono fun x w' ⟨h1, h2⟩ => ⟨.inl ⟨Lib.hid rfl, h1⟩, h2⟩

theorem cell_off {p q : Addr} {v u : Value} (h : q.block ≠ p.block) (hc : w.cell? q = some u) : (w.setCell p v).cell? q = some u := by
  rw [World.cell?_of_block (w := w) (Below.heap_setCell _ _ _ _ h)]; exact hc

/-- What begin says: an error, or 0. -/
def beginE (o : OpV) : Int :=
  if soundB o = false then 1 else if o.kind = 8 ∨ o.kind = 9 ∨ o.kind = 11 then (if o.who = o.whom then 212 else 0) else if o.kind = 10 then needsE o.what o.n else 0
def beginT (o : OpV) : T Unit := if beginE o = 0 then .done () else .over (beginE o)

set_option maxRecDepth 100000 in
set_option maxHeartbeats 1000000 in
theorem begin_unsound (h : Hand x o s p r w) (hs : soundB o = false) :
    Calls Tryz.prog 52 #[.pointer (some ⟨x, 0, none⟩)] w fun e w' => e = overP 1 ∧ w' = w := by
  go_enter Tryz.func52, Tryz.ntmps52
  go_wp2_with fail
  refine (sound_any h).mono ?_
  rintro e w1 ⟨rfl, rfl⟩
  rw [hs]
  go_wp2_with fail
  refine (check_no _ _).mono ?_
  rintro e w1 ⟨rfl, rfl⟩
  go_wp2_with fail
  exact ⟨rfl, rfl, rfl⟩

set_option maxRecDepth 100000 in
set_option maxHeartbeats 1000000 in
theorem begin_plain (h : Hand x o s p r w) (hs : soundB o = true) (h8 : ¬ o.kind = 8) (h9 : ¬ o.kind = 9) (h11 : ¬ o.kind = 11) (h10 : ¬ o.kind = 10) :
    Calls Tryz.prog 52 #[.pointer (some ⟨x, 0, none⟩)] w fun e w' => e = .returned (.tuple #[]) ∧ w' = w := by
  obtain ⟨c0, c1, c2, c3, c4, c5, c6⟩ := h.op
  go_enter Tryz.func52, Tryz.ntmps52
  go_wp2_with fail
  refine (sound_any h).mono ?_
  rintro e w1 ⟨rfl, rfl⟩
  rw [hs]
  go_wp2_with fail
  refine (check_yes _ _).mono ?_
  rintro e w1 ⟨rfl, rfl⟩
  go_wp2_with fail
  go_end0
  exact ⟨rfl, rfl⟩

set_option maxRecDepth 100000 in
set_option maxHeartbeats 1000000 in
theorem begin_two (h : Hand x o s p r w) (hs : soundB o = true) (hk : o.kind = 8 ∨ o.kind = 9 ∨ o.kind = 11) :
    Calls Tryz.prog 52 #[.pointer (some ⟨x, 0, none⟩)] w fun e w' => ((Hid (o.who ≠ o.whom) ∧ e = .returned (.tuple #[])) ∨ (Hid (o.who = o.whom) ∧ e = overP 212)) ∧ Below w.heap.size w w' := by
  obtain ⟨c0, c1, c2, c3, c4, c5, c6⟩ := h.op
  by_cases hw : o.who = o.whom
  · have hb : decide (o.who ≠ o.whom) = false := by simp [hw]
    rcases hk with hk | hk | hk <;> rw [hk] at c0 <;> clear hk
    all_goals (
      go_enter Tryz.func52, Tryz.ntmps52
      go_wp2_with fail
      refine (sound_any h).mono ?_
      rintro e w1 ⟨rfl, rfl⟩
      rw [hs]
      go_wp2_with fail
      refine (check_yes _ _).mono ?_
      rintro e w1 ⟨rfl, rfl⟩
      go_upto_region 5 with fail
      go_region_held2 (fun w' => w'.cell? ⟨x, 1, none⟩ = some (.int .u32 o.who) ∧ w'.cell? ⟨x, 2, none⟩ = some (.int .u32 o.whom)) (exact ⟨c1, c2⟩)
        ((go_at_call 69; refine (check_any _ _ _).mono ?_; rintro e w2 ⟨⟨hc, rfl⟩ | ⟨hc, rfl⟩, rfl⟩; rotate_left; (go_wp2_with fail; exact ⟨rfl, .inr ⟨Lib.hid hw, rfl⟩, (Below.refl _ _).drew⟩)))
      exact absurd hc.out (by simp))
  · have hb : (o.who != o.whom) = true := by simp [hw]
    rcases hk with hk | hk | hk <;> rw [hk] at c0 <;> clear hk
    all_goals (
      go_enter Tryz.func52, Tryz.ntmps52
      go_wp2_with fail
      refine (sound_any h).mono ?_
      rintro e w1 ⟨rfl, rfl⟩
      rw [hs]
      go_wp2_with fail
      refine (check_yes _ _).mono ?_
      rintro e w1 ⟨rfl, rfl⟩
      go_upto_region 5 with fail
      go_region_held2 (fun w' => w'.cell? ⟨x, 1, none⟩ = some (.int .u32 o.who) ∧ w'.cell? ⟨x, 2, none⟩ = some (.int .u32 o.whom)) (exact ⟨c1, c2⟩)
        ((go_at_call 69; refine (check_yes _ _).mono ?_; rintro e w2 ⟨rfl, rfl⟩))
      go_wp2_with fail
      go_end0
      exact ⟨.inl ⟨Lib.hid hw, rfl⟩, (Below.refl _ _).drew⟩)

set_option maxRecDepth 100000 in
set_option maxHeartbeats 1000000 in
theorem begin_craft (h : Hand x o s p r w) (hs : soundB o = true) (hk : o.kind = 10) :
    Calls Tryz.prog 52 #[.pointer (some ⟨x, 0, none⟩)] w fun e w' => ((Hid (needsE o.what o.n = 0) ∧ e = .returned (.tuple #[])) ∨ (Hid (needsE o.what o.n ≠ 0) ∧ e = overP (needsE o.what o.n))) ∧ Below w.heap.size w w' := by
  obtain ⟨c0, c1, c2, c3, c4, c5, c6⟩ := h.op
  have hx := h.lt
  rw [hk] at c0
  clear hk
  go_enter Tryz.func52, Tryz.ntmps52
  go_wp2_with fail
  refine (sound_any h).mono ?_
  rintro e w1 ⟨rfl, rfl⟩
  rw [hs]
  go_wp2_with fail
  refine (check_yes _ _).mono ?_
  rintro e w1 ⟨rfl, rfl⟩
  have hxn : x ≠ w1.heap.size := by omega
  go_upto_region 7 with fail
  go_region_held2 (fun w' => w'.cell? ⟨x, 3, none⟩ = some (.int .u32 o.what) ∧ w'.cell? ⟨x, 5, none⟩ = some (.int .u64 o.n))
    (first | exact ⟨c3, c5⟩ | exact ⟨a3, a5⟩ | go_keep | ((try dsimp only); apply And.intro <;> first | go_keep | exact cell_off (by show x ≠ _; omega) (cell_off (by show x ≠ _; omega) (by assumption))))
    ((go_at_call 71; refine (needs_any _ _ _).mono ?_; rintro e w2 ⟨r, rfl, bq, vi, vo, rfl, k1, k2⟩; obtain ⟨ai, ci, rfl⟩ := k1.shape; obtain ⟨ao, co, rfl⟩ := k2.shape
      have a3 : w2.cell? ⟨x, 3, none⟩ = some (.int .u32 o.what) := cell_keep bq (by first | exact c3 | simpa [go_sem, hx] using c3)
      have a5 : w2.cell? ⟨x, 5, none⟩ = some (.int .u64 o.n) := cell_keep bq (by first | exact c5 | simpa [go_sem, hx] using c5)
      have B0 : Below w1.heap.size w1 w2 := by first | exact below_trans ((Below.refl _ _).drew) bq | exact below_trans (((Below.refl _ _).alloc (Nat.le_refl _) _).drew) bq
      first
        | (have q0 : w2.cell? ⟨w1.heap.size, 0, none⟩ = some (.slice none 0 0) := cell_keep bq (cell_of_heap (heap_alloc_new w1.drew _) 0)
           have q1 : w2.cell? ⟨w1.heap.size, 1, none⟩ = some (.slice none 0 0) := cell_keep bq (cell_of_heap (heap_alloc_new w1.drew _) 1)
           have y0 : w2.frozen? ⟨w1.heap.size, 0, none⟩ = false := (bq.frozen (by simp)).trans (frozen_of_heap (heap_alloc_new w1.drew _) 0)
           have y1 : w2.frozen? ⟨w1.heap.size, 1, none⟩ = false := (bq.frozen (by simp)).trans (frozen_of_heap (heap_alloc_new w1.drew _) 1))
        | skip))
  all_goals (
    generalize hE : needsE o.what o.n = E
    have HE := Lib.hid hE
    clear hE
    go_wp2_with fail
    refine (check_any _ _ _).mono ?_
    rintro e w3 ⟨⟨hc, rfl⟩ | ⟨hc, rfl⟩, rfl⟩
    · go_wp2_with fail
      go_end0
      exact ⟨.inl ⟨Lib.hid (by rw [HE.out]; simpa using hc.out), rfl⟩, by first | exact B0.alloc B0.size _ | exact (B0.setCell (Nat.le_refl _) _).setCell (Nat.le_refl _) _⟩
    · go_wp2_with fail
      exact ⟨rfl, .inr ⟨Lib.hid (by rw [HE.out]; simpa using hc.out), by rw [HE.out]⟩, by first | exact B0.alloc B0.size _ | exact (B0.setCell (Nat.le_refl _) _).setCell (Nat.le_refl _) _⟩)

/-- How begin ends. -/
theorem begin_any (h : Hand x o s p r w) :
    Calls Tryz.prog 52 #[.pointer (some ⟨x, 0, none⟩)] w fun e w' => ((Hid (beginE o = 0) ∧ e = .returned (.tuple #[])) ∨ (Hid (beginE o ≠ 0) ∧ e = overP (beginE o))) ∧ Below w.heap.size w w' := by
  by_cases hs : soundB o = false
  · exact (begin_unsound h hs).mono fun e w' ⟨he, hw⟩ => by
      subst hw
      have : beginE o = 1 := by unfold beginE; rw [if_pos hs]
      exact ⟨.inr ⟨Lib.hid (by rw [this]; decide), by rw [this]; exact he⟩, Below.refl _ _⟩
  · have hs' : soundB o = true := by simpa using hs
    by_cases hk : o.kind = 8 ∨ o.kind = 9 ∨ o.kind = 11
    · have e0 : beginE o = if o.who = o.whom then 212 else 0 := by unfold beginE; rw [if_neg hs, if_pos hk]
      refine (begin_two h hs' hk).mono fun e w' ⟨he, hw⟩ => ⟨?_, hw⟩
      rcases he with ⟨h1, h2⟩ | ⟨h1, h2⟩
      · exact .inl ⟨Lib.hid (by rw [e0, if_neg h1.out]), h2⟩
      · exact .inr ⟨Lib.hid (by rw [e0, if_pos h1.out]; decide), by rw [e0, if_pos h1.out]; exact h2⟩
    · by_cases h10 : o.kind = 10
      · have e0 : beginE o = needsE o.what o.n := by unfold beginE; rw [if_neg hs, if_neg hk, if_pos h10]
        rw [e0]
        exact begin_craft h hs' h10
      · have e0 : beginE o = 0 := by unfold beginE; rw [if_neg hs, if_neg hk, if_neg h10]
        exact (begin_plain h hs' (fun h => hk (.inl h)) (fun h => hk (.inr (.inl h))) (fun h => hk (.inr (.inr h))) h10).mono fun e w' ⟨he, hw⟩ => by
          subst hw
          exact ⟨.inl ⟨Lib.hid e0, he⟩, Below.refl _ _⟩
end
end Go.Proofs.YtdbpjbmalinlbaaGreat
