/- Contract of sound (printed by sndgen.py). -/
import Derived.Test.YtdbpjbmalinlbaaGreatRulG
namespace Go.Proofs.YtdbpjbmalinlbaaGreat
open Go.RowKit

def soundB (o : OpV) : Bool :=
  if o.kind = 1 ∨ o.kind = 13 ∨ o.kind = 14 ∨ o.kind = 17 ∨ o.kind = 10 then decide (0 < o.who) else
  if o.kind = 2 ∨ o.kind = 3 ∨ o.kind = 6 ∨ o.kind = 7 then decide (0 < o.who) && decide (0 < o.n) else
  if o.kind = 4 ∨ o.kind = 5 then decide (0 < o.who) && decide (0 < o.n) && itemB o.what else
  if o.kind = 8 then decide (0 < o.who) && decide (0 < o.n) && decide (0 < o.whom) else
  if o.kind = 9 then decide (0 < o.who) && decide (0 < o.n) && decide (0 < o.whom) && itemB o.what else
  if o.kind = 11 then decide (0 < o.who) && decide (0 < o.whom) else
  if o.kind = 12 ∨ o.kind = 18 then decide (0 < o.who) && decide (o.what ≤ 1000) else
  if o.kind = 15 then decide (0 < o.who) && decide (0 < o.n) && itemB o.what && decide (o.price ≤ 4611686018427387904) else
  if o.kind = 16 then decide (0 < o.who) && decide (0 < o.n) && decide (o.n ≤ 4611686018427387904) else
  false

section
variable {x : Nat} {o : OpV} {s : List Cel} {p : List Pt} {r : Rp} {w w' : World}

set_option maxRecDepth 100000 in
set_option maxHeartbeats 1000000 in
theorem sound_1 (h : Hand x o s p r w) (hk : o.kind = 1) :
    Calls Tryz.prog 70 #[.pointer (some ⟨x, 0, none⟩)] w fun e w' => e = .returned (.bool (soundB o)) ∧ w' = w := by
  obtain ⟨c0, c1, c2, c3, c4, c5, c6⟩ := h.op
  rw [hk] at c0
  by_cases h0 : 0 < o.who
  rotate_left
  · have hs : Hid (soundB o = false) := Lib.hid (by unfold soundB; simp [hk]; try omega)
    clear hk
    go_enter Tryz.func70, Tryz.ntmps70
    go_wp2_with fail
    go_ret
    exact ⟨ret_bool (by first | exact hs.out.symm | (rw [hs.out]; simp; omega)), rfl⟩
  · have hs : Hid (soundB o = true) := Lib.hid (by unfold soundB; simp [hk, h0])
    clear hk
    go_enter Tryz.func70, Tryz.ntmps70
    go_wp2_with fail
    go_ret
    exact ⟨ret_bool (by first | exact hs.out.symm | (rw [hs.out]; simp; omega)), rfl⟩

set_option maxRecDepth 100000 in
set_option maxHeartbeats 1000000 in
theorem sound_13 (h : Hand x o s p r w) (hk : o.kind = 13) :
    Calls Tryz.prog 70 #[.pointer (some ⟨x, 0, none⟩)] w fun e w' => e = .returned (.bool (soundB o)) ∧ w' = w := by
  obtain ⟨c0, c1, c2, c3, c4, c5, c6⟩ := h.op
  rw [hk] at c0
  by_cases h0 : 0 < o.who
  rotate_left
  · have hs : Hid (soundB o = false) := Lib.hid (by unfold soundB; simp [hk]; try omega)
    clear hk
    go_enter Tryz.func70, Tryz.ntmps70
    go_wp2_with fail
    go_ret
    exact ⟨ret_bool (by first | exact hs.out.symm | (rw [hs.out]; simp; omega)), rfl⟩
  · have hs : Hid (soundB o = true) := Lib.hid (by unfold soundB; simp [hk, h0])
    clear hk
    go_enter Tryz.func70, Tryz.ntmps70
    go_wp2_with fail
    go_ret
    exact ⟨ret_bool (by first | exact hs.out.symm | (rw [hs.out]; simp; omega)), rfl⟩

set_option maxRecDepth 100000 in
set_option maxHeartbeats 1000000 in
theorem sound_14 (h : Hand x o s p r w) (hk : o.kind = 14) :
    Calls Tryz.prog 70 #[.pointer (some ⟨x, 0, none⟩)] w fun e w' => e = .returned (.bool (soundB o)) ∧ w' = w := by
  obtain ⟨c0, c1, c2, c3, c4, c5, c6⟩ := h.op
  rw [hk] at c0
  by_cases h0 : 0 < o.who
  rotate_left
  · have hs : Hid (soundB o = false) := Lib.hid (by unfold soundB; simp [hk]; try omega)
    clear hk
    go_enter Tryz.func70, Tryz.ntmps70
    go_wp2_with fail
    go_ret
    exact ⟨ret_bool (by first | exact hs.out.symm | (rw [hs.out]; simp; omega)), rfl⟩
  · have hs : Hid (soundB o = true) := Lib.hid (by unfold soundB; simp [hk, h0])
    clear hk
    go_enter Tryz.func70, Tryz.ntmps70
    go_wp2_with fail
    go_ret
    exact ⟨ret_bool (by first | exact hs.out.symm | (rw [hs.out]; simp; omega)), rfl⟩

set_option maxRecDepth 100000 in
set_option maxHeartbeats 1000000 in
theorem sound_17 (h : Hand x o s p r w) (hk : o.kind = 17) :
    Calls Tryz.prog 70 #[.pointer (some ⟨x, 0, none⟩)] w fun e w' => e = .returned (.bool (soundB o)) ∧ w' = w := by
  obtain ⟨c0, c1, c2, c3, c4, c5, c6⟩ := h.op
  rw [hk] at c0
  by_cases h0 : 0 < o.who
  rotate_left
  · have hs : Hid (soundB o = false) := Lib.hid (by unfold soundB; simp [hk]; try omega)
    clear hk
    go_enter Tryz.func70, Tryz.ntmps70
    go_wp2_with fail
    go_ret
    exact ⟨ret_bool (by first | exact hs.out.symm | (rw [hs.out]; simp; omega)), rfl⟩
  · have hs : Hid (soundB o = true) := Lib.hid (by unfold soundB; simp [hk, h0])
    clear hk
    go_enter Tryz.func70, Tryz.ntmps70
    go_wp2_with fail
    go_ret
    exact ⟨ret_bool (by first | exact hs.out.symm | (rw [hs.out]; simp; omega)), rfl⟩

set_option maxRecDepth 100000 in
set_option maxHeartbeats 1000000 in
theorem sound_10 (h : Hand x o s p r w) (hk : o.kind = 10) :
    Calls Tryz.prog 70 #[.pointer (some ⟨x, 0, none⟩)] w fun e w' => e = .returned (.bool (soundB o)) ∧ w' = w := by
  obtain ⟨c0, c1, c2, c3, c4, c5, c6⟩ := h.op
  rw [hk] at c0
  by_cases h0 : 0 < o.who
  rotate_left
  · have hs : Hid (soundB o = false) := Lib.hid (by unfold soundB; simp [hk]; try omega)
    clear hk
    go_enter Tryz.func70, Tryz.ntmps70
    go_wp2_with fail
    go_ret
    exact ⟨ret_bool (by first | exact hs.out.symm | (rw [hs.out]; simp; omega)), rfl⟩
  · have hs : Hid (soundB o = true) := Lib.hid (by unfold soundB; simp [hk, h0])
    clear hk
    go_enter Tryz.func70, Tryz.ntmps70
    go_wp2_with fail
    go_ret
    exact ⟨ret_bool (by first | exact hs.out.symm | (rw [hs.out]; simp; omega)), rfl⟩

set_option maxRecDepth 100000 in
set_option maxHeartbeats 1000000 in
theorem sound_2 (h : Hand x o s p r w) (hk : o.kind = 2) :
    Calls Tryz.prog 70 #[.pointer (some ⟨x, 0, none⟩)] w fun e w' => e = .returned (.bool (soundB o)) ∧ w' = w := by
  obtain ⟨c0, c1, c2, c3, c4, c5, c6⟩ := h.op
  rw [hk] at c0
  by_cases h0 : 0 < o.who
  rotate_left
  · have hs : Hid (soundB o = false) := Lib.hid (by unfold soundB; simp [hk]; try omega)
    clear hk
    go_enter Tryz.func70, Tryz.ntmps70
    go_wp2_with fail
    go_ret
    exact ⟨ret_bool (by first | exact hs.out.symm | (rw [hs.out]; simp; omega)), rfl⟩
  by_cases h1 : 0 < o.n
  rotate_left
  · have hs : Hid (soundB o = false) := Lib.hid (by unfold soundB; simp [hk, h0]; try omega)
    clear hk
    go_enter Tryz.func70, Tryz.ntmps70
    go_wp2_with fail
    go_ret
    exact ⟨ret_bool (by first | exact hs.out.symm | (rw [hs.out]; simp; omega)), rfl⟩
  · have hs : Hid (soundB o = true) := Lib.hid (by unfold soundB; simp [hk, h0, h1])
    clear hk
    go_enter Tryz.func70, Tryz.ntmps70
    go_wp2_with fail
    go_ret
    exact ⟨ret_bool (by first | exact hs.out.symm | (rw [hs.out]; simp; omega)), rfl⟩

set_option maxRecDepth 100000 in
set_option maxHeartbeats 1000000 in
theorem sound_3 (h : Hand x o s p r w) (hk : o.kind = 3) :
    Calls Tryz.prog 70 #[.pointer (some ⟨x, 0, none⟩)] w fun e w' => e = .returned (.bool (soundB o)) ∧ w' = w := by
  obtain ⟨c0, c1, c2, c3, c4, c5, c6⟩ := h.op
  rw [hk] at c0
  by_cases h0 : 0 < o.who
  rotate_left
  · have hs : Hid (soundB o = false) := Lib.hid (by unfold soundB; simp [hk]; try omega)
    clear hk
    go_enter Tryz.func70, Tryz.ntmps70
    go_wp2_with fail
    go_ret
    exact ⟨ret_bool (by first | exact hs.out.symm | (rw [hs.out]; simp; omega)), rfl⟩
  by_cases h1 : 0 < o.n
  rotate_left
  · have hs : Hid (soundB o = false) := Lib.hid (by unfold soundB; simp [hk, h0]; try omega)
    clear hk
    go_enter Tryz.func70, Tryz.ntmps70
    go_wp2_with fail
    go_ret
    exact ⟨ret_bool (by first | exact hs.out.symm | (rw [hs.out]; simp; omega)), rfl⟩
  · have hs : Hid (soundB o = true) := Lib.hid (by unfold soundB; simp [hk, h0, h1])
    clear hk
    go_enter Tryz.func70, Tryz.ntmps70
    go_wp2_with fail
    go_ret
    exact ⟨ret_bool (by first | exact hs.out.symm | (rw [hs.out]; simp; omega)), rfl⟩

set_option maxRecDepth 100000 in
set_option maxHeartbeats 1000000 in
theorem sound_6 (h : Hand x o s p r w) (hk : o.kind = 6) :
    Calls Tryz.prog 70 #[.pointer (some ⟨x, 0, none⟩)] w fun e w' => e = .returned (.bool (soundB o)) ∧ w' = w := by
  obtain ⟨c0, c1, c2, c3, c4, c5, c6⟩ := h.op
  rw [hk] at c0
  by_cases h0 : 0 < o.who
  rotate_left
  · have hs : Hid (soundB o = false) := Lib.hid (by unfold soundB; simp [hk]; try omega)
    clear hk
    go_enter Tryz.func70, Tryz.ntmps70
    go_wp2_with fail
    go_ret
    exact ⟨ret_bool (by first | exact hs.out.symm | (rw [hs.out]; simp; omega)), rfl⟩
  by_cases h1 : 0 < o.n
  rotate_left
  · have hs : Hid (soundB o = false) := Lib.hid (by unfold soundB; simp [hk, h0]; try omega)
    clear hk
    go_enter Tryz.func70, Tryz.ntmps70
    go_wp2_with fail
    go_ret
    exact ⟨ret_bool (by first | exact hs.out.symm | (rw [hs.out]; simp; omega)), rfl⟩
  · have hs : Hid (soundB o = true) := Lib.hid (by unfold soundB; simp [hk, h0, h1])
    clear hk
    go_enter Tryz.func70, Tryz.ntmps70
    go_wp2_with fail
    go_ret
    exact ⟨ret_bool (by first | exact hs.out.symm | (rw [hs.out]; simp; omega)), rfl⟩

set_option maxRecDepth 100000 in
set_option maxHeartbeats 1000000 in
theorem sound_7 (h : Hand x o s p r w) (hk : o.kind = 7) :
    Calls Tryz.prog 70 #[.pointer (some ⟨x, 0, none⟩)] w fun e w' => e = .returned (.bool (soundB o)) ∧ w' = w := by
  obtain ⟨c0, c1, c2, c3, c4, c5, c6⟩ := h.op
  rw [hk] at c0
  by_cases h0 : 0 < o.who
  rotate_left
  · have hs : Hid (soundB o = false) := Lib.hid (by unfold soundB; simp [hk]; try omega)
    clear hk
    go_enter Tryz.func70, Tryz.ntmps70
    go_wp2_with fail
    go_ret
    exact ⟨ret_bool (by first | exact hs.out.symm | (rw [hs.out]; simp; omega)), rfl⟩
  by_cases h1 : 0 < o.n
  rotate_left
  · have hs : Hid (soundB o = false) := Lib.hid (by unfold soundB; simp [hk, h0]; try omega)
    clear hk
    go_enter Tryz.func70, Tryz.ntmps70
    go_wp2_with fail
    go_ret
    exact ⟨ret_bool (by first | exact hs.out.symm | (rw [hs.out]; simp; omega)), rfl⟩
  · have hs : Hid (soundB o = true) := Lib.hid (by unfold soundB; simp [hk, h0, h1])
    clear hk
    go_enter Tryz.func70, Tryz.ntmps70
    go_wp2_with fail
    go_ret
    exact ⟨ret_bool (by first | exact hs.out.symm | (rw [hs.out]; simp; omega)), rfl⟩

set_option maxRecDepth 100000 in
set_option maxHeartbeats 1000000 in
theorem sound_4 (h : Hand x o s p r w) (hk : o.kind = 4) :
    Calls Tryz.prog 70 #[.pointer (some ⟨x, 0, none⟩)] w fun e w' => e = .returned (.bool (soundB o)) ∧ w' = w := by
  obtain ⟨c0, c1, c2, c3, c4, c5, c6⟩ := h.op
  rw [hk] at c0
  by_cases h0 : 0 < o.who
  rotate_left
  · have hs : Hid (soundB o = false) := Lib.hid (by unfold soundB; simp [hk]; try omega)
    clear hk
    go_enter Tryz.func70, Tryz.ntmps70
    go_wp2_with fail
    go_ret
    exact ⟨ret_bool (by first | exact hs.out.symm | (rw [hs.out]; simp; omega)), rfl⟩
  by_cases h1 : 0 < o.n
  rotate_left
  · have hs : Hid (soundB o = false) := Lib.hid (by unfold soundB; simp [hk, h0]; try omega)
    clear hk
    go_enter Tryz.func70, Tryz.ntmps70
    go_wp2_with fail
    go_ret
    exact ⟨ret_bool (by first | exact hs.out.symm | (rw [hs.out]; simp; omega)), rfl⟩
  cases hi : itemB o.what
  · have hs : Hid (soundB o = false) := Lib.hid (by unfold soundB; simp [hk, h0, h1, hi])
    clear hk
    go_enter Tryz.func70, Tryz.ntmps70
    go_wp2_with fail
    refine (item_any _ _).mono ?_
    rintro e w1 ⟨rfl, rfl⟩
    rw [hi]
    go_wp2_with fail
    go_ret
    exact ⟨ret_bool (by first | exact hs.out.symm | (rw [hs.out]; simp; omega)), rfl⟩
  · have hs : Hid (soundB o = true) := Lib.hid (by unfold soundB; simp [hk, h0, h1, hi])
    clear hk
    go_enter Tryz.func70, Tryz.ntmps70
    go_wp2_with fail
    refine (item_any _ _).mono ?_
    rintro e w1 ⟨rfl, rfl⟩
    rw [hi]
    go_wp2_with fail
    go_ret
    exact ⟨ret_bool (by first | exact hs.out.symm | (rw [hs.out]; simp; omega)), rfl⟩

set_option maxRecDepth 100000 in
set_option maxHeartbeats 1000000 in
theorem sound_5 (h : Hand x o s p r w) (hk : o.kind = 5) :
    Calls Tryz.prog 70 #[.pointer (some ⟨x, 0, none⟩)] w fun e w' => e = .returned (.bool (soundB o)) ∧ w' = w := by
  obtain ⟨c0, c1, c2, c3, c4, c5, c6⟩ := h.op
  rw [hk] at c0
  by_cases h0 : 0 < o.who
  rotate_left
  · have hs : Hid (soundB o = false) := Lib.hid (by unfold soundB; simp [hk]; try omega)
    clear hk
    go_enter Tryz.func70, Tryz.ntmps70
    go_wp2_with fail
    go_ret
    exact ⟨ret_bool (by first | exact hs.out.symm | (rw [hs.out]; simp; omega)), rfl⟩
  by_cases h1 : 0 < o.n
  rotate_left
  · have hs : Hid (soundB o = false) := Lib.hid (by unfold soundB; simp [hk, h0]; try omega)
    clear hk
    go_enter Tryz.func70, Tryz.ntmps70
    go_wp2_with fail
    go_ret
    exact ⟨ret_bool (by first | exact hs.out.symm | (rw [hs.out]; simp; omega)), rfl⟩
  cases hi : itemB o.what
  · have hs : Hid (soundB o = false) := Lib.hid (by unfold soundB; simp [hk, h0, h1, hi])
    clear hk
    go_enter Tryz.func70, Tryz.ntmps70
    go_wp2_with fail
    refine (item_any _ _).mono ?_
    rintro e w1 ⟨rfl, rfl⟩
    rw [hi]
    go_wp2_with fail
    go_ret
    exact ⟨ret_bool (by first | exact hs.out.symm | (rw [hs.out]; simp; omega)), rfl⟩
  · have hs : Hid (soundB o = true) := Lib.hid (by unfold soundB; simp [hk, h0, h1, hi])
    clear hk
    go_enter Tryz.func70, Tryz.ntmps70
    go_wp2_with fail
    refine (item_any _ _).mono ?_
    rintro e w1 ⟨rfl, rfl⟩
    rw [hi]
    go_wp2_with fail
    go_ret
    exact ⟨ret_bool (by first | exact hs.out.symm | (rw [hs.out]; simp; omega)), rfl⟩

set_option maxRecDepth 100000 in
set_option maxHeartbeats 1000000 in
theorem sound_8 (h : Hand x o s p r w) (hk : o.kind = 8) :
    Calls Tryz.prog 70 #[.pointer (some ⟨x, 0, none⟩)] w fun e w' => e = .returned (.bool (soundB o)) ∧ w' = w := by
  obtain ⟨c0, c1, c2, c3, c4, c5, c6⟩ := h.op
  rw [hk] at c0
  by_cases h0 : 0 < o.who
  rotate_left
  · have hs : Hid (soundB o = false) := Lib.hid (by unfold soundB; simp [hk]; try omega)
    clear hk
    go_enter Tryz.func70, Tryz.ntmps70
    go_wp2_with fail
    go_ret
    exact ⟨ret_bool (by first | exact hs.out.symm | (rw [hs.out]; simp; omega)), rfl⟩
  by_cases h1 : 0 < o.n
  rotate_left
  · have hs : Hid (soundB o = false) := Lib.hid (by unfold soundB; simp [hk, h0]; try omega)
    clear hk
    go_enter Tryz.func70, Tryz.ntmps70
    go_wp2_with fail
    go_ret
    exact ⟨ret_bool (by first | exact hs.out.symm | (rw [hs.out]; simp; omega)), rfl⟩
  by_cases h2 : 0 < o.whom
  rotate_left
  · have hs : Hid (soundB o = false) := Lib.hid (by unfold soundB; simp [hk, h0, h1]; try omega)
    clear hk
    go_enter Tryz.func70, Tryz.ntmps70
    go_wp2_with fail
    go_ret
    exact ⟨ret_bool (by first | exact hs.out.symm | (rw [hs.out]; simp; omega)), rfl⟩
  · have hs : Hid (soundB o = true) := Lib.hid (by unfold soundB; simp [hk, h0, h1, h2])
    clear hk
    go_enter Tryz.func70, Tryz.ntmps70
    go_wp2_with fail
    go_ret
    exact ⟨ret_bool (by first | exact hs.out.symm | (rw [hs.out]; simp; omega)), rfl⟩

set_option maxRecDepth 100000 in
set_option maxHeartbeats 1000000 in
theorem sound_9 (h : Hand x o s p r w) (hk : o.kind = 9) :
    Calls Tryz.prog 70 #[.pointer (some ⟨x, 0, none⟩)] w fun e w' => e = .returned (.bool (soundB o)) ∧ w' = w := by
  obtain ⟨c0, c1, c2, c3, c4, c5, c6⟩ := h.op
  rw [hk] at c0
  by_cases h0 : 0 < o.who
  rotate_left
  · have hs : Hid (soundB o = false) := Lib.hid (by unfold soundB; simp [hk]; try omega)
    clear hk
    go_enter Tryz.func70, Tryz.ntmps70
    go_wp2_with fail
    go_ret
    exact ⟨ret_bool (by first | exact hs.out.symm | (rw [hs.out]; simp; omega)), rfl⟩
  by_cases h1 : 0 < o.n
  rotate_left
  · have hs : Hid (soundB o = false) := Lib.hid (by unfold soundB; simp [hk, h0]; try omega)
    clear hk
    go_enter Tryz.func70, Tryz.ntmps70
    go_wp2_with fail
    go_ret
    exact ⟨ret_bool (by first | exact hs.out.symm | (rw [hs.out]; simp; omega)), rfl⟩
  by_cases h2 : 0 < o.whom
  rotate_left
  · have hs : Hid (soundB o = false) := Lib.hid (by unfold soundB; simp [hk, h0, h1]; try omega)
    clear hk
    go_enter Tryz.func70, Tryz.ntmps70
    go_wp2_with fail
    go_ret
    exact ⟨ret_bool (by first | exact hs.out.symm | (rw [hs.out]; simp; omega)), rfl⟩
  cases hi : itemB o.what
  · have hs : Hid (soundB o = false) := Lib.hid (by unfold soundB; simp [hk, h0, h1, h2, hi])
    clear hk
    go_enter Tryz.func70, Tryz.ntmps70
    go_wp2_with fail
    refine (item_any _ _).mono ?_
    rintro e w1 ⟨rfl, rfl⟩
    rw [hi]
    go_wp2_with fail
    go_ret
    exact ⟨ret_bool (by first | exact hs.out.symm | (rw [hs.out]; simp; omega)), rfl⟩
  · have hs : Hid (soundB o = true) := Lib.hid (by unfold soundB; simp [hk, h0, h1, h2, hi])
    clear hk
    go_enter Tryz.func70, Tryz.ntmps70
    go_wp2_with fail
    refine (item_any _ _).mono ?_
    rintro e w1 ⟨rfl, rfl⟩
    rw [hi]
    go_wp2_with fail
    go_ret
    exact ⟨ret_bool (by first | exact hs.out.symm | (rw [hs.out]; simp; omega)), rfl⟩

set_option maxRecDepth 100000 in
set_option maxHeartbeats 1000000 in
theorem sound_11 (h : Hand x o s p r w) (hk : o.kind = 11) :
    Calls Tryz.prog 70 #[.pointer (some ⟨x, 0, none⟩)] w fun e w' => e = .returned (.bool (soundB o)) ∧ w' = w := by
  obtain ⟨c0, c1, c2, c3, c4, c5, c6⟩ := h.op
  rw [hk] at c0
  by_cases h0 : 0 < o.who
  rotate_left
  · have hs : Hid (soundB o = false) := Lib.hid (by unfold soundB; simp [hk]; try omega)
    clear hk
    go_enter Tryz.func70, Tryz.ntmps70
    go_wp2_with fail
    go_ret
    exact ⟨ret_bool (by first | exact hs.out.symm | (rw [hs.out]; simp; omega)), rfl⟩
  by_cases h1 : 0 < o.whom
  rotate_left
  · have hs : Hid (soundB o = false) := Lib.hid (by unfold soundB; simp [hk, h0]; try omega)
    clear hk
    go_enter Tryz.func70, Tryz.ntmps70
    go_wp2_with fail
    go_ret
    exact ⟨ret_bool (by first | exact hs.out.symm | (rw [hs.out]; simp; omega)), rfl⟩
  · have hs : Hid (soundB o = true) := Lib.hid (by unfold soundB; simp [hk, h0, h1])
    clear hk
    go_enter Tryz.func70, Tryz.ntmps70
    go_wp2_with fail
    go_ret
    exact ⟨ret_bool (by first | exact hs.out.symm | (rw [hs.out]; simp; omega)), rfl⟩

set_option maxRecDepth 100000 in
set_option maxHeartbeats 1000000 in
theorem sound_12 (h : Hand x o s p r w) (hk : o.kind = 12) :
    Calls Tryz.prog 70 #[.pointer (some ⟨x, 0, none⟩)] w fun e w' => e = .returned (.bool (soundB o)) ∧ w' = w := by
  obtain ⟨c0, c1, c2, c3, c4, c5, c6⟩ := h.op
  rw [hk] at c0
  by_cases h0 : 0 < o.who
  rotate_left
  · have hs : Hid (soundB o = false) := Lib.hid (by unfold soundB; simp [hk]; try omega)
    clear hk
    go_enter Tryz.func70, Tryz.ntmps70
    go_wp2_with fail
    go_ret
    exact ⟨ret_bool (by first | exact hs.out.symm | (rw [hs.out]; simp; omega)), rfl⟩
  by_cases h1 : o.what ≤ 1000
  rotate_left
  · have hs : Hid (soundB o = false) := Lib.hid (by unfold soundB; simp [hk, h0]; try omega)
    clear hk
    go_enter Tryz.func70, Tryz.ntmps70
    go_wp2_with fail
    go_ret
    exact ⟨ret_bool (by first | exact hs.out.symm | (rw [hs.out]; simp; omega)), rfl⟩
  · have hs : Hid (soundB o = true) := Lib.hid (by unfold soundB; simp [hk, h0, h1])
    clear hk
    go_enter Tryz.func70, Tryz.ntmps70
    go_wp2_with fail
    go_ret
    exact ⟨ret_bool (by first | exact hs.out.symm | (rw [hs.out]; simp; omega)), rfl⟩

set_option maxRecDepth 100000 in
set_option maxHeartbeats 1000000 in
theorem sound_18 (h : Hand x o s p r w) (hk : o.kind = 18) :
    Calls Tryz.prog 70 #[.pointer (some ⟨x, 0, none⟩)] w fun e w' => e = .returned (.bool (soundB o)) ∧ w' = w := by
  obtain ⟨c0, c1, c2, c3, c4, c5, c6⟩ := h.op
  rw [hk] at c0
  by_cases h0 : 0 < o.who
  rotate_left
  · have hs : Hid (soundB o = false) := Lib.hid (by unfold soundB; simp [hk]; try omega)
    clear hk
    go_enter Tryz.func70, Tryz.ntmps70
    go_wp2_with fail
    go_ret
    exact ⟨ret_bool (by first | exact hs.out.symm | (rw [hs.out]; simp; omega)), rfl⟩
  by_cases h1 : o.what ≤ 1000
  rotate_left
  · have hs : Hid (soundB o = false) := Lib.hid (by unfold soundB; simp [hk, h0]; try omega)
    clear hk
    go_enter Tryz.func70, Tryz.ntmps70
    go_wp2_with fail
    go_ret
    exact ⟨ret_bool (by first | exact hs.out.symm | (rw [hs.out]; simp; omega)), rfl⟩
  · have hs : Hid (soundB o = true) := Lib.hid (by unfold soundB; simp [hk, h0, h1])
    clear hk
    go_enter Tryz.func70, Tryz.ntmps70
    go_wp2_with fail
    go_ret
    exact ⟨ret_bool (by first | exact hs.out.symm | (rw [hs.out]; simp; omega)), rfl⟩

set_option maxRecDepth 100000 in
set_option maxHeartbeats 1000000 in
theorem sound_15 (h : Hand x o s p r w) (hk : o.kind = 15) :
    Calls Tryz.prog 70 #[.pointer (some ⟨x, 0, none⟩)] w fun e w' => e = .returned (.bool (soundB o)) ∧ w' = w := by
  obtain ⟨c0, c1, c2, c3, c4, c5, c6⟩ := h.op
  rw [hk] at c0
  by_cases h0 : 0 < o.who
  rotate_left
  · have hs : Hid (soundB o = false) := Lib.hid (by unfold soundB; simp [hk]; try omega)
    clear hk
    go_enter Tryz.func70, Tryz.ntmps70
    go_wp2_with fail
    go_ret
    exact ⟨ret_bool (by first | exact hs.out.symm | (rw [hs.out]; simp; omega)), rfl⟩
  by_cases h1 : 0 < o.n
  rotate_left
  · have hs : Hid (soundB o = false) := Lib.hid (by unfold soundB; simp [hk, h0]; try omega)
    clear hk
    go_enter Tryz.func70, Tryz.ntmps70
    go_wp2_with fail
    go_ret
    exact ⟨ret_bool (by first | exact hs.out.symm | (rw [hs.out]; simp; omega)), rfl⟩
  cases hi : itemB o.what
  · have hs : Hid (soundB o = false) := Lib.hid (by unfold soundB; simp [hk, h0, h1, hi])
    clear hk
    go_enter Tryz.func70, Tryz.ntmps70
    go_wp2_with fail
    refine (item_any _ _).mono ?_
    rintro e w1 ⟨rfl, rfl⟩
    rw [hi]
    go_wp2_with fail
    go_ret
    exact ⟨ret_bool (by first | exact hs.out.symm | (rw [hs.out]; simp; omega)), rfl⟩
  by_cases h3 : o.price ≤ 4611686018427387904
  rotate_left
  · have hs : Hid (soundB o = false) := Lib.hid (by unfold soundB; simp [hk, h0, h1, hi]; try omega)
    clear hk
    go_enter Tryz.func70, Tryz.ntmps70
    go_wp2_with fail
    refine (item_any _ _).mono ?_
    rintro e w1 ⟨rfl, rfl⟩
    rw [hi]
    go_wp2_with fail
    go_ret
    exact ⟨ret_bool (by first | exact hs.out.symm | (rw [hs.out]; simp; omega)), rfl⟩
  · have hs : Hid (soundB o = true) := Lib.hid (by unfold soundB; simp [hk, h0, h1, hi, h3])
    clear hk
    go_enter Tryz.func70, Tryz.ntmps70
    go_wp2_with fail
    refine (item_any _ _).mono ?_
    rintro e w1 ⟨rfl, rfl⟩
    rw [hi]
    go_wp2_with fail
    go_ret
    exact ⟨ret_bool (by first | exact hs.out.symm | (rw [hs.out]; simp; omega)), rfl⟩

set_option maxRecDepth 100000 in
set_option maxHeartbeats 1000000 in
theorem sound_16 (h : Hand x o s p r w) (hk : o.kind = 16) :
    Calls Tryz.prog 70 #[.pointer (some ⟨x, 0, none⟩)] w fun e w' => e = .returned (.bool (soundB o)) ∧ w' = w := by
  obtain ⟨c0, c1, c2, c3, c4, c5, c6⟩ := h.op
  rw [hk] at c0
  by_cases h0 : 0 < o.who
  rotate_left
  · have hs : Hid (soundB o = false) := Lib.hid (by unfold soundB; simp [hk]; try omega)
    clear hk
    go_enter Tryz.func70, Tryz.ntmps70
    go_wp2_with fail
    go_ret
    exact ⟨ret_bool (by first | exact hs.out.symm | (rw [hs.out]; simp; omega)), rfl⟩
  by_cases h1 : 0 < o.n
  rotate_left
  · have hs : Hid (soundB o = false) := Lib.hid (by unfold soundB; simp [hk, h0]; try omega)
    clear hk
    go_enter Tryz.func70, Tryz.ntmps70
    go_wp2_with fail
    go_ret
    exact ⟨ret_bool (by first | exact hs.out.symm | (rw [hs.out]; simp; omega)), rfl⟩
  by_cases h2 : o.n ≤ 4611686018427387904
  rotate_left
  · have hs : Hid (soundB o = false) := Lib.hid (by unfold soundB; simp [hk, h0, h1]; try omega)
    clear hk
    go_enter Tryz.func70, Tryz.ntmps70
    go_wp2_with fail
    go_ret
    exact ⟨ret_bool (by first | exact hs.out.symm | (rw [hs.out]; simp; omega)), rfl⟩
  · have hs : Hid (soundB o = true) := Lib.hid (by unfold soundB; simp [hk, h0, h1, h2])
    clear hk
    go_enter Tryz.func70, Tryz.ntmps70
    go_wp2_with fail
    go_ret
    exact ⟨ret_bool (by first | exact hs.out.symm | (rw [hs.out]; simp; omega)), rfl⟩

set_option maxRecDepth 100000 in
set_option maxHeartbeats 1000000 in
theorem sound_other (h : Hand x o s p r w) (n1 : ¬ o.kind = 1) (n2 : ¬ o.kind = 2) (n3 : ¬ o.kind = 3) (n4 : ¬ o.kind = 4) (n5 : ¬ o.kind = 5) (n6 : ¬ o.kind = 6) (n7 : ¬ o.kind = 7) (n8 : ¬ o.kind = 8) (n9 : ¬ o.kind = 9) (n10 : ¬ o.kind = 10) (n11 : ¬ o.kind = 11) (n12 : ¬ o.kind = 12) (n13 : ¬ o.kind = 13) (n14 : ¬ o.kind = 14) (n15 : ¬ o.kind = 15) (n16 : ¬ o.kind = 16) (n17 : ¬ o.kind = 17) (n18 : ¬ o.kind = 18) :
    Calls Tryz.prog 70 #[.pointer (some ⟨x, 0, none⟩)] w fun e w' => e = .returned (.bool (soundB o)) ∧ w' = w := by
  obtain ⟨c0, c1, c2, c3, c4, c5, c6⟩ := h.op
  have hs : Hid (soundB o = false) := Lib.hid (by unfold soundB; simp [n1, n2, n3, n4, n5, n6, n7, n8, n9, n10, n11, n12, n13, n14, n15, n16, n17, n18])
  go_enter Tryz.func70, Tryz.ntmps70
  go_wp2_with fail
  go_ret
  exact ⟨ret_bool (by first | exact hs.out.symm | (rw [hs.out]; simp; omega)), rfl⟩

theorem sound_any (h : Hand x o s p r w) :
    Calls Tryz.prog 70 #[.pointer (some ⟨x, 0, none⟩)] w fun e w' => e = .returned (.bool (soundB o)) ∧ w' = w := by
  by_cases n1 : o.kind = 1
  · exact sound_1 h n1
  by_cases n2 : o.kind = 2
  · exact sound_2 h n2
  by_cases n3 : o.kind = 3
  · exact sound_3 h n3
  by_cases n4 : o.kind = 4
  · exact sound_4 h n4
  by_cases n5 : o.kind = 5
  · exact sound_5 h n5
  by_cases n6 : o.kind = 6
  · exact sound_6 h n6
  by_cases n7 : o.kind = 7
  · exact sound_7 h n7
  by_cases n8 : o.kind = 8
  · exact sound_8 h n8
  by_cases n9 : o.kind = 9
  · exact sound_9 h n9
  by_cases n10 : o.kind = 10
  · exact sound_10 h n10
  by_cases n11 : o.kind = 11
  · exact sound_11 h n11
  by_cases n12 : o.kind = 12
  · exact sound_12 h n12
  by_cases n13 : o.kind = 13
  · exact sound_13 h n13
  by_cases n14 : o.kind = 14
  · exact sound_14 h n14
  by_cases n15 : o.kind = 15
  · exact sound_15 h n15
  by_cases n16 : o.kind = 16
  · exact sound_16 h n16
  by_cases n17 : o.kind = 17
  · exact sound_17 h n17
  by_cases n18 : o.kind = 18
  · exact sound_18 h n18
  exact sound_other h n1 n2 n3 n4 n5 n6 n7 n8 n9 n10 n11 n12 n13 n14 n15 n16 n17 n18
end
end Go.Proofs.YtdbpjbmalinlbaaGreat
