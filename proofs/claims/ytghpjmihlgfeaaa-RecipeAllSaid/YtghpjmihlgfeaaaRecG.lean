/- The contract of Needs. -/
import Derived.Test.YtghpjmihlgfeaaaRecF
import Derived.Outline
namespace Go.Proofs.Ytghpjmihlgfeaaa
open Go.RowKit

theorem inL_small (id : Int) : (∀ p ∈ inL id, 0 ≤ p.2 ∧ p.2 ≤ 1000) ∧ (∀ p ∈ outL id, 0 ≤ p.2 ∧ p.2 ≤ 1000) := by
  unfold inL outL
  repeat' split
  all_goals decide

theorem ix0 (a b : Value) (w : World) : (Instr.index 60 (.agg #[a, b]) (.int .i64 0)).run Try.prog w = .ok a w := by kernel_rfl
theorem ix1 (a b : Value) (w : World) : (Instr.index 60 (.agg #[a, b]) (.int .i64 1)).run Try.prog w = .ok b w := by kernel_rfl

set_option maxRecDepth 100000 in
set_option maxHeartbeats 1000000 in
theorem needs_ok_walk (id n : Int) (w : World) (h : inL id ≠ []) (n1 : 1 ≤ n) (n2 : n ≤ 1000) : Calls Try.prog 16 #[.int .u32 id, .int .u64 n] w (SomeTwo (.int .u16 0) (mulL n (inL id)) (mulL n (outL id)) w) := by
  obtain ⟨s1, s2, s3, s4⟩ := rows_small id
  obtain ⟨t1, t2⟩ := inL_small id
  have hd : decide (inL id ≠ []) = true := by simpa using h
  go_enter Try.func16, Try.ntmps16
  go_wp2_with fail
  refine (of_any _ _).mono ?_
  rintro e w1 ⟨r, rfl, b1, ⟨h1, h2, h3⟩ | ⟨hne, x, y, rfl, l1, l2, k1, k2⟩⟩
  · exact absurd h1 h
  · rw [hd]
    have H := Lib.hid h
    have T1 := Lib.hid t1
    have T2 := Lib.hid t2
    obtain ⟨c0, c1, f0, f1, hs⟩ := kept_two _ _ _ _ _ b1
    have i0 := ix0
    have i1 := ix1
    have R0 : NS w (w1.alloc (.cells #[.slice (some ⟨x, 0, none⟩) (inL id).length (inL id).length, .slice (some ⟨y, 0, none⟩) (outL id).length (outL id).length] 26)) w1.heap.size x y (inL id) (outL id) := by
      have hb := b1.size
      rw [World.size_alloc] at hb l1
      have ly := heap_lt k2
      refine ⟨((((Below.refl _ _).alloc (Nat.le_refl _) _).trans (b1.mono (by simp))).alloc (by omega) _), k1.keep ((Below.refl _ _).alloc (Nat.le_refl _) _), k2.keep ((Below.refl _ _).alloc (Nat.le_refl _) _), ?_, ?_, by omega, l2, ly⟩
      · rw [Below.heap_alloc _ _ _ (by omega), b1.block _ (by simp)]
        show (w.heap.push _)[_]? = _
        rw [Array.getElem?_push, if_pos rfl]
      · show (w1.heap.push _)[_]? = _
        rw [Array.getElem?_push, if_pos rfl]
    clear hd t1 t2 c0 c1 f0 f1 k1 k2 l1 h hne
    go_wp2_with fail
    go_loopw [33] (fun s33 wr => (s33 = .int .i64 0 ∧ NS w wr w1.heap.size x y (inL id) (outL id)) ∨ (s33 = .int .i64 1 ∧ NS w wr w1.heap.size x y (mulL n (inL id)) (outL id)) ∨ (s33 = .int .i64 2 ∧ NS w wr w1.heap.size x y (mulL n (inL id)) (mulL n (outL id)))) (fun s33 _ => 2 - (intOf s33).toNat)
    case atStart => exact .inl ⟨rfl, R0⟩
    case round =>
      clear R0 b1 hs l2
      rcases hrel with ⟨rfl, R⟩ | ⟨rfl, R⟩ | ⟨rfl, R⟩
      · skip
        go_wp2_with fail
        obtain ⟨wo, rfl⟩ : ∃ wo : World, wo = wr := ⟨_, rfl⟩
        go_loopw [38] (fun s38 wr => ∃ k : Nat, k ≤ (inL id).length ∧ s38 = .int .i64 k ∧ NS w wr w1.heap.size x y (part n k (inL id)) (outL id)) (fun s38 _ => (inL id).length - (intOf s38).toNat)
        case atStart => exact ⟨0, Nat.zero_le _, rfl, by rw [part_zero]; exact R⟩
        case round =>
          obtain ⟨k, hk, rfl, R⟩ := hrel
          by_cases hlt : k < (inL id).length
          · obtain ⟨p, hp⟩ : ∃ p, (inL id)[k]? = some p := ⟨_, List.getElem?_eq_getElem hlt⟩
            obtain ⟨q0, q1⟩ := T1.out p (List.mem_of_getElem? hp)
            have hpt := part_at (n := n) hp
            obtain ⟨d1, d2, d3, d4⟩ := R.hx.cells hpt
            have pn : p.2 * n ≤ 1000 * 1000 := Int.mul_le_mul q1 n2 (by omega) (by omega)
            obtain ⟨v1, v2⟩ := times_ok (a := p.2) (n := n) (by omega) (by omega)
            have HPT := Lib.hid hpt
            have HP := Lib.hid hp
            have l2' : ((inL id).length : Int) ≤ 3 := by omega
            clear hpt hp v2
            go_wp2_with fail
            refine (times_any _ _ _ q0 (by omega) (by omega)).mono ?_
            rintro e w2 ⟨rfl, bt⟩
            rw [v1]
            have R2 := R.keep bt
            obtain ⟨d5, d6, d7, d8⟩ := R2.hx.cells HPT.out
            have R3 := R2.setX HPT.out (p.2 * n)
            rw [part_succ HP.out] at R3
            clear R R2 v1
            go_wp2_with fail
            go_roundw
            case rel => exact ⟨k + 1, by omega, by go_num, R3⟩
            case measure => simp [intOf]; omega
          · obtain rfl : k = (inL id).length := by omega
            rw [part_all] at R
            go_wp2_with fail
            go_roundw
            case rel => exact .inr (.inl ⟨rfl, R⟩)
            case measure => simp [intOf]
      · skip
        go_wp2_with fail
        obtain ⟨wo, rfl⟩ : ∃ wo : World, wo = wr := ⟨_, rfl⟩
        go_loopw [38] (fun s38 wr => ∃ k : Nat, k ≤ (outL id).length ∧ s38 = .int .i64 k ∧ NS w wr w1.heap.size x y (mulL n (inL id)) (part n k (outL id))) (fun s38 _ => (outL id).length - (intOf s38).toNat)
        case atStart => exact ⟨0, Nat.zero_le _, rfl, by rw [part_zero]; exact R⟩
        case round =>
          obtain ⟨k, hk, rfl, R⟩ := hrel
          by_cases hlt : k < (outL id).length
          · obtain ⟨p, hp⟩ : ∃ p, (outL id)[k]? = some p := ⟨_, List.getElem?_eq_getElem hlt⟩
            obtain ⟨q0, q1⟩ := T2.out p (List.mem_of_getElem? hp)
            have hpt := part_at (n := n) hp
            obtain ⟨d1, d2, d3, d4⟩ := R.hy.cells hpt
            have pn : p.2 * n ≤ 1000 * 1000 := Int.mul_le_mul q1 n2 (by omega) (by omega)
            obtain ⟨v1, v2⟩ := times_ok (a := p.2) (n := n) (by omega) (by omega)
            have HPT := Lib.hid hpt
            have HP := Lib.hid hp
            have l2' : ((outL id).length : Int) ≤ 3 := by omega
            clear hpt hp v2
            go_wp2_with fail
            refine (times_any _ _ _ q0 (by omega) (by omega)).mono ?_
            rintro e w2 ⟨rfl, bt⟩
            rw [v1]
            have R2 := R.keep bt
            obtain ⟨d5, d6, d7, d8⟩ := R2.hy.cells HPT.out
            have R3 := R2.setY HPT.out (p.2 * n)
            rw [part_succ HP.out] at R3
            clear R R2 v1
            go_wp2_with fail
            go_roundw
            case rel => exact ⟨k + 1, by omega, by go_num, R3⟩
            case measure => simp [intOf]; omega
          · obtain rfl : k = (outL id).length := by omega
            rw [part_all] at R
            go_wp2_with fail
            go_roundw
            case rel => exact .inr (.inr ⟨rfl, R⟩)
            case measure => simp [intOf]
      · have e6 := R.h6
        simp only [mulL_len] at e6
        have c60 : wr.cell? ⟨w1.heap.size, 0, none⟩ = some (.slice (some ⟨x, 0, none⟩) (inL id).length (inL id).length) := by rw [cell_of_row wr _ _ _ _ _ e6]; rfl
        have c61 : wr.cell? ⟨w1.heap.size, 1, none⟩ = some (.slice (some ⟨y, 0, none⟩) (outL id).length (outL id).length) := by rw [cell_of_row wr _ _ _ _ _ e6]; rfl
        have c40 : wr.cell? ⟨w.heap.size, 0, none⟩ = some (.slice none 0 0) := by rw [cell_of_row wr _ _ _ _ _ R.h4]; rfl
        have c41 : wr.cell? ⟨w.heap.size, 1, none⟩ = some (.slice none 0 0) := by rw [cell_of_row wr _ _ _ _ _ R.h4]; rfl
        have f40 : wr.frozen? ⟨w.heap.size, 0, none⟩ = false := frozen_of R.h4
        have f41 : wr.frozen? ⟨w.heap.size, 1, none⟩ = false := frozen_of R.h4
        have l1 := R.l1
        have l2 := R.l2
        go_wp2_with fail
        refine bodyPost_ret (v := .tuple #[.agg #[.slice (some ⟨x, 0, none⟩) (inL id).length (inL id).length, .slice (some ⟨y, 0, none⟩) (outL id).length (outL id).length], .int .u16 0]) (by simp [results, Try.results16, go_sem, c40, c41]) rfl ⟨_, rfl, ?_, _, _, rfl, ?_, ?_⟩
        · exact (R.below.setCell (Nat.le_refl _) _).setCell (Nat.le_refl _) _
        · have := ((R.hx.other (a := ⟨w.heap.size, 0, none⟩) (by show x ≠ w.heap.size; omega) (.slice (some ⟨x, 0, none⟩) (inL id).length (inL id).length)).other (a := ⟨w.heap.size, 1, none⟩) (by show x ≠ w.heap.size; omega) (.slice (some ⟨y, 0, none⟩) (outL id).length (outL id).length)).stks (base := w.heap.size) (by omega) (by rw [mulL_len]; omega)
          simpa only [mulL_len] using this
        · have := ((R.hy.other (a := ⟨w.heap.size, 0, none⟩) (by show y ≠ w.heap.size; omega) (.slice (some ⟨x, 0, none⟩) (inL id).length (inL id).length)).other (a := ⟨w.heap.size, 1, none⟩) (by show y ≠ w.heap.size; omega) (.slice (some ⟨y, 0, none⟩) (outL id).length (outL id).length)).stks (base := w.heap.size) (by omega) (by rw [mulL_len]; omega)
          simpa only [mulL_len] using this

set_option maxRecDepth 100000 in
set_option maxHeartbeats 400000 in
theorem needs_none_walk (id n : Int) (w : World) (h : inL id = []) : Calls Try.prog 16 #[.int .u32 id, .int .u64 n] w (SomeTwo (.int .u16 40) [] [] w) := by
  have hd : decide (inL id ≠ []) = false := by simpa using h
  go_enter Try.func16, Try.ntmps16
  go_wp2_with fail
  refine (of_any _ _).mono ?_
  rintro e w1 ⟨r, rfl, b1, ⟨h1, h2, rfl⟩ | ⟨hne, x, y, rfl, l1, l2, k1, k2⟩⟩
  · rw [hd]
    obtain ⟨c0, c1, f0, f1, hs⟩ := kept_two _ _ _ _ _ b1
    have B : Below w.heap.size w w1 := ((Below.refl _ _).alloc (Nat.le_refl _) _).trans (b1.mono (by simp))
    clear h hd h1 h2 b1
    go_wp2_with fail
    refine bodyPost_ret (v := .tuple #[.agg #[.slice none 0 0, .slice none 0 0], .int .u16 40]) (by simp [results, Try.results16, go_sem, c0, c1, World.cell?_alloc_old, Nat.ne_of_lt hs]) rfl ⟨_, rfl, ?_, _, _, rfl, Stks.nil _ _, Stks.nil _ _⟩
    exact ((B.setCell (Nat.le_refl _) _).setCell (Nat.le_refl _) _).alloc (by simpa [World.setCell] using Nat.le_of_lt hs) _
  · exact absurd h hne

set_option maxRecDepth 100000 in
set_option maxHeartbeats 400000 in
theorem needs_arg_walk (id n : Int) (w : World) (h : inL id ≠ []) (hn : n < 1 ∨ 1000 < n) : Calls Try.prog 16 #[.int .u32 id, .int .u64 n] w (SomeTwo (.int .u16 1) [] [] w) := by
  have hd : decide (inL id ≠ []) = true := by simpa using h
  rcases hn with hn | hn
  all_goals
    go_enter Try.func16, Try.ntmps16
    go_wp2_with fail
    refine (of_any _ _).mono ?_
    rintro e w1 ⟨r, rfl, b1, ⟨h1, h2, rfl⟩ | ⟨hne, x, y, rfl, l1, l2, k1, k2⟩⟩
    · exact absurd h1 h
    · rw [hd]
      obtain ⟨c0, c1, f0, f1, hs⟩ := kept_two _ _ _ _ _ b1
      have B : Below w.heap.size w w1 := ((Below.refl _ _).alloc (Nat.le_refl _) _).trans (b1.mono (by simp))
      clear h hd b1 k1 k2 l1 l2 hne
      go_wp2_with fail
      refine bodyPost_ret (v := .tuple #[.agg #[.slice none 0 0, .slice none 0 0], .int .u16 1]) (by simp [results, Try.results16, go_sem, c0, c1, World.cell?_alloc_old, Nat.ne_of_lt hs]) rfl ⟨_, rfl, ?_, _, _, rfl, Stks.nil _ _, Stks.nil _ _⟩
      exact ((B.setCell (Nat.le_refl _) _).setCell (Nat.le_refl _) _).alloc (by simpa [World.setCell] using Nat.le_of_lt hs) _

theorem needs_any (id n : Int) (w : World) : Calls Try.prog 16 #[.int .u32 id, .int .u64 n] w (SomeTwo (.int .u16 (needsE id n)) (needsI id n) (needsO id n) w) := by
  by_cases h : inL id = []
  · obtain ⟨e1, e2, e3⟩ := needs_none (n := n) h
    rw [e1, e2, e3]; exact needs_none_walk id n w h
  · by_cases hn : n < 1 ∨ 1000 < n
    · obtain ⟨e1, e2, e3⟩ := needs_arg h hn
      rw [e1, e2, e3]; exact needs_arg_walk id n w h hn
    · obtain ⟨e1, e2, e3⟩ := needs_ok h (show 1 ≤ n by omega) (by omega)
      rw [e1, e2, e3]; exact needs_ok_walk id n w h (by omega) (by omega)
end Go.Proofs.Ytghpjmihlgfeaaa
