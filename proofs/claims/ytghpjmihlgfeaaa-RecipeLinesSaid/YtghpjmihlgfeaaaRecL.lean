/- The walk of the law RecipeLines. -/
import Derived.Test.YtghpjmihlgfeaaaRecK
namespace Go.Proofs.Ytghpjmihlgfeaaa
open Go.RowKit

set_option maxRecDepth 100000 in
set_option maxHeartbeats 400000 in
theorem recipeLines_none (id : Int) (w : World) (hne : inL id = []) :
    Calls Try.prog 6 #[.int .u32 id] w fun e w' => e = .returned (.bool true) ∧ Below w.heap.size w w' := by
  have hd : decide (inL id ≠ []) = false := by simpa using hne
  have HNE := Lib.hid hne
  clear hne
  go_enter Try.func6, Try.ntmps6
  go_wp2_with fail
  refine (of_any _ _).mono ?_
  rintro e w1 ⟨r, rfl, b1, ⟨h1, h2, rfl⟩ | ⟨hne, x, y, rfl, l1, l2, k1, k2⟩⟩
  · rw [hd]
    clear h1 h2
    go_wp2_with fail
    refine (recKnown_any _).mono ?_
    rintro e w2 ⟨rfl, b2⟩
    obtain ⟨x1, x2, _, _, y1⟩ := kept_two _ _ _ _ _ b2
    go_wp2_with fail
    go_ret
    exact ⟨rfl, below_trans b1 (below_trans (below_alloc _ _) b2)⟩
  · exact absurd HNE.out hne

set_option maxRecDepth 100000 in
set_option maxHeartbeats 1000000 in
theorem recipeLines_some (id : Int) (w : World) (hne : inL id ≠ []) :
    Calls Try.prog 6 #[.int .u32 id] w fun e w' => e = .returned (.bool true) ∧ Below w.heap.size w w' := by
  have hd : decide (inL id ≠ []) = true := by simpa using hne
  obtain ⟨_, _, s3, s4⟩ := rows_small id
  obtain ⟨u1, u2, u3⟩ := lines_in id
  have p1 : 0 < (inL id).length := List.length_pos_iff.2 hne
  have p2 : 0 < (outL id).length := List.length_pos_iff.2 (u3 hne)
  have HNE := Lib.hid hne
  have U1 := Lib.hid u1
  have U2 := Lib.hid u2
  clear hne u1 u2 u3
  go_enter Try.func6, Try.ntmps6
  go_wp2_with fail
  refine (of_any _ _).mono ?_
  rintro e w1 ⟨r, rfl, b1, ⟨h1, h2, h3⟩ | ⟨hne, x, y, rfl, l1, l2, k1, k2⟩⟩
  · exact absurd h1 HNE.out
  · rw [hd]
    clear hd hne k2 l1 l2
    go_wp2_with fail
    have K := Lib.hid (k1.keep (below_alloc w1 (.cells #[.slice (some ⟨x, 0, none⟩) (inL id).length (inL id).length, .slice (some ⟨y, 0, none⟩) (outL id).length (outL id).length] 26)))
    have x1 : (w1.alloc (.cells #[.slice (some ⟨x, 0, none⟩) (inL id).length (inL id).length, .slice (some ⟨y, 0, none⟩) (outL id).length (outL id).length] 26)).cell? ⟨w1.heap.size, 0, none⟩ = some (.slice (some ⟨x, 0, none⟩) (inL id).length (inL id).length) := by simp [go_sem]
    have x2 : (w1.alloc (.cells #[.slice (some ⟨x, 0, none⟩) (inL id).length (inL id).length, .slice (some ⟨y, 0, none⟩) (outL id).length (outL id).length] 26)).cell? ⟨w1.heap.size, 1, none⟩ = some (.slice (some ⟨y, 0, none⟩) (outL id).length (outL id).length) := by simp [go_sem]
    have B : Below w.heap.size w (w1.alloc (.cells #[.slice (some ⟨x, 0, none⟩) (inL id).length (inL id).length, .slice (some ⟨y, 0, none⟩) (outL id).length (outL id).length] 26)) := b1.alloc b1.size _
    generalize w1.alloc (.cells #[.slice (some ⟨x, 0, none⟩) (inL id).length (inL id).length, .slice (some ⟨y, 0, none⟩) (outL id).length (outL id).length] 26) = w2 at K x1 x2 B ⊢
    generalize w1.heap.size = b3 at x1 x2 ⊢
    clear k1 b1
    go_loopw [5] (fun s5 wr => ∃ i m : Nat, i ≤ (inL id).length ∧ s5 = .int .i64 i ∧ wr = w2.drewN m) (fun s5 _ => (inL id).length - (intOf s5).toNat)
    case atStart => exact ⟨0, 0, Nat.zero_le _, rfl, rfl⟩
    case round =>
      obtain ⟨i, m, hi, rfl, rfl⟩ := hrel
      by_cases hlt : i < (inL id).length
      · obtain ⟨p, hp⟩ : ∃ p, (inL id)[i]? = some p := ⟨_, List.getElem?_eq_getElem hlt⟩
        obtain ⟨c1, c2, _, _⟩ := K.out.cells hp
        have hp0 := U2.out p (List.mem_of_getElem? hp)
        have hpb : (p.2 == 0) = false := by simpa using hp0
        have HP := Lib.hid hp
        have hi3 : (i : Int) < 3 := by omega
        have hlt' : (i : Int) < (inL id).length := by omega
        clear hp hp0
        go_wp2_with fail
        go_loopw [6] (fun s6 wr => ∃ k m : Nat, k ≤ i ∧ s6 = .int .i64 k ∧ wr = w2.drewN m) (fun s6 _ => i - (intOf s6).toNat)
        case atStart => exact ⟨0, _, Nat.zero_le _, rfl, rfl⟩
        case round =>
          obtain ⟨k, m', hk, rfl, rfl⟩ := hrel
          by_cases hlk : k < i
          · have hlk2 : k < (inL id).length := by omega
            obtain ⟨q, hq⟩ : ∃ q, (inL id)[k]? = some q := ⟨_, List.getElem?_eq_getElem hlk2⟩
            obtain ⟨d1, d2, _, _⟩ := K.out.cells hq
            have hne2 := U1.out i k p q hlk HP.out hq
            have hneb : (p.1 == q.1) = false := by simpa using hne2
            have hlk' : (k : Int) < (inL id).length := by omega
            clear hq hne2
            go_wp2_with fail
            go_quiet (fail)
            go_wp2_with fail
            go_roundw
            case rel => exact ⟨k + 1, _, by omega, by go_num, rfl⟩
            case measure => simp [intOf]; omega
          · obtain rfl : k = i := by omega
            go_wp2_with fail
            go_roundw
            case rel => exact ⟨k + 1, _, by omega, by go_num, rfl⟩
            case measure => simp [intOf]; omega
      · obtain rfl : i = (inL id).length := by omega
        go_wp2_with fail
        refine (recKnown_any _).mono ?_
        rintro e w3 ⟨rfl, b3'⟩
        have x1' := cell_keep b3' (show (w2.drewN m).cell? _ = _ from x1)
        have x2' := cell_keep b3' (show (w2.drewN m).cell? _ = _ from x2)
        go_wp2_with fail
        go_ret
        exact ⟨rfl, below_trans B (below_trans (below_drewN (Below.refl _ _) m) b3')⟩

theorem recipeLines_walk (id : Int) (w : World) : Calls Try.prog 6 #[.int .u32 id] w fun e w' => e = .returned (.bool true) ∧ Below w.heap.size w w' := by
  by_cases h : inL id = []
  · exact recipeLines_none id w h
  · exact recipeLines_some id w h
end Go.Proofs.Ytghpjmihlgfeaaa
