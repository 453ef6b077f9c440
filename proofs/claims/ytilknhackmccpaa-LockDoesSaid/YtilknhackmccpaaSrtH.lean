/- Contract of slices.Sort at uint32: a sorted permutation. -/
import Derived.Test.YtilknhackmccpaaSrtG
set_option linter.unusedVariables false
set_option linter.unusedSimpArgs false
namespace Go.Proofs.Ytilknhackmccpaa
open Go.RowKit Go.Sort

set_option maxHeartbeats 1000000 in
theorem sort_d (g N n cap : Nat) (e : TypeId) (d : Array Int) (w : World) (H : Row w g N e d) (hn : d.size = n) (hsz : n < 1152921504606846976) :
    Calls Try.prog 59 #[.slice (some ⟨g, 0, none⟩) n cap] w fun r w' =>
      r = .returned (.tuple #[]) ∧ ∃ d', PermIn 0 n d d' ∧ SortedIn ltInt 0 n d' ∧ Rw w g N e d' w' := by
  have hb : Lib.bitLen n ≤ 64 := by have := Any.bitLen_leU (n : Int) (by omega) (by omega); simpa using this
  have wl : IntKind.u64.wrap (n : Int) = (n : Int) := IntWalk.u64_in _ (by omega)
  have hB := Try.bits_Len (n : Int) w (by omega) (by omega)
  have hP := pdq_u (n + 1) g N n cap 0 n (Lib.bitLen n) e d w (by omega) H hn (Nat.zero_le _) (Nat.le_refl _) hsz (by omega) (.inl rfl)
  go_enter Try.func59, Try.ntmps59
  go_wp2_with (first
    | (go_at_call 79; refine hB.mono ?_; rintro r w2 ⟨rfl, rfl⟩)
    | (go_at_call 78; refine hP.mono ?_; rintro r w2 ⟨rfl, d', P, S, R⟩))
  go_end0
  exact ⟨rfl, d', P, S, R⟩

theorem Row.list {w : World} {g N : Nat} {e : TypeId} {l : List Int} (h : Row w g N e l.toArray) : l.length ≤ N := by
  obtain ⟨_, _, _, h3, _⟩ := h
  simpa using h3
/-- slices.Sort of a list that lies in a block from its start on. -/
theorem sort_u (g N n cap : Nat) (e : TypeId) (l : List Int) (w : World) (H : Row w g N e l.toArray) (hn : l.length = n) (hsz : n < 1152921504606846976) :
    Calls Try.prog 59 #[.slice (some ⟨g, 0, none⟩) n cap] w fun r w' =>
      r = .returned (.tuple #[]) ∧ ∃ l' : List Int, l'.Perm l ∧ l'.Pairwise (· ≤ ·) ∧ Rw w g N e l'.toArray w' := by
  refine (sort_d g N n cap e l.toArray w H (by simpa using hn) hsz).mono ?_
  rintro r w' ⟨rfl, d', P, S, R⟩
  have hs : d'.size = n := P.1.trans (by simpa using hn)
  refine ⟨rfl, d'.toList, ?_, ?_, R⟩
  · have := P.2.2
    have e1 : d'.extract 0 n = d' := by rw [← hs]; exact Array.extract_size
    have e2 : l.toArray.extract 0 n = l.toArray := by rw [← hn, ← List.size_toArray]; exact Array.extract_size
    rw [e1, e2] at this
    simpa using this
  · rw [List.pairwise_iff_getElem]
    intro i j hi hj hij
    simp at hi hj
    have := S i j (Nat.zero_le _) hij (by omega)
    simp only [ltInt, decide_eq_false_iff_not, Int.not_lt] at this
    rw [getElem!_pos d' i (by omega), getElem!_pos d' j (by omega)] at this
    simpa using this
set_option maxHeartbeats 1000000 in
theorem ins_nil (w : World) :
    Calls Try.prog 89 #[.slice none 0 0, .int .i64 0, .int .i64 0] w fun r w' => r = .returned (.tuple #[]) ∧ w' = w := by
  go_enter Try.func89, Try.ntmps89
  go_wp2
  go_loopw [6] (fun vi wr => vi = .int .i64 1 ∧ wr = w) (fun _ _ => 0)
  case atStart => exact ⟨rfl, rfl⟩
  case round =>
    obtain ⟨rfl, rfl⟩ := hrel
    go_wp2
    go_end0
    exact ⟨rfl, rfl⟩
set_option maxRecDepth 100000 in
set_option maxHeartbeats 4000000 in
theorem pdq_nil (lim : Int) (w : World) :
    Calls Try.prog 78 #[.slice none 0 0, .int .i64 0, .int .i64 0, .int .i64 lim] w fun r w' => r = .returned (.tuple #[]) ∧ w' = w := by
  go_enter Try.func78, Try.ntmps78
  go_wp2
  go_loopg [1, 2] 0 (fun _ va vb wr => va = .int .i64 0 ∧ vb = .int .i64 0 ∧ wr = w)
  case atStart => exact ⟨rfl, rfl, rfl⟩
  case round =>
    obtain ⟨rfl, rfl, rfl⟩ := hrel
    go_wp2_with (go_at_call 89; refine (ins_nil _).mono ?_; rintro r w2 ⟨rfl, rfl⟩)
    (try simp only [Exit.inBlock, Exit.then])
    (try simp only [Exit.inBlock, Exit.then])
    exact bodyPost_ret (v := .tuple #[]) (by simp [results, Try.results78, go_sem]) rfl ⟨rfl, rfl⟩
/-- slices.Sort of nil. -/
theorem sort_nil (w : World) :
    Calls Try.prog 59 #[.slice none 0 0] w fun r w' => r = .returned (.tuple #[]) ∧ w' = w := by
  have hB := Try.bits_Len 0 w (by omega) (by omega)
  go_enter Try.func59, Try.ntmps59
  go_wp2_with (first
    | (go_at_call 79; refine hB.mono ?_; rintro r w2 ⟨rfl, rfl⟩)
    | (go_at_call 78; refine (pdq_nil _ w2).mono ?_; rintro r w2 ⟨rfl, rfl⟩))
  go_end0
  exact ⟨rfl, rfl⟩
end Go.Proofs.Ytilknhackmccpaa
