/- The laws' own functions: SamePuts; what look holds on to. -/
import Derived.Test.YtdbpjbmalinlbaaRulZg
import Derived.Test.YtdbpjbmalinlbaaRulQ
namespace Go.Proofs.Ytdbpjbmalinlbaa
open Go.RowKit

theorem ptCells_at {l : List Pt} : ∀ (j : Nat) (q : Pt) (i : Nat), l[j]? = some q → i < 6 → (ptCells l)[j * 6 + i]? = (ptRow q)[i]? := by
  induction l with
  | nil => intro j b i h; simp at h
  | cons q l ih =>
    intro j b i h hi
    have hc : ptCells (q :: l) = ptRow q ++ ptCells l := rfl
    rw [hc]
    cases j with
    | zero =>
      simp at h; subst h
      rw [List.getElem?_append_left (by simp [ptRow]; omega)]
      simp
    | succ j =>
      rw [List.getElem?_append_right (by simp [ptRow]; omega), ← ih j b i (by simpa using h) hi]
      congr 1
      simp [ptRow]; omega
theorem owns_shape {w : World} {base n size : Nat} {e : TypeId} {v : Value} {xs : List Value} (h : w.ownsRow base e size v n xs) : ∃ a c, v = .slice a n c := by
  rcases h.2 with ⟨rfl, h0⟩ | ⟨g, c, _, rfl, _⟩
  · exact ⟨none, 0, by rw [h0]⟩
  · exact ⟨_, c, rfl⟩
theorem owns_max {w : World} {base n size : Nat} {e : TypeId} {v : Value} {xs : List Value} (h : w.ownsRow base e size v n xs) : n ≤ 9223372036854775807 := by
  rcases h.2 with ⟨_, h0⟩ | ⟨g, c, _, _, _, _, hn, hm, _⟩
  · omega
  · unfold maxLen at hm; omega
theorem owns_row {w : World} {base n m size c : Nat} {e : TypeId} {a : Option Addr} {xs : List Value} (h : w.ownsRow base e size (.slice a m c) n xs) (hn : 0 < n) : ∃ g, a = some ⟨g, 0, none⟩ := by
  rcases h.2 with ⟨_, h0⟩ | ⟨g, _, _, h, _⟩
  · omega
  · simp at h; exact ⟨g, h.1⟩
theorem put_cells {w : World} {base g c : Nat} {l : List Pt} (h : w.ownsRow base 51 6 (.slice (some ⟨g, 0, none⟩) l.length c) l.length (ptCells l)) {j : Nat} {q : Pt} (hj : l[j]? = some q) :
    w.cell? ⟨g, j * 6, none⟩ = some (.int .u8 q.k.1) ∧ w.cell? ⟨g, j * 6 + 1, none⟩ = some (.int .u32 q.k.2.1) ∧ w.cell? ⟨g, j * 6 + 2, none⟩ = some (.int .u32 q.k.2.2) ∧ w.cell? ⟨g, j * 6 + 3, none⟩ = some (.int .u64 q.v.1) ∧ w.cell? ⟨g, j * 6 + 4, none⟩ = some (.int .u64 q.v.2) ∧
      w.cell? ⟨g, j * 6 + 5, none⟩ = some (.bool q.gone) ∧ g < w.heap.size := by
  have hlt := (List.getElem?_eq_some_iff.1 hj).1
  have e : ∀ i, i < 6 → w.cell? ⟨g, j * 6 + i, none⟩ = (ptRow q)[i]? := fun i hi => (h.cellAt (j * 6 + i) (by omega)).trans (ptCells_at j q i hj hi)
  exact ⟨e 0 (by omega), e 1 (by omega), e 2 (by omega), e 3 (by omega), e 4 (by omega), e 5 (by omega), (owns_lt (b := g) h rfl).2⟩

set_option maxRecDepth 100000 in
set_option maxHeartbeats 2000000 in
/-- Two rows of the same puts are the same. -/
theorem same_any (l : List Pt) (v1 v2 : Value) (b1 b2 : Nat) (w : World) (h1 : w.ownsRow b1 51 6 v1 l.length (ptCells l)) (h2 : w.ownsRow b2 51 6 v2 l.length (ptCells l)) :
    Calls Try.prog 30 #[v1, v2] w fun e w' => e = .returned (.bool true) ∧ Below w.heap.size w w' := by
  have hl := owns_max h1
  obtain ⟨a1, c1, rfl⟩ := owns_shape h1
  obtain ⟨a2, c2, rfl⟩ := owns_shape h2
  have H1 := Lib.hid h1
  have H2 := Lib.hid h2
  clear h1 h2
  go_enter Try.func30, Try.ntmps30
  go_wp2_with fail
  go_loopw [5] (fun i wr => ∃ k : Nat, k ≤ l.length ∧ i = .int .i64 (k : Int) ∧ Hid (Below w.heap.size w wr)) (fun i _ => l.length - (intOf i).toNat)
  case atStart => exact ⟨0, Nat.zero_le _, rfl, Lib.hid (Below.refl _ _)⟩
  case round =>
    obtain ⟨k, hk, rfl, B⟩ := hrel
    by_cases hlt : k < l.length
    · have K1 := H1.out
      have K2 := H2.out
      obtain ⟨g1, rfl⟩ := owns_row K1 (by omega)
      obtain ⟨g2, rfl⟩ := owns_row K2 (by omega)
      obtain ⟨q, hq⟩ : ∃ q, l[k]? = some q := ⟨_, List.getElem?_eq_getElem hlt⟩
      obtain ⟨d0, d1, d2, d3, d4, d5, ld⟩ := put_cells (owns_below K1 B.out) hq
      obtain ⟨e0, e1, e2, e3, e4, e5, le⟩ := put_cells (owns_below K2 B.out) hq
      have hl1 : (k : Int) < (l.length : Int) := by omega
      replace hq := Lib.hid hq
      clear K1 K2
      go_upto_region 6 with fail
      go_quiet (fail)
      go_wp2_with fail
      go_roundw
      case rel => exact ⟨k + 1, by omega, by go_num, Lib.hid (below_drewN B.out nq)⟩
      case measure => simp [intOf]; omega
    · obtain rfl : k = l.length := by omega
      go_wp2_with fail
      go_ret
      exact ⟨rfl, B.out⟩
end Go.Proofs.Ytdbpjbmalinlbaa
