/- SameWords, edge. -/
import Derived.Test.YtilknhackmccpaaKntK
set_option linter.unusedVariables false
set_option linter.unusedSimpArgs false
namespace Go.Proofs.Ytilknhackmccpaa
open Go.RowKit Go.Sort Go.Maps Go.ChangeMaps Go.MapKept Go.ChangeShapes

theorem drewN_drewN (w : World) (p q : Nat) : (w.drewN p).drewN q = w.drewN (p + q) := by
  simp [World.drewN, Nat.add_assoc]
theorem eq_of_getD {a b : List Int} (hl : a.length = b.length) (h : ∀ i, i < a.length → a.getD i 0 = b.getD i 0) : a = b := by
  apply List.ext_getElem hl
  intro i h1 h2
  have := h i h1
  simpa [List.getD_eq_getElem?_getD, List.getElem?_eq_getElem h1, List.getElem?_eq_getElem h2] using this

set_option maxRecDepth 100000 in
set_option maxHeartbeats 4000000 in
theorem same_u (a1 a2 : Option Addr) (n1 c1 n2 c2 : Nat) (l1 l2 : List Int) (w : World) (h1 : Nums w a1 l1) (h2 : Nums w a2 l2) (e1 : l1.length = n1) (e2 : l2.length = n2) (hb1 : n1 < 4294967296) (hb2 : n2 < 4294967296) :
    Calls Try.prog 19 #[.slice a1 n1 c1, .slice a2 n2 c2] w fun e w' => e = .returned (.bool (decide (l1 = l2))) ∧ ∃ q, w' = w.drewN q := by
  by_cases hn : n1 = n2
  · subst hn
    go_enter Try.func19, Try.ntmps19
    go_wp2
    go_loopw [5] (fun vi wr => ∃ i q : Nat, vi = .int .i64 i ∧ i ≤ n1 ∧ wr = w.drewN q ∧ Hid (∀ j, j < i → l1.getD j 0 = l2.getD j 0)) (fun vi _ => n1 - (intOf vi).toNat)
    case atStart => exact ⟨0, 0, rfl, Nat.zero_le _, rfl, Lib.hid fun j hj => absurd hj (Nat.not_lt_zero _)⟩
    case round =>
      obtain ⟨i, q, rfl, hi, hwr, hE⟩ := hrel
      by_cases hlt : i < n1
      · obtain ⟨b1, o1, rfl, _, k1⟩ := h1 (by rintro rfl; simp at e1; omega)
        obtain ⟨b2, o2, rfl, _, k2⟩ := h2 (by rintro rfl; simp at e2; omega)
        obtain ⟨x, hx⟩ : ∃ x, l1.getD i 0 = x := ⟨_, rfl⟩
        obtain ⟨y, hy⟩ : ∃ x, l2.getD i 0 = x := ⟨_, rfl⟩
        have d1 : wr.cell? ⟨b1, o1 + i, none⟩ = some (.int .u32 x) := by rw [hwr, ← hx]; exact k1 i (by omega)
        have d2 : wr.cell? ⟨b2, o2 + i, none⟩ = some (.int .u32 y) := by rw [hwr, ← hy]; exact k2 i (by omega)
        replace hwr := Lib.hid hwr
        have hlti : (i : Int) < (n1 : Int) := by omega
        go_wp2
        first | go_quiet (first | fail) | fail
        obtain ⟨w1, hw1⟩ : ∃ w1, w1 = wr.drewN nq := ⟨_, rfl⟩
        rw [← hw1]
        have hww : w1 = w.drewN (q + nq) := by rw [hw1, hwr.out, drewN_drewN]
        replace hww := Lib.hid hww
        clear hw1
        go_wp2
        · have hne : (x != y) = true := by assumption
          go_ret
          refine ⟨?_, _, hww.out⟩
          have : l1 ≠ l2 := by
            rintro rfl
            rw [hx] at hy
            subst hy
            simp at hne
          rw [show decide (l1 = l2) = false by simpa using this]
          rfl
        · have hne : (x != y) = false := by assumption
          refine ⟨⟨i + 1, _, by go_num, by omega, hww.out, Lib.hid fun j hj => ?_⟩, by simp [intOf]; omega⟩
          rcases Nat.lt_or_ge j i with h | h
          · exact hE.out j h
          · have : j = i := by omega
            rw [this, hx, hy]
            simpa using hne
      · have : i = n1 := by omega
        subst this
        replace hwr := Lib.hid hwr
        go_wp2
        go_ret
        refine ⟨?_, q, hwr.out⟩
        have : l1 = l2 := eq_of_getD (by omega) fun j hj => hE.out j (by omega)
        rw [show decide (l1 = l2) = true by simpa using this]
        rfl
  · have hni : ((n1 : Int) != (n2 : Int)) = true := by simp; omega
    go_enter Try.func19, Try.ntmps19
    go_wp2
    go_ret
    refine ⟨?_, 0, rfl⟩
    rw [show decide (l1 = l2) = false by simp; rintro rfl; omega]
    rfl

set_option maxRecDepth 100000 in
set_option maxHeartbeats 4000000 in
theorem edge_u (a : Option Addr) (n cap : Nat) (l : List (Int × Int)) (x y : Int) (w : World) (hE : Edg w a l) (hn : l.length = n) (hb : n < 4294967296) :
    Calls Try.prog 21 #[.slice a n cap, .int .u32 x, .int .u32 y] w fun e w' => e = .returned (.bool (decide ((x, y) ∈ l))) ∧ w' = w := by
  go_enter Try.func21, Try.ntmps21
  go_wp2
  go_loopw [7] (fun vi wr => ∃ i : Nat, vi = .int .i64 i ∧ i ≤ n ∧ wr = w ∧ Hid (∀ j, j < i → l.getD j (0, 0) ≠ (x, y))) (fun vi _ => n - (intOf vi).toNat)
  case atStart => exact ⟨0, rfl, Nat.zero_le _, rfl, Lib.hid fun j hj => absurd hj (Nat.not_lt_zero _)⟩
  case round =>
    obtain ⟨i, rfl, hi, rfl, hN⟩ := hrel
    by_cases hlt : i < n
    · obtain ⟨eb, off, rfl, _, hc⟩ := hE (by rintro rfl; simp at hn; omega)
      obtain ⟨p, hp⟩ : ∃ p, l.getD i (0, 0) = p := ⟨_, rfl⟩
      obtain ⟨c1, c2⟩ := hc i (by omega)
      rw [hp] at c1 c2
      have hpl : p ∈ l := by
        rw [← hp]
        have : l.getD i (0, 0) = l[i]'(by omega) := by simp [List.getD_eq_getElem?_getD, List.getElem?_eq_getElem (show i < l.length by omega)]
        rw [this]
        exact List.getElem_mem _
      obtain ⟨f, t⟩ := p
      clear hc
      replace hp := Lib.hid hp
      replace hpl := Lib.hid hpl
      go_wp2
      · have e1 : f = x := by assumption
        have e2 : (t == y) = true := by assumption
        have e3 : t = y := by simpa using e2
        go_ret
        refine ⟨?_, rfl⟩
        have : (x, y) ∈ l := by
          have := hpl.out
          rw [e1, e3] at this
          exact this
        rw [show decide ((x, y) ∈ l) = true by simpa using this]
        rfl
      · have e2 : (t == y) = false := by assumption
        refine ⟨⟨i + 1, by go_num, by omega, trivial, Lib.hid fun j hj => ?_⟩, by simp [intOf]; omega⟩
        rcases Nat.lt_or_ge j i with h | h
        · exact hN.out j h
        · have : j = i := by omega
          rw [this, hp.out]
          intro e
          simp only [Prod.mk.injEq] at e
          rw [e.2] at e2
          simp at e2
      · have e1 : ¬ f = x := by assumption
        refine ⟨⟨i + 1, by go_num, by omega, trivial, Lib.hid fun j hj => ?_⟩, by simp [intOf]; omega⟩
        rcases Nat.lt_or_ge j i with h | h
        · exact hN.out j h
        · have : j = i := by omega
          rw [this, hp.out]
          intro e
          simp only [Prod.mk.injEq] at e
          exact e1 e.1
    · have : i = n := by omega
      subst this
      go_wp2
      go_ret
      refine ⟨?_, rfl⟩
      have : (x, y) ∉ l := fun h => by
        obtain ⟨j, hj, e⟩ := List.mem_iff_getElem.1 h
        refine hN.out j (by omega) ?_
        rw [List.getD_eq_getElem?_getD, List.getElem?_eq_getElem hj]
        exact e
      rw [show decide ((x, y) ∈ l) = false by simpa using this]
      rfl
end Go.Proofs.Ytilknhackmccpaa
