/- The document's answer for rings: has, next (whom one waits for). -/
import Derived.Test.YtilknhackmccpaaKntR
set_option linter.unusedVariables false
set_option linter.unusedSimpArgs false
namespace Go.Proofs.Ytilknhackmccpaa
open Go.RowKit Go.Sort Go.Maps Go.ChangeMaps Go.MapKept Go.ChangeShapes

set_option maxRecDepth 100000 in
set_option maxHeartbeats 4000000 in
theorem has_u (a : Option Addr) (n cap : Nat) (l : List Int) (x : Int) (w : World) (hN : Nums w a l) (hn : l.length = n) (hb : n < 4294967296) :
    Calls Try.prog 41 #[.slice a n cap, .int .u32 x] w fun e w' => e = .returned (.bool (decide (x ∈ l))) ∧ w' = w := by
  go_enter Try.func41, Try.ntmps41
  go_wp2
  go_loopw [5] (fun vi wr => ∃ i : Nat, vi = .int .i64 i ∧ i ≤ n ∧ wr = w ∧ Hid (∀ j, j < i → l.getD j 0 ≠ x)) (fun vi _ => n - (intOf vi).toNat)
  case atStart => exact ⟨0, rfl, Nat.zero_le _, rfl, Lib.hid fun j hj => absurd hj (Nat.not_lt_zero _)⟩
  case round =>
    obtain ⟨i, rfl, hi, rfl, hX⟩ := hrel
    by_cases hlt : i < n
    · obtain ⟨eb, off, rfl, hc⟩ := hN.at (i := i) (by omega)
      obtain ⟨p, hp⟩ : ∃ p, l.getD i 0 = p := ⟨_, rfl⟩
      have c1 := hc i (by omega)
      rw [hp] at c1
      have hpl : p ∈ l := by
        rw [← hp, List.getD_eq_getElem?_getD, List.getElem?_eq_getElem (show i < l.length by omega)]
        exact List.getElem_mem _
      clear hc
      replace hp := Lib.hid hp
      replace hpl := Lib.hid hpl
      by_cases hpx : p = x
      · have hpe : (p == x) = true := by simpa using hpx
        go_wp2
        go_ret
        refine ⟨?_, rfl⟩
        rw [decide_eq_true (hpx ▸ hpl.out)]
        rfl
      · have hpe : (p == x) = false := by simpa using hpx
        go_wp2
        refine ⟨⟨i + 1, by go_num, by omega, by first | rfl | trivial, Lib.hid fun j hj => ?_⟩, by simp [intOf]; omega⟩
        rcases Nat.lt_or_ge j i with h | h
        · exact hX.out j h
        · have : j = i := by omega
          rw [this, hp.out]
          exact hpx
    · have : i = n := by omega
      subst this
      go_wp2
      go_ret
      refine ⟨?_, by first | rfl | trivial⟩
      have : x ∉ l := fun h => by
        obtain ⟨j, hj, e⟩ := List.mem_iff_getElem.1 h
        refine hX.out j (by omega) ?_
        rw [List.getD_eq_getElem?_getD, List.getElem?_eq_getElem hj]
        exact e
      rw [decide_eq_false this]
      rfl

theorem canon_snoc (zs : List Int) (t : Int) : canon (zs ++ [t]) = insI t (canon zs) := by simp [canon]
theorem insI_at {t : Int} : ∀ {out : List Int} {k : Nat}, k ≤ out.length → (∀ j, j < k → out.getD j 0 < t) → (k < out.length → t ≤ out.getD k 0) →
    insI t out = if k < out.length ∧ out.getD k 0 = t then out else out.take k ++ ([t] ++ out.drop k)
  | [], k, hk, _, _ => by
    have : k = 0 := by simpa using hk
    subst this
    simp [insI]
  | y :: r, 0, _, _, h2 => by
    have h3 : t ≤ y := h2 (by simp)
    unfold insI
    by_cases h : t < y
    · rw [if_pos h, if_neg (by
        rintro ⟨_, e⟩
        have e' : y = t := e
        omega)]
      rfl
    · have e : t = y := by omega
      rw [if_neg h, if_pos e, if_pos ⟨by simp, e.symm⟩]
  | y :: r, k + 1, hk, h1, h2 => by
    have h3 : y < t := h1 0 (by omega)
    have ih := insI_at (t := t) (out := r) (k := k) (by simpa using hk) (fun j hj => h1 (j + 1) (by omega)) (fun hk' => h2 (by simpa using hk'))
    unfold insI
    rw [if_neg (by omega), if_neg (by omega), ih]
    have e : (y :: r).getD (k + 1) 0 = r.getD k 0 := rfl
    rw [e]
    by_cases h : k < r.length ∧ r.getD k 0 = t
    · rw [if_pos h, if_pos ⟨by simpa using h.1, h.2⟩]
    · rw [if_neg h, if_neg (fun h' => h ⟨by simpa using h'.1, h'.2⟩)]
      rfl

/-- append of numbers that lie behind an address. -/
theorem run_append_n (w : World) (base : Nat) (v : Value) (l1 : List Int) (hO : w.ownsInts base 23 .u32 v l1) (a : Option Addr) (n c : Nat) (l2 : List Int) (hE : Nums w a l2) (hU : ∀ z ∈ l2, U z) (hn : l2.length = n) (hb : l1.length + n < 1000000) (hbase : base ≤ w.heap.size) (ty : TypeId) :
    ∃ v' w', (Builtin.append_ #[24, 24] ty #[v, .slice a n c]).run Try.prog w = .ok v' w' ∧ w'.ownsInts base 23 .u32 v' (l1 ++ l2) ∧ w.grownBy w' v.ownBlock := by
  obtain ⟨i0, hi0, hz0, hz1, hz2⟩ := info_parts info_u
  cases a with
  | none =>
    have h0 : l2 = [] := by
      rcases l2 with _ | ⟨x, r⟩
      · rfl
      · obtain ⟨eb, off, h1, _⟩ := hE (by simp)
        cases h1
    subst h0
    simp at hn
    subst hn
    rw [List.append_nil]
    have hv : ∃ b cap, v = .slice b l1.length cap ∧ l1.length ≤ cap := by
      rcases own_cases hO with ⟨rfl, rfl⟩ | ⟨g, cap, rfl, _, h1, _⟩
      · exact ⟨none, 0, rfl, by simp⟩
      · exact ⟨_, cap, rfl, h1⟩
    obtain ⟨b, cap, rfl, hc⟩ := hv
    exact ⟨_, w, run_append_empty w _ ty _ i0 Try.underlying24 hi0 b _ cap c hc, hO, World.grownBy.refl _ _⟩
  | some ad =>
    obtain ⟨v', w', r1, r2, r3, _, _⟩ := run_append_own_at (P := Try.prog) w base 24 ty 23 i0 (.int .u32 0) 1 4 Try.underlying24 hi0 hz0 hz1 hz2 rfl (by decide) v l1.length _ hO.1 ad n c (l2.map (Value.int .u32))
      (by simp [hn]) (fun j u hu => by
        have hj := (List.getElem?_eq_some_iff.1 hu).1
        simp at hj
        obtain ⟨eb, off, e1, _, hc⟩ := hE (by rintro rfl; simp at hj)
        cases e1
        have h2 := hc j hj
        rw [Addr.add_lit, h2, ← hu]
        simp [List.getD_eq_getElem?_getD, List.getElem?_eq_getElem hj]) (ints_oneCell .u32 l2) (by unfold maxLen; omega) (by omega) hbase
    refine ⟨v', w', r1, ⟨?_, ?_⟩, r3⟩
    · rw [List.length_append, hn, List.map_append]
      exact r2
    · intro z hz
      rcases List.mem_append.1 hz with h | h
      · exact hO.2 z h
      · exact (hU z h).wf
theorem wpList_append_n {w : World} {ops : Array Oper} {rest : List Oper} {o : Oper} {a : Act} {Q : Exit → Act → World → Prop} (hgd : o.guard = none) (s x : Operand)
    (ho : o.op = .call { callee := .builtin .append, args := #[s, x], argTypes := #[24, 24] })
    (base : Nat) (v : Value) (l1 : List Int) (hs : a.eval s = v) (hO : w.ownsInts base 23 .u32 v l1) (ad : Option Addr) (n c : Nat) (l2 : List Int) (hx : a.eval x = .slice ad n c) (hE : Nums w ad l2) (hU : ∀ z ∈ l2, U z) (hn : l2.length = n) (hb : l1.length + n < 1000000) (hbase : base ≤ w.heap.size)
    (h : ∀ v' w', w'.ownsInts base 23 .u32 v' (l1 ++ l2) → w.grownBy w' v.ownBlock → wpList Try.prog ops Q rest (a.put o.dst v') w') :
    wpList Try.prog ops Q (o :: rest) a w := by
  refine wpList_plain hgd fun K hK => ?_
  obtain ⟨v', w', hr, h2, h3⟩ := run_append_n w base v l1 hO ad n c l2 hE hU hn hb hbase o.type
  unfold Oper.wp execOp
  simp only [ho, resolve, invoke, builtin, Sem.run_bind, Sem.run_pure, Result.andThen_ok, List.map_toArray, List.map_cons, List.map_nil, hs, hx, hr]
  exact hK _ _ (h v' w' h2 h3)
end Go.Proofs.Ytilknhackmccpaa
