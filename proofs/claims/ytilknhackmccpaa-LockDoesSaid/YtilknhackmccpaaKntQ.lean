/- The law KnotMore: its walk. -/
import Derived.Test.YtilknhackmccpaaKntP
set_option linter.unusedVariables false
set_option linter.unusedSimpArgs false
namespace Go.Proofs.Ytilknhackmccpaa
open Go.RowKit Go.Sort Go.Maps Go.ChangeMaps Go.MapKept Go.ChangeShapes

/-- append of nothing. -/
theorem run_append_empty {P : Program} (w : World) (t ty e : TypeId) (i : TypeInfo) (ht : P.underlying t = some (.slice e)) (hi : P.info? e = some i) (b : Option Addr) (n cap c : Nat) (h : n ≤ cap) :
    (Builtin.append_ #[t, t] ty #[.slice b n cap, .slice none 0 c]).run P w = .ok (.slice b n cap) w := by
  cases b <;> simp [Builtin.append_, run_underlying ht, sizeOf, typeInfo, hi, Builtin.lenOf, Builtin.firstCells, h, storeCells]
theorem run_append_e (w : World) (base : Nat) (v : Value) (l1 : List (Int × Int)) (hO : OwnE w base v l1) (a : Option Addr) (n c : Nat) (l2 : List (Int × Int)) (hE : Edg w a l2) (hn : l2.length = n) (ha : a = none → n = 0) (hb : l1.length + n < 1000000) (hbase : base ≤ w.heap.size) (ty : TypeId) :
    ∃ v' w', (Builtin.append_ #[22, 22] ty #[v, .slice a n c]).run Try.prog w = .ok v' w' ∧ OwnE w' base v' (l1 ++ l2) ∧ w.grownBy w' v.ownBlock := by
  obtain ⟨i0, hi0, hz0, hz1, hz2⟩ := info_parts info_e
  cases a with
  | none =>
    have h0 := ha rfl
    subst h0
    have : l2 = [] := List.eq_nil_of_length_eq_zero hn
    subst this
    rw [List.append_nil]
    have hv : ∃ b cap, v = .slice b l1.length cap ∧ l1.length ≤ cap := by
      rcases hO.2 with ⟨rfl, h1⟩ | ⟨g, cap, cur, rfl, _, _, h1, _⟩
      · exact ⟨none, 0, by rw [h1], by omega⟩
      · exact ⟨_, cap, rfl, h1⟩
    obtain ⟨b, cap, rfl, hc⟩ := hv
    exact ⟨_, w, run_append_empty w _ ty _ i0 Try.underlying22 hi0 b _ cap c hc, hO, World.grownBy.refl _ _⟩
  | some ad =>
    obtain ⟨v', w', r1, r2, r3, _, _⟩ := run_append_own_at (P := Try.prog) w base 22 ty 35 i0 (.agg #[.int .u32 0, .int .u32 0]) 2 8 Try.underlying22 hi0 hz0 hz1 hz2 rfl (by decide) v l1.length (eCells l1) hO ad n c (eCells l2)
      (by rw [eCells_length, hn]) (fun j u hu => by
        have hj := (List.getElem?_eq_some_iff.1 hu).1
        rw [eCells_length] at hj
        obtain ⟨eb, off, e1, _, hc⟩ := hE (by rintro rfl; simp at hj)
        cases e1
        obtain ⟨k, hk⟩ : ∃ k, j / 2 = k := ⟨_, rfl⟩
        have h2 := hc k (by omega)
        have h3 := eCells_at l2 k (by omega)
        rw [Addr.add_lit]
        rcases Nat.mod_two_eq_zero_or_one j with h4 | h4
        · obtain rfl : j = k * 2 := by omega
          rw [h3.1] at hu
          cases hu
          exact h2.1
        · obtain rfl : j = k * 2 + 1 := by omega
          rw [h3.2] at hu
          cases hu
          exact h2.2) (eCells_one l2) (by unfold maxLen; omega) (by omega) hbase
    refine ⟨v', w', r1, ?_, r3⟩
    unfold OwnE
    rw [eCells_append, List.length_append, hn]
    exact r2
theorem wpList_append_e {w : World} {ops : Array Oper} {rest : List Oper} {o : Oper} {a : Act} {Q : Exit → Act → World → Prop} (hgd : o.guard = none) (s x : Operand)
    (ho : o.op = .call { callee := .builtin .append, args := #[s, x], argTypes := #[22, 22] })
    (base : Nat) (v : Value) (l1 : List (Int × Int)) (hs : a.eval s = v) (hO : OwnE w base v l1) (ad : Option Addr) (n c : Nat) (l2 : List (Int × Int)) (hx : a.eval x = .slice ad n c) (hE : Edg w ad l2) (hn : l2.length = n) (ha : ad = none → n = 0) (hb : l1.length + n < 1000000) (hbase : base ≤ w.heap.size)
    (h : ∀ v' w', OwnE w' base v' (l1 ++ l2) → w.grownBy w' v.ownBlock → wpList Try.prog ops Q rest (a.put o.dst v') w') :
    wpList Try.prog ops Q (o :: rest) a w := by
  refine wpList_plain hgd fun K hK => ?_
  obtain ⟨v', w', hr, h2, h3⟩ := run_append_e w base v l1 hO ad n c l2 hE hn ha hb hbase o.type
  unfold Oper.wp execOp
  simp only [ho, resolve, invoke, builtin, Sem.run_bind, Sem.run_pure, Result.andThen_ok, List.map_toArray, List.map_cons, List.map_nil, hs, hx, hr]
  exact hK _ _ (h v' w' h2 h3)
theorem Edg.none0 {w : World} {a : Option Addr} {l : List (Int × Int)} (h : Edg w a l) : a = none → l.length = 0 := fun e => by
  rcases l with _ | ⟨p, r⟩
  · rfl
  · obtain ⟨eb, off, h1, _⟩ := h (by simp)
    rw [e] at h1
    cases h1
theorem OwnE.below {row : Option Nat} {w w' : World} {base : Nat} {v : Value} {l : List (Int × Int)} (h : OwnE w base v l) (hg : w.grownBy w' row) (hne : v.ownBlock = none ∨ v.ownBlock ≠ row) : OwnE w' base v l := World.ownsRow.kept h hg hne
theorem UE.app {a b : List (Int × Int)} (ha : UE a) (hb : UE b) : UE (a ++ b) := fun p hp => by
  rcases List.mem_append.1 hp with h | h
  · exact ha p h
  · exact hb p h
theorem cyc_twice (l : List (Int × Int)) (tg : Int) : cyc (l ++ l) tg = cyc l tg := cyc_congr (fun p => by simp) tg
theorem cyc_rev (l : List (Int × Int)) (tg : Int) : cyc l.reverse tg = cyc l tg := cyc_congr (fun p => by simp) tg
theorem cyc_more {l m : List (Int × Int)} (hl : UE l) (hm : UE m) {tg : Int} (h : cyc l tg ≠ []) : cyc ((l ++ l) ++ m) tg ≠ [] :=
  (cyc_iff ((hl.app hl).app hm)).2 (((cyc_iff hl).1 h).more fun x z hz => mem_nx.2 (by simp [mem_nx.1 hz]))
end Go.Proofs.Ytilknhackmccpaa
