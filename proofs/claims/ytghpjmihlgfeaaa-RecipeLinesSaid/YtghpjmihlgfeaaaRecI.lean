/- Contracts of SameStacks and same. -/
import Derived.Test.YtghpjmihlgfeaaaRecH
import Derived.Laws.StructEq
import Derived.Deep.QuietTactic
import Derived.BigQuiet
namespace Go.Proofs.Ytghpjmihlgfeaaa
open Go.RowKit

theorem flds : (Try.prog.fieldsOf 41).toList.map (fun f => (f.name, f.type, f.offset)) = [("Item", 22, 0), ("Count", 23, 1)] := by kernel_rfl
theorem fields_two {l : List Field} {n1 n2 : String} {t1 t2 : TypeId} {o1 o2 : Nat} (h : l.map (fun f => (f.name, f.type, f.offset)) = [(n1, t1, o1), (n2, t2, o2)]) :
    ∃ f g : Field, l = [f, g] ∧ f.name = n1 ∧ f.type = t1 ∧ f.offset = o1 ∧ g.name = n2 ∧ g.type = t2 ∧ g.offset = o2 := by
  match l, h with
  | [f, g], h => simp at h; exact ⟨f, g, rfl, h.1.1, h.1.2.1, h.1.2.2, h.2.1, h.2.2.1, h.2.2.2⟩
theorem neq_stack (a b c d : Int) (w : World) : (binOp .neq 41 (.agg #[.int .u32 a, .int .u64 b]) (.agg #[.int .u32 c, .int .u64 d])).run Try.prog w = .ok (.bool (!((a == c) && (b == d)))) w := by
  obtain ⟨f, g, hl, f1, f2, f3, g1, g2, g3⟩ := fields_two flds
  rw [run_neq_struct, run_equalIn_agg w 9999 _ _ _ (by kernel_rfl) (by kernel_rfl), hl]
  simp only [Op.eqFields, f1, f2, f3, g1, g2, g3]
  have h1 : ∀ w, (Go.part 22 #[.int .u32 a, .int .u64 b] 0).run Try.prog w = .ok (.int .u32 a) w := fun _ => by kernel_rfl
  have h2 : ∀ w, (Go.part 22 #[.int .u32 c, .int .u64 d] 0).run Try.prog w = .ok (.int .u32 c) w := fun _ => by kernel_rfl
  have h3 : ∀ w, (Go.part 23 #[.int .u32 a, .int .u64 b] 1).run Try.prog w = .ok (.int .u64 b) w := fun _ => by kernel_rfl
  have h4 : ∀ w, (Go.part 23 #[.int .u32 c, .int .u64 d] 1).run Try.prog w = .ok (.int .u64 d) w := fun _ => by kernel_rfl
  have i1 : ∀ w, (Op.equalIn 9999 22 (.int .u32 a) (.int .u32 c)).run Try.prog w = .ok (a == c) w := fun w => run_equalIn_int w 9998 _ _ _ _ _ Try.underlying22
  have i2 : ∀ w, (Op.equalIn 9999 23 (.int .u64 b) (.int .u64 d)).run Try.prog w = .ok (b == d) w := fun w => run_equalIn_int w 9998 _ _ _ _ _ Try.underlying23
  simp only [Sem.run_bind, h1, h2, h3, h4, i1, i2, Result.andThen_ok, Sem.run_ite, Sem.run_pure]
  cases (a == c) <;> cases (b == d) <;> simp

theorem take_len_eq {l m : List (Int × Int)} (h : l.length = m.length) (hk : ∀ j, j < l.length → l[j]? = m[j]?) : l = m := by
  apply List.ext_getElem?
  intro j
  by_cases hj : j < l.length
  · exact hk j hj
  · rw [List.getElem?_eq_none (by omega), List.getElem?_eq_none (by omega)]

set_option maxHeartbeats 400000 in
theorem sameStacks_any (va vb : Value) (l m : List (Int × Int)) (ba bb : Nat) (w : World) (ha : Stks w ba va l) (hb : Stks w bb vb m) (hl : l.length ≤ 1000) (_hm : m.length ≤ 1000) :
    Calls Try.prog 38 #[va, vb] w fun e w' => e = .returned (.bool (decide (l = m))) ∧ ∃ n, w' = w.drewN n := by
  obtain ⟨a, c, rfl⟩ := ha.shape
  obtain ⟨b, d, rfl⟩ := hb.shape
  by_cases hlen : l.length = m.length
  · have ht : ((l.length : Int) != (m.length : Int)) = false := by rw [bne_eq_false_iff_eq]; omega
    have HL := Lib.hid hlen
    clear hlen
    go_enter Try.func38, Try.ntmps38
    go_wp2_with fail
    go_loopw [5] (fun i wr => ∃ k : Nat, k ≤ l.length ∧ i = .int .i64 k ∧ (∀ j, j < k → l[j]? = m[j]?) ∧ ∃ n, wr = w.drewN n) (fun i _ => l.length - (intOf i).toNat)
    case atStart => exact ⟨0, Nat.zero_le _, rfl, by simp, 0, rfl⟩
    case round =>
      obtain ⟨k, hk, rfl, hn, n, rfl⟩ := hrel
      have HN := Lib.hid hn
      clear hn
      by_cases hlt : k < l.length
      · obtain ⟨p, hp⟩ : ∃ p, l[k]? = some p := ⟨l[k], List.getElem?_eq_getElem hlt⟩
        have hlt2 : k < m.length := by have := HL.out; omega
        obtain ⟨q, hq⟩ : ∃ q, m[k]? = some q := ⟨m[k], List.getElem?_eq_getElem hlt2⟩
        rcases ha.2 with ⟨h1, h2⟩ | ⟨g, cap, cur, h1, h2, h3⟩
        · omega
        rcases hb.2 with ⟨h4, h5⟩ | ⟨g', cap', cur', h4, h5, h6⟩
        · omega
        cases h1
        cases h4
        obtain ⟨c1, c2⟩ := ha.cells hp
        obtain ⟨d1, d2⟩ := hb.cells hq
        have HP := Lib.hid hp
        have HQ := Lib.hid hq
        have hlt3 : (k : Int) < l.length := by omega
        have hlt4 : (k : Int) < m.length := by omega
        clear h2 h3 h5 h6 hp hq
        have nq := neq_stack p.1 p.2 q.1 q.2
        by_cases he : p = q
        · have hb : ((p.1 == q.1) && (p.2 == q.2)) = true := by rw [he]; simp
          rw [hb] at nq
          have HE := Lib.hid he
          clear he hb
          go_wp2_with fail
          go_quiet (fail)
          go_wp2_with fail
          go_roundw
          case rel =>
            refine ⟨k + 1, by omega, by go_num, fun j hj => ?_, _, rfl⟩
            by_cases hjk : j = k
            · subst hjk; rw [HP.out, HQ.out, HE.out]
            · exact HN.out j (by omega)
          case measure => simp [intOf]; omega
        · have hb : ((p.1 == q.1) && (p.2 == q.2)) = false := by
            rw [Bool.eq_false_iff]
            intro h
            simp at h
            exact he (Prod.ext h.1 h.2)
          rw [hb] at nq
          have hd : Hid (decide (l = m) = false) := Lib.hid (by
            simp
            intro h
            have := HP.out
            rw [h, HQ.out] at this
            exact he (Option.some.inj this).symm)
          clear he hb
          go_wp2_with fail
          go_quiet (fail)
          go_wp2_with fail
          go_ret
          exact ⟨ret_bool hd.out.symm, _, World.drewN_drewN _ _ _⟩
      · obtain rfl : k = l.length := by omega
        have hd : Hid (decide (l = m) = true) := Lib.hid (by simpa using take_len_eq HL.out HN.out)
        go_wp2_with fail
        go_ret
        exact ⟨ret_bool hd.out.symm, _, rfl⟩
  · have ht : ((l.length : Int) != (m.length : Int)) = true := by rw [bne_iff_ne]; omega
    have hd : Hid (decide (l = m) = false) := Lib.hid (by simp; intro h; exact hlen (by rw [h]))
    go_enter Try.func38, Try.ntmps38
    go_wp2_with fail
    go_ret
    exact ⟨ret_bool hd.out.symm, 0, rfl⟩

set_option maxRecDepth 100000 in
set_option maxHeartbeats 400000 in
theorem same_any (va vb vc vd : Value) (la lb lc ld : List (Int × Int)) (ba bb bc bd : Nat) (w : World) (ha : Stks w ba va la) (hb : Stks w bb vb lb) (hc : Stks w bc vc lc) (hd : Stks w bd vd ld)
    (l1 : la.length ≤ 1000) (l2 : lb.length ≤ 1000) (l3 : lc.length ≤ 1000) (l4 : ld.length ≤ 1000) :
    Calls Try.prog 21 #[.agg #[va, vb], .agg #[vc, vd]] w fun e w' => e = .returned (.bool (decide (la = lc) && decide (lb = ld))) ∧ Below w.heap.size w w' := by
  obtain ⟨aa, ca, rfl⟩ := ha.shape
  obtain ⟨ab, cb, rfl⟩ := hb.shape
  obtain ⟨ac, cc, rfl⟩ := hc.shape
  obtain ⟨ad, cd, rfl⟩ := hd.shape
  have B : Below w.heap.size w ((w.alloc (.cells #[.slice aa la.length ca, .slice ab lb.length cb] 26)).alloc (.cells #[.slice ac lc.length cc, .slice ad ld.length cd] 26)) := ((Below.refl _ _).alloc (Nat.le_refl _) _).alloc (by simp) _
  have q1 := ha.below B
  have q2 := hb.below B
  have q3 := hc.below B
  have q4 := hd.below B
  have Q1 := Lib.hid q1
  have Q2 := Lib.hid q2
  have Q3 := Lib.hid q3
  have Q4 := Lib.hid q4
  clear q1 q2 q3 q4 ha hb hc hd
  go_enter Try.func21, Try.ntmps21
  go_wp2_with fail
  refine (sameStacks_any _ _ _ _ _ _ _ Q1.out Q3.out l1 l3).mono ?_
  rintro e w1 ⟨rfl, n, rfl⟩
  by_cases h1 : la = lc
  · have e1 : decide (la = lc) = true := by simpa using h1
    rw [e1]
    have E1 := Lib.hid e1
    clear e1 h1
    have Q2' := Lib.hid (Q2.out.below (below_drewN (Below.refl _ _) n))
    have Q4' := Lib.hid (Q4.out.below (below_drewN (Below.refl _ _) n))
    go_wp2_with fail
    refine (sameStacks_any _ _ _ _ _ _ _ Q2'.out Q4'.out l2 l4).mono ?_
    rintro e w1 ⟨rfl, n', rfl⟩
    go_wp2_with fail
    go_ret
    exact ⟨ret_bool (by rw [E1.out]; rfl), below_drewN B _⟩
  · have e1 : decide (la = lc) = false := by simpa using h1
    rw [e1]
    have E1 := Lib.hid e1
    clear e1 h1
    go_wp2_with fail
    go_ret
    exact ⟨ret_bool (by rw [E1.out]; rfl), below_drewN B n⟩
end Go.Proofs.Ytghpjmihlgfeaaa
