/- Both tables, side by side; the law's own function does: its walk; The law's own function does: its walk; The law LockDoes: its walk. -/
import Derived.Test.YtilknhackmccpaaRefD
import Derived.Test.YtilknhackmccpaaRefG
import Derived.Test.YtilknhackmccpaaRefI
set_option linter.unusedVariables false
set_option linter.unusedSimpArgs false
namespace Go.Proofs.Ytilknhackmccpaa
open Go.RowKit Go.Sort Go.Lib Go.Maps

/-- The document's table turns: the locks' own stays. -/
theorem TabIs.ref {w w' : World} {TB b1 b2 RB : Nat} {T : Tb} {f : Ky → Option Value} {v : Value} {P : List RL} {L : RT} (S : TabIs w TB b1 b2 T f) (Q : RTab w RB v P L) (k : Two RB (v.ownBlock.getD RB) w w') : TabIs w' TB b1 b2 T f := by
  rcases Q.row.2 with ⟨rfl, _⟩ | ⟨g, cap, cur, rfl, _, hg, _⟩
  · exact S.but (g := RB) ⟨k.os, k.tape, k.output, k.size, fun i hi h => k.block i hi (by simpa using h) (by simpa [Value.ownBlock] using h)⟩ ⟨_, _, _, Q.cell, by decide, by decide⟩
  · have hne : RB ≠ g := by rintro rfl; have := Q.cell; rw [hg] at this; cases this
    obtain ⟨m, h1, h2⟩ := k.split
    have S1 := S.but h1 ⟨_, _, _, Q.cell, by decide, by decide⟩
    have hm : m.heap[g]? = _ := (h1.block g (Array.getElem?_eq_some_iff.1 hg).1 (by simpa using hne.symm)).trans hg
    exact S1.but (g := g) h2 ⟨_, _, _, hm, by decide, by decide⟩
theorem neq_hold_same2 (a b c d : Int) (w : World) : (binOp .eql 54 (.agg #[.int .u8 a, .int .u32 b, .int .u32 c, .int .u8 d]) (.agg #[.int .u8 a, .int .u32 b, .int .u32 c, .int .u8 d])).run Try.prog w = .ok (.bool true) w := by
  have h := neq_hold_same' a b c d w
  rw [run_neq_struct] at h
  rw [run_eql_struct]
  revert h
  generalize (Op.equalIn 10000 54 _ _).run Try.prog w = r
  intro h
  cases r with
  | ok x w' => cases x <;> simp_all [Result.andThen]
  | _ => simp_all [Result.andThen]
/-- Both tables, played alike. -/
structure BothAt (w : World) (R TB b1 b2 RB n : Nat) (T : Tb) (L : RT) (f : Ky → Option Value) (v : Value) (P : List RL) : Prop where
  tab : TabIs w TB b1 b2 T f
  ref : RTab w RB v P L
  agr : Agr T L
  inv : Inv T
  fit : Fit T n n
  len : L.length ≤ n
  low : ∀ g, v.ownBlock = some g → R ≤ g
def Both (w : World) (R TB b1 b2 RB n : Nat) : Prop := ∃ T L f v P, BothAt w R TB b1 b2 RB n T L f v P
section
variable {w w' : World} {R TB b1 b2 RB n : Nat} {T : Tb} {L : RT} {f : Ky → Option Value} {v : Value} {P : List RL}
theorem BothAt.below (B : BothAt w R TB b1 b2 RB n T L f v P) (b : RowKit.Below w.heap.size w w') : BothAt w' R TB b1 b2 RB n T L f v P :=
  ⟨B.tab.below b (Nat.le_refl _), B.ref.below b (Nat.le_refl _), B.agr, B.inv, B.fit, B.len, B.low⟩
theorem BothAt.drew (B : BothAt w R TB b1 b2 RB n T L f v P) : BothAt w.drew R TB b1 b2 RB n T L f v P := B.below (RowKit.Below.refl _ _).drew
theorem BothAt.mono (B : BothAt w R TB b1 b2 RB n T L f v P) {m : Nat} (h : n ≤ m) : BothAt w R TB b1 b2 RB m T L f v P :=
  ⟨B.tab, B.ref, B.agr, B.inv, B.fit.mono h h, Nat.le_trans B.len h, B.low⟩
theorem BothAt.size (B : BothAt w R TB b1 b2 RB n T L f v P) : ∀ e ∈ L, e.2.1.length + e.2.2.length ≤ n := fun e he => by
  have := B.fit.size e.1
  rwa [B.agr.at_ e he] at this
theorem BothAt.u (B : BothAt w R TB b1 b2 RB n T L f v P) : ∀ e ∈ L, (∀ x ∈ e.2.1, U x.1) ∧ ∀ x ∈ e.2.2, U x.1 := fun e he => by
  have := B.fit.u e.1
  rwa [B.agr.at_ e he] at this
theorem BothAt.off (B : BothAt w R TB b1 b2 RB n T L f v P) : R ≤ v.ownBlock.getD RB ∨ v.ownBlock.getD RB = RB := by
  cases h : v.ownBlock with
  | none => exact .inr rfl
  | some g => exact .inl (B.low g h)
theorem BothAt.edges (B : BothAt w R TB b1 b2 RB n T L f v P) : edgT T = rEdges L ∧ (rEdges L).length ≤ n * n := by
  have h := B.agr.edges B.inv B.tab.rising
  refine ⟨h, ?_⟩
  rw [← h]
  exact Nat.le_trans (flat_len B.fit T.hs) (Nat.mul_le_mul_right n B.fit.waits)
theorem BothAt.none (S : TabIs w TB b1 b2 noTb f) (Q : RTab w RB (.slice none 0 0) [] []) : BothAt w R TB b1 b2 RB 0 noTb [] f (.slice none 0 0) [] :=
  ⟨S, Q, agr_none, inv_none, fit_none, Nat.le_refl _, fun g hg => by cases hg⟩
/-- The locks' own table turned, the document's not yet. -/
theorem BothAt.half (B : BothAt w R TB b1 b2 RB n T L f v P) (k : Two b1 b2 w w') : RTab w' RB v P L := B.ref.two k B.tab.locks.nocells B.tab.waits.nocells
theorem BothAt.rel {f' : Ky → Option Value} {w2 : World} {P' : List RL} (B : BothAt w R TB b1 b2 RB n T L f v P) (k : Two b1 b2 w w') {t : Int} (S' : TabIs w' TB b1 b2 (relT T t).1 f') (Q' : RTab w2 RB v P' (rRel L t).1) (k' : Two RB (v.ownBlock.getD RB) w' w2) : BothAt w2 R TB b1 b2 RB n (relT T t).1 (rRel L t).1 f' v P' :=
  ⟨S'.ref (B.half k) k', Q', (B.agr.rel B.inv t).2, (rel_spec B.inv t).inv, (relT_fit B.fit B.tab.sorted t).1, by simp only [rRel, List.length_map]; exact B.len, B.low⟩
end
theorem relT_len {T : Tb} {n : Nat} (Z : Fit T n n) (hn : n ≤ 150) (t : Int) : (relT T t).2.length ≤ 22500 := by
  have h := (relFold_fit t T.ks T n n Z).2.1
  have h2 : n * T.ks.length ≤ 150 * 150 := Nat.mul_le_mul hn (Nat.le_trans Z.keys hn)
  exact Nat.le_trans h h2
theorem ints_two {w w' : World} {base c1 c2 : Nat} {v : Value} {zs : List Int} (O : w.ownsInts base 23 .u32 v zs) (k : Two c1 c2 w w') (h1 : c1 < base) (h2 : c2 < base) : w'.ownsInts base 23 .u32 v zs :=
  ⟨row_same O.1 fun g hg => by
    obtain ⟨h3, h4⟩ := row_ge O.1 g hg
    exact k.block g h4 (by omega) (by omega), O.2⟩
theorem rAskAt_len (L : RT) (i : Nat) (t : Int) (k : Ky) (l : Lk) (M : Int) : (rAskAt L i t k l M).2.length = L.length := by
  unfold rAskAt
  split
  · rfl
  · split
    · rfl
    · split <;> simp
theorem BothAt.ask {w w' w2 : World} {R TB b1 b2 RB n : Nat} {T : Tb} {L : RT} {f f' : Ky → Option Value} {v : Value} {P : List RL} (B : BothAt w R TB b1 b2 RB n T L f v P) (k2 : Two b1 b2 w w') {t : Int} (ht : U t) {k : Ky} {m : Int} {l : Lk} (hget : (atL L k)[atI L k]? = some (k, l)) (S' : TabIs w' TB b1 b2 (askT T t k m).2 f') (Q' : AskF w2 RB w'.heap.size v (rAskAt (atL L k) (atI L k) t k l (askM m)).2) (k' : Two RB (v.ownBlock.getD RB) w' w2) (hR : R ≤ w.heap.size) : Both w2 R TB b1 b2 RB (n + 1) := by
  obtain ⟨v', P', Q2, hF⟩ := Q'
  refine ⟨_, _, f', v', P', S'.ref (B.half k2) k', Q2, (B.agr.ask B.inv t k m hget).2, inv_ask B.inv t k m, askT_fit B.fit ht k m, ?_, fun g hg => ?_⟩
  · rw [rAskAt_len]
    have := atL_len L k
    have := B.len
    omega
  · rcases hF g hg with h | h
    · exact B.low g h
    · have := k2.size; omega

theorem both_drew {w w' : World} {R TB b1 b2 RB n q : Nat} (h : Both w' R TB b1 b2 RB n ∧ RowKit.Below R w w') : Both (w'.drewN q) R TB b1 b2 RB n ∧ RowKit.Below R w (w'.drewN q) := by
  obtain ⟨⟨T, L, f, v, P, B⟩, b⟩ := h
  have hq : RowKit.Below w'.heap.size w' (w'.drewN q) := by have := RowKit.Below.refl w'.heap.size w'; exact ⟨this.os, this.tape, this.output, this.size, this.block⟩
  exact ⟨⟨_, _, _, _, _, B.below hq⟩, ⟨b.os, b.tape, b.output, b.size, b.block⟩⟩
theorem box_cells {w : World} {X : Nat} {c0 c1 c2 c3 c4 c5 : Value} {ty : TypeId} {fr : Nat × Nat} (h : w.heap[X]? = some (.cells #[c0, c1, c2, c3, c4, c5] ty fr)) : w.cell? ⟨X, 0, none⟩ = some c0 ∧ w.cell? ⟨X, 1, none⟩ = some c1 ∧ w.cell? ⟨X, 2, none⟩ = some c2 ∧ w.cell? ⟨X, 3, none⟩ = some c3 ∧ w.cell? ⟨X, 4, none⟩ = some c4 ∧ w.cell? ⟨X, 5, none⟩ = some c5 := by
  refine ⟨?_, ?_, ?_, ?_, ?_, ?_⟩ <;> (rw [cell_of_heap h]; rfl)

end Go.Proofs.Ytilknhackmccpaa

set_option linter.unusedVariables false
set_option linter.unusedSimpArgs false
namespace Go.Proofs.Ytilknhackmccpaa
open Go.RowKit Go.Sort Go.Lib Go.Maps

set_option maxRecDepth 100000 in
set_option maxHeartbeats 16000000 in
theorem does_u {w : World} {R TB b1 b2 RB n : Nat} (HB : Both w R TB b1 b2 RB n) (hn : n ≤ 150) (h1 : R ≤ b1) (h2 : R ≤ b2) (h3 : R ≤ RB) (hR : R ≤ w.heap.size) (o : Lop) (ho : LopOk o) :
    Calls Try.prog 33 #[.pointer (some ⟨TB, 0, none⟩), .pointer (some ⟨RB, 0, none⟩), .agg #[.int .u8 o.kind, .int .u32 o.txn, .int .u8 o.k.1, .int .u32 o.k.2.1, .int .u32 o.k.2.2, .int .u8 o.mode]] w fun e w' => e = .returned (.bool true) ∧ Both w' R TB b1 b2 RB (n + 1) ∧ RowKit.Below R w w' := by
  obtain ⟨kd, tx, ⟨k1, k2, k3⟩, md⟩ := o
  obtain ⟨T, L, f, v, P, B⟩ := HB
  have hkd := ho.kind
  have htx := ho.txn
  have hkk := ho.k
  simp only at hkd htx hkk
  have bX := below_alloc w (.cells #[.int .u8 kd, .int .u32 tx, .int .u8 k1, .int .u32 k2, .int .u32 k3, .int .u8 md] 47)
  have nX := heap_alloc_new w (.cells #[.int .u8 kd, .int .u32 tx, .int .u8 k1, .int .u32 k2, .int .u32 k3, .int .u8 md] 47)
  obtain ⟨X, hX⟩ : ∃ x, w.heap.size = x := ⟨_, rfl⟩
  obtain ⟨w1, hw1⟩ : ∃ x, w.alloc (.cells #[.int .u8 kd, .int .u32 tx, .int .u8 k1, .int .u32 k2, .int .u32 k3, .int .u8 md] 47) = x := ⟨_, rfl⟩
  rw [hw1] at bX nX
  rw [hX] at nX
  have B1 := B.below bX
  have hB1 : Hid (RowKit.Below R w w1) := Lib.hid (bX.mono hR)
  obtain ⟨x0, x1, x2, x3, x4, x5⟩ := box_cells nX
  have hlX : X < w1.heap.size := (Array.getElem?_eq_some_iff.1 nX).1
  have hXo : X ≠ b1 ∧ X ≠ b2 ∧ X ≠ RB ∧ X ≠ v.ownBlock.getD RB := by
    have e1 := B.tab.locks.lt
    have e2 := B.tab.waits.lt
    have e3 := B.ref.lt
    refine ⟨by omega, by omega, by omega, ?_⟩
    cases h : v.ownBlock with
    | none => simp; omega
    | some g =>
      have := row_ge B.ref.row g h
      simp; omega
  have hoff := B.off
  have ho2 : R ≤ v.ownBlock.getD RB := by rcases hoff with h | h <;> omega
  have hR1 : R ≤ w1.heap.size := by omega
  replace nX := Lib.hid nX
  clear B bX ho
  go_enter Try.func33, Try.ntmps33
  go_upto_region 2 with fail
  replace hw1 := Lib.hid hw1
  by_cases hk4 : kd % 6 = 4
  · have hlow : RB < w1.drew.heap.size ∧ v.ownBlock.getD RB < w1.drew.heap.size := by
      have e1 := B1.ref.lt
      refine ⟨e1, ?_⟩
      cases h : v.ownBlock with
      | none => exact e1
      | some g => exact (row_ge B1.ref.row g h).2
    have hrel := release_u B1.drew.tab B1.fit (by omega) tx htx
    have hkp : ∀ w', Two b1 b2 w1.drew w' → w'.cell? ⟨X, 1, none⟩ = some (.int .u32 tx) := fun w' k => (k.cellKeep (p := ⟨X, 1, none⟩) hlX hXo.1 hXo.2.1).trans x1
    have hkp2 : ∀ w5 w', w5.cell? ⟨X, 1, none⟩ = some (.int .u32 tx) → X < w5.heap.size → Two RB (v.ownBlock.getD RB) w5 w' → w'.cell? ⟨X, 1, none⟩ = some (.int .u32 tx) := fun w5 w' e hl k => (k.cellKeep (p := ⟨X, 1, none⟩) hl hXo.2.2.1 hXo.2.2.2).trans e
    have hrr := fun (w5 : World) (t5 : Two b1 b2 w1.drew w5) => rel_r (B1.drew.half t5) tx n (by have := B1.len; omega) (by omega) B1.size fun e he => (B1.u e he).2
    obtain ⟨e1, -⟩ := B1.agr.rel B1.inv tx
    have hll : (relT T tx).2.length < 1000000 := by
      have h := relT_len B1.fit hn tx
      omega
    obtain ⟨zs, hzs⟩ : ∃ z, (relT T tx).2 = z := ⟨_, rfl⟩
    have hBr := fun (w5 w6 : World) (f5 : Ky → Option Value) (P6 : List RL) (t5 : Two b1 b2 w1.drew w5) (S5 : TabIs w5 TB b1 b2 (relT T tx).1 f5) (S6 : RTab w6 RB v P6 (rRel L tx).1) (t6 : Two RB (v.ownBlock.getD RB) w5 w6) => B1.drew.rel t5 S5 S6 t6
    rw [hzs] at hrel hll
    rw [← e1, hzs] at hrr
    replace hkp := Lib.hid hkp
    replace hkp2 := Lib.hid hkp2
    replace hrr := Lib.hid hrr
    replace hBr := Lib.hid hBr
    replace hzs := Lib.hid hzs
    replace B1 := Lib.hid B1
    clear x0 x2 x3 x4 x5 e1
    go_upto_region 3 with fail
    go_region_held2 (fun w' => w'.cell? ⟨X, 1, none⟩ = some (.int .u32 tx))
      (first | exact x1 | exact k6 | exact k5 | go_keep)
      (first
        | (go_at_call 26; refine hrel.mono ?_; rintro e w5 ⟨f5, v5, rfl, S5, O5, t5⟩; have k5 := hkp.out w5 t5; have r5 := hrr.out w5 t5; replace S5 := Lib.hid S5; replace t5 := Lib.hid t5; replace O5 := Lib.hid O5; obtain ⟨a5, c5, rfl⟩ := row_shape O5.out.1)
        | (go_at_call 53; refine r5.mono ?_; rintro e w6 ⟨v6, P6, rfl, S6, O6, t6⟩; have k6 := hkp2.out w5 w6 k5 (by have := t5.out.size; have h2 : w1.drew.heap.size = w1.heap.size := rfl; omega) t6; have O5w := Lib.hid (ints_two O5.out t6 hlow.1 hlow.2); replace S6 := Lib.hid S6; replace t6 := Lib.hid t6; replace O6 := Lib.hid O6; obtain ⟨a6, c6, rfl⟩ := row_shape O6.out.1)
        | (go_at_call 19; refine (same_u _ _ _ _ _ _ zs zs w6 (own_nums' (O5w.out)) (own_nums' O6.out) rfl rfl (by omega) (by omega)).mono ?_; rintro e w7 ⟨rfl, q, rfl⟩))
    have hF : Both w6 R TB b1 b2 RB (n + 1) ∧ RowKit.Below R w w6 := by
      refine ⟨⟨_, _, _, _, _, (hBr.out w5 w6 f5 P6 t5.out S5.out S6.out t6.out).mono (Nat.le_succ n)⟩, hB1.out.trans ?_⟩
      have d : RowKit.Below R w1 w1.drew := (RowKit.Below.refl w1.heap.size w1).drew.mono hR1
      exact d.trans ((t5.out.below h1 h2 hR1).trans (t6.out.below h3 ho2 (Nat.le_trans hR1 t5.out.size)))
    replace hF := Lib.hid hF
    clear S5 t5 O5 S6 t6 O6 O5w k5 k6 r5
    go_wp2
    go_ret
    exact ⟨by simp, both_drew hF.out⟩
  · by_cases hk5 : kd % 6 = 5
    · have hWt := waits_t B1.tab tx htx
      have hWr := fun (wx : World) (b : RowKit.Below w1.heap.size w1 wx) => waits_r (B1.ref.below b (Nat.le_refl _)) (B1.agr.modes B1.inv) (by have := B1.len; omega) tx
      rw [B1.agr.waits B1.inv tx] at hWr
      obtain ⟨⟨⟨y1, y2, y3⟩, y4⟩, hy⟩ : ∃ h, (T.W tx).getD ((0, 0, 0), 0) = h := ⟨_, rfl⟩
      obtain ⟨bw, hbw⟩ : ∃ b, (T.W tx).isSome = b := ⟨_, rfl⟩
      rw [hy, hbw] at hWt hWr
      simp only [holdV] at hWt hWr
      have heql := fun W => neq_hold_same2 y1 y2 y3 y4 W
      have hbb : (bw == bw) = true := by simp
      replace B1 := Lib.hid B1
      replace hWr := Lib.hid hWr
      clear hy hbw x0 x2 x3 x4 x5
      go_upto_region 6 with (go_at_call 30; refine hWt.mono ?_; rintro e w2 ⟨rfl, b2⟩)
      have b3 := b2.trans ((below_alloc w2 (.cells #[.int .u8 y1, .int .u32 y2, .int .u32 y3, .int .u8 y4] 54)).mono b2.size)
      have n3 := heap_alloc_new w2 (.cells #[.int .u8 y1, .int .u32 y2, .int .u32 y3, .int .u8 y4] 54)
      obtain ⟨Y7, hY7⟩ : ∃ x, w2.heap.size = x := ⟨_, rfl⟩
      obtain ⟨w3, hw3⟩ : ∃ x, w2.alloc (.cells #[.int .u8 y1, .int .u32 y2, .int .u32 y3, .int .u8 y4] 54) = x := ⟨_, rfl⟩
      rw [hw3] at b3 n3 ⊢
      rw [hY7] at n3 ⊢
      have hl7 : Y7 < w3.heap.size := (Array.getElem?_eq_some_iff.1 n3).1
      have z1 := (b3.cell (p := ⟨X, 1, none⟩) hlX).trans x1
      have hWr3 := hWr.out _ b3
      clear hWt b2 hw3 hY7 x1
      go_upto_region 7 with (go_at_call 54; refine hWr3.mono ?_; rintro e w4 ⟨rfl, b4⟩)
      have b5 := b4.trans ((below_alloc w4 (.cells #[.int .u8 y1, .int .u32 y2, .int .u32 y3, .int .u8 y4] 54)).mono b4.size)
      have n5 := heap_alloc_new w4 (.cells #[.int .u8 y1, .int .u32 y2, .int .u32 y3, .int .u8 y4] 54)
      obtain ⟨Y9, hY9⟩ : ∃ x, w4.heap.size = x := ⟨_, rfl⟩
      obtain ⟨w5, hw5⟩ : ∃ x, w4.alloc (.cells #[.int .u8 y1, .int .u32 y2, .int .u32 y3, .int .u8 y4] 54) = x := ⟨_, rfl⟩
      rw [hw5] at b5 n5 ⊢
      rw [hY9] at n5 ⊢
      have n35 := (b5.block Y7 hl7).trans n3
      have b15 := b3.trans (b5.mono b3.size)
      have zz := (b5.cell (p := ⟨X, 1, none⟩) (by have := b3.size; show X < _; omega)).trans z1
      have hl5 : X < w5.heap.size ∧ Y7 < w5.heap.size ∧ Y9 < w5.heap.size := ⟨by have := b15.size; omega, by have := b5.size; omega, (Array.getElem?_eq_some_iff.1 n5).1⟩
      have hkp : ∀ w', RowKit.Below w5.heap.size w5 w' → w'.cell? ⟨X, 1, none⟩ = some (.int .u32 tx) ∧ w'.cell? ⟨Y7, 0, none⟩ = some (.int .u8 y1) ∧ w'.cell? ⟨Y7, 1, none⟩ = some (.int .u32 y2) ∧ w'.cell? ⟨Y7, 2, none⟩ = some (.int .u32 y3) ∧ w'.cell? ⟨Y7, 3, none⟩ = some (.int .u8 y4) ∧ w'.cell? ⟨Y9, 0, none⟩ = some (.int .u8 y1) ∧ w'.cell? ⟨Y9, 1, none⟩ = some (.int .u32 y2) ∧ w'.cell? ⟨Y9, 2, none⟩ = some (.int .u32 y3) ∧ w'.cell? ⟨Y9, 3, none⟩ = some (.int .u8 y4) := fun w' b => by
        have e7 := (b.block Y7 hl5.2.1).trans n35
        have e9 := (b.block Y9 hl5.2.2).trans n5
        refine ⟨(b.cell (p := ⟨X, 1, none⟩) hl5.1).trans zz, ?_, ?_, ?_, ?_, ?_, ?_, ?_, ?_⟩
        all_goals first | (rw [cell_of_heap e7]; rfl) | (rw [cell_of_heap e9]; rfl)
      have B5 := B1.out.below b15
      have k5 := hkp w5 (RowKit.Below.refl _ _)
      have hHt := holds_u B5.drew.tab (by have := B5.fit.keys; omega) tx
      have hHr := fun (wx : World) (b : RowKit.Below w5.drew.heap.size w5.drew wx) => holds_r (B5.drew.ref.below b (Nat.le_refl _)) (B5.agr.modes B5.inv) (by have := B5.len; omega) tx
      rw [← B5.agr.holds B5.inv tx] at hHr
      have hll : (holdsL T tx).length ≤ n := Nat.le_trans (List.length_filterMap_le _ _) B5.fit.keys
      obtain ⟨l, hl⟩ : ∃ l, holdsL T tx = l := ⟨_, rfl⟩
      rw [hl] at hHt hHr hll
      obtain ⟨nn, hnn⟩ : ∃ m, l.length = m := ⟨_, rfl⟩
      rw [hnn] at hHt hHr hll
      have hB5 : Hid (RowKit.Below R w w5) := Lib.hid (hB1.out.trans (b15.mono hR1))
      have hR5 : R ≤ w5.heap.size := Nat.le_trans hR1 b15.size
      replace B5 := Lib.hid B5
      replace hkp := Lib.hid hkp
      replace hHr := Lib.hid hHr
      replace hnn := Lib.hid hnn
      have hd5 : Hid (RowKit.Below w5.heap.size w5 w5.drew) := Lib.hid (RowKit.Below.refl _ _).drew
      obtain ⟨k0, k1', k2', k3', k4', k5', k6', k7', k8'⟩ := k5
      clear hWr hWr3 b3 b4 b5 n3 n5 n35 b15 z1 zz hl hw5 hY9 hl7 hl5
      go_region_held2 (fun w' => w'.cell? ⟨X, 1, none⟩ = some (.int .u32 tx) ∧ w'.cell? ⟨Y7, 0, none⟩ = some (.int .u8 y1) ∧ w'.cell? ⟨Y7, 1, none⟩ = some (.int .u32 y2) ∧ w'.cell? ⟨Y7, 2, none⟩ = some (.int .u32 y3) ∧ w'.cell? ⟨Y7, 3, none⟩ = some (.int .u8 y4) ∧ w'.cell? ⟨Y9, 0, none⟩ = some (.int .u8 y1) ∧ w'.cell? ⟨Y9, 1, none⟩ = some (.int .u32 y2) ∧ w'.cell? ⟨Y9, 2, none⟩ = some (.int .u32 y3) ∧ w'.cell? ⟨Y9, 3, none⟩ = some (.int .u8 y4))
        (first | exact ⟨k0, k1', k2', k3', k4', k5', k6', k7', k8'⟩ | exact k7 | exact k6 | go_keep)
        (first
          | (go_at_call 28; refine hHt.mono ?_; rintro e w6 ⟨v6, rfl, O6, b6⟩; have d6 := hd5.out.trans b6; have k6 := hkp.out w6 d6; have q6 := hHr.out w6 b6; obtain ⟨a6, c6, rfl, C6⟩ := row_at O6; replace C6 := Lib.hid C6; replace d6 := Lib.hid d6; clear O6 b6)
          | (go_at_call 56; refine q6.mono ?_; rintro e w7 ⟨v7, rfl, O7, b7⟩; have d7 := d6.out.trans (b7.mono d6.out.size); have k7 := hkp.out w7 d7; obtain ⟨a7, c7, rfl, C7⟩ := row_at O7; have C67 := Lib.hid (C6.out.keep b7 (Nat.le_refl _)); replace C7 := Lib.hid C7; replace d7 := Lib.hid d7; clear O7 b7)
          | (go_at_call 55; refine (sameH_u a6 a7 nn c6 c7 l w7 C67.out C7.out hnn.out (by omega)).mono ?_; rintro e w8 ⟨rfl, q, rfl⟩))
      have hF : Hid (Both w7 R TB b1 b2 RB (n + 1) ∧ RowKit.Below R w w7) := Lib.hid ⟨⟨_, _, _, _, _, (B5.out.below d7.out).mono (Nat.le_succ n)⟩, hB5.out.trans (d7.out.mono hR5)⟩
      clear k6 k7 d6 d7 C6 C7 C67 q6 hHt hHr
      go_wp2
      go_ret
      exact ⟨by simp, both_drew hF.out⟩
    · obtain ⟨l, hget, -⟩ := atL_get (L := L) (k1, k2, k3)
      have hlF : T.F (k1, k2, k3) = l := (B1.agr.at (k1, k2, k3)).at_ _ (List.mem_of_getElem? hget)
      have hsz := B1.fit.size (k1, k2, k3)
      have hak := ask_u B1.drew.tab (by have := B1.fit.keys; omega) (by have := B1.fit.waits; omega) tx htx (k1, k2, k3) hkk md (by omega) (by omega)
      rw [hlF] at hsz
      have har := fun (w5 : World) (t5 : Two b1 b2 w1.drew w5) => ask_r (B1.drew.half t5) (B1.agr.modes B1.inv) (by have := B1.len; omega) tx (k1, k2, k3) md l hget (by omega) (by omega)
      have hag := (B1.agr.ask B1.inv tx (k1, k2, k3) md hget).1
      have hBa := fun (w5 w6 : World) (f5 : Ky → Option Value) (t5 : Two b1 b2 w1.drew w5) (S5 : TabIs w5 TB b1 b2 (askT T tx (k1, k2, k3) md).2 f5) (Q6 : AskF w6 RB w5.heap.size v (rAskAt (atL L (k1, k2, k3)) (atI L (k1, k2, k3)) tx (k1, k2, k3) l (askM md)).2) (t6 : Two RB (v.ownBlock.getD RB) w5 w6) => B1.drew.ask t5 htx hget S5 Q6 t6 hR1
      have hkp : ∀ w', Two b1 b2 w1.drew w' → w'.cell? ⟨X, 1, none⟩ = some (.int .u32 tx) ∧ w'.cell? ⟨X, 2, none⟩ = some (.int .u8 k1) ∧ w'.cell? ⟨X, 3, none⟩ = some (.int .u32 k2) ∧ w'.cell? ⟨X, 4, none⟩ = some (.int .u32 k3) ∧ w'.cell? ⟨X, 5, none⟩ = some (.int .u8 md) := fun w' k =>
        have hc : ∀ j, w'.cell? ⟨X, j, none⟩ = w1.cell? ⟨X, j, none⟩ := fun j => k.cellKeep (p := ⟨X, j, none⟩) hlX hXo.1 hXo.2.1
        ⟨(hc 1).trans x1, (hc 2).trans x2, (hc 3).trans x3, (hc 4).trans x4, (hc 5).trans x5⟩
      have hkp2 : ∀ w5 w', Two b1 b2 w1.drew w5 → Two RB (v.ownBlock.getD RB) w5 w' → w'.cell? ⟨X, 1, none⟩ = some (.int .u32 tx) ∧ w'.cell? ⟨X, 2, none⟩ = some (.int .u8 k1) ∧ w'.cell? ⟨X, 3, none⟩ = some (.int .u32 k2) ∧ w'.cell? ⟨X, 4, none⟩ = some (.int .u32 k3) ∧ w'.cell? ⟨X, 5, none⟩ = some (.int .u8 md) := fun w5 w' k5 k =>
        have hc : ∀ j, w'.cell? ⟨X, j, none⟩ = w5.cell? ⟨X, j, none⟩ := fun j => k.cellKeep (p := ⟨X, j, none⟩) (Nat.lt_of_lt_of_le hlX k5.size) hXo.2.2.1 hXo.2.2.2
        have h := hkp w5 k5
        ⟨(hc 1).trans h.1, (hc 2).trans h.2.1, (hc 3).trans h.2.2.1, (hc 4).trans h.2.2.2.1, (hc 5).trans h.2.2.2.2⟩
      obtain ⟨bb, hb⟩ : ∃ b, (askT T tx (k1, k2, k3) md).1 = b := ⟨_, rfl⟩
      rw [← hag] at har
      rw [hb] at hak har
      have hbb : (bb == bb) = true := by simp
      replace hkp := Lib.hid hkp
      replace hkp2 := Lib.hid hkp2
      replace har := Lib.hid har
      replace hBa := Lib.hid hBa
      replace B1 := Lib.hid B1
      clear x0 hag hget hlF hsz hb
      go_upto_region 8 with fail
      go_region_held2 (fun w' => w'.cell? ⟨X, 1, none⟩ = some (.int .u32 tx) ∧ w'.cell? ⟨X, 2, none⟩ = some (.int .u8 k1) ∧ w'.cell? ⟨X, 3, none⟩ = some (.int .u32 k2) ∧ w'.cell? ⟨X, 4, none⟩ = some (.int .u32 k3) ∧ w'.cell? ⟨X, 5, none⟩ = some (.int .u8 md))
        (first | exact ⟨x1, x2, x3, x4, x5⟩ | exact k6 | exact k5 | go_keep)
        (first
          | (go_at_call 25; refine hak.mono ?_; rintro e w5 ⟨f5, rfl, S5, t5⟩; have k5 := hkp.out w5 t5; have r5 := har.out w5 t5; replace S5 := Lib.hid S5; replace t5 := Lib.hid t5)
          | (go_at_call 57; refine r5.mono ?_; rintro e w6 ⟨rfl, Q6, t6⟩; have k6 := hkp2.out w5 w6 t5.out t6; replace Q6 := Lib.hid Q6; replace t6 := Lib.hid t6))
      have hF : Both w6 R TB b1 b2 RB (n + 1) ∧ RowKit.Below R w w6 := by
        refine ⟨hBa.out w5 w6 f5 t5.out S5.out Q6.out t6.out, hB1.out.trans ?_⟩
        have d : RowKit.Below R w1 w1.drew := (RowKit.Below.refl w1.heap.size w1).drew.mono hR1
        exact d.trans ((t5.out.below h1 h2 hR1).trans (t6.out.below h3 ho2 (Nat.le_trans hR1 t5.out.size)))
      replace hF := Lib.hid hF
      clear S5 t5 Q6 t6 k5 k6 r5 hak
      go_wp2
      go_ret
      exact ⟨by simp, hF.out⟩
end Go.Proofs.Ytilknhackmccpaa

set_option linter.unusedVariables false
set_option linter.unusedSimpArgs false
namespace Go.Proofs.Ytilknhackmccpaa
open Go.RowKit Go.Sort Go.Lib Go.Maps

set_option maxRecDepth 100000 in
set_option maxHeartbeats 16000000 in
theorem lockDoes_walk (W : World) (l : List Lop) (v : Value) (hv : LopsIn W v l) :
    Calls Try.prog 13 #[v] W fun e w' => e = .returned (.bool true) ∧ RowKit.Below W.heap.size W w' := by
  obtain ⟨a, cap, rfl, hok, -⟩ := id hv
  obtain ⟨n, hn⟩ : ∃ n, l.length = n := ⟨_, rfl⟩
  obtain ⟨R, hR⟩ : ∃ R, W.heap.size = R := ⟨_, rfl⟩
  have hkn := known_l W
  have hV : Hid (LopsIn W (.slice a n cap) l) := Lib.hid (hn ▸ hv)
  rw [hR] at hkn ⊢
  have hO := Lib.hid hok
  rw [hn]
  clear hv hok
  by_cases h60 : 60 < n
  · have h60i : (60 : Int) < (n : Int) := by omega
    go_enter Try.func13, Try.ntmps13
    go_wp2_with (go_at_call 22; refine hkn.mono ?_; rintro e w2 ⟨rfl, b2⟩)
    go_ret
    exact ⟨rfl, b2⟩
  · have h60i : ¬ (60 : Int) < (n : Int) := by omega
    have hnn : n ≤ 60 := by omega
    go_enter Try.func13, Try.ntmps13
    go_upto_region 3 with (go_at_call 22; refine hkn.mono ?_; rintro e w2 ⟨rfl, b2⟩)
    have l2 : R ≤ w2.heap.size := by rw [← hR]; exact b2.size
    go_upto_region 4 with (go_at_call 23; refine (new_u _).mono ?_; rintro e w3 ⟨TB, b1, b2', rfl, hb1, hb2, S3, B3⟩)
    have l3 : R ≤ w3.heap.size := Nat.le_trans l2 B3.size
    go_upto_region 5 with (go_at_call 32; refine (newR_u _).mono ?_; rintro e w4 ⟨RB, rfl, hrb, Q4, B4⟩)
    have hlo : R ≤ b1 ∧ R ≤ b2' ∧ R ≤ RB := by omega
    have HB0 : Hid (Both w4 R TB b1 b2' RB (2 * 0)) := Lib.hid ⟨_, _, _, _, _, BothAt.none (S3.below B4 (Nat.le_refl _)) Q4⟩
    have hB0 : Hid (RowKit.Below R W w4) := Lib.hid ((b2.trans (B3.mono l2)).trans (B4.mono l3))
    clear S3 B3 Q4 B4 hb1 hb2 hrb b2 l2 l3 hkn
    go_wp2
    go_loopw [5] (fun v5 wr => ∃ i : Nat, v5 = .int .i64 i ∧ i ≤ n ∧ Hid (Both wr R TB b1 b2' RB (2 * i)) ∧ Hid (RowKit.Below R W wr)) (fun v5 _ => n - (intOf v5).toNat)
    case atStart => exact ⟨0, rfl, Nat.zero_le _, HB0, hB0⟩
    case round =>
      clear HB0 hB0
      obtain ⟨i, rfl, hi, HB, hB⟩ := hrel
      have hRw : R ≤ wr.heap.size := by have := hB.out.size; omega
      by_cases hin : i < n
      · have hii : (i : Int) < (n : Int) := by omega
        obtain ⟨o, ho⟩ : ∃ o, l[i]? = some o := ⟨_, List.getElem?_eq_getElem (by omega)⟩
        obtain ⟨eb, off, rfl, hlt, c0, c1, c2, c3, c4, c5⟩ := lop_cells hV.out ho
        have hoo := hO.out o (List.mem_of_getElem? ho)
        have hdo := does_u HB.out (by omega) hlo.1 hlo.2.1 hlo.2.2 hRw o hoo
        obtain ⟨kd, tx, ⟨k1, k2, k3⟩, md⟩ := o
        simp only at c0 c1 c2 c3 c4 c5 hdo
        have lE : eb < R := by omega
        have hkp : Hid (∀ w', RowKit.Below R W w' → w'.cell? ⟨eb, off + i * 6, none⟩ = some (.int .u8 kd) ∧ w'.cell? ⟨eb, off + i * 6 + 1, none⟩ = some (.int .u32 tx) ∧ w'.cell? ⟨eb, off + i * 6 + 2, none⟩ = some (.int .u8 k1) ∧ w'.cell? ⟨eb, off + i * 6 + 3, none⟩ = some (.int .u32 k2) ∧ w'.cell? ⟨eb, off + i * 6 + 4, none⟩ = some (.int .u32 k3) ∧ w'.cell? ⟨eb, off + i * 6 + 5, none⟩ = some (.int .u8 md)) := Lib.hid fun w' b =>
          ⟨(b.cell (p := ⟨eb, off + i * 6, none⟩) lE).trans c0, (b.cell (p := ⟨eb, off + i * 6 + 1, none⟩) lE).trans c1, (b.cell (p := ⟨eb, off + i * 6 + 2, none⟩) lE).trans c2, (b.cell (p := ⟨eb, off + i * 6 + 3, none⟩) lE).trans c3, (b.cell (p := ⟨eb, off + i * 6 + 4, none⟩) lE).trans c4, (b.cell (p := ⟨eb, off + i * 6 + 5, none⟩) lE).trans c5⟩
        obtain ⟨d0, d1, d2, d3, d4, d5⟩ := hkp.out _ hB.out
        have htx := Lib.hid hoo.txn
        clear c0 c1 c2 c3 c4 c5 hoo ho HB
        go_upto_region 11 with (go_at_call 33; refine hdo.mono ?_; rintro e w5 ⟨rfl, HB5, b5⟩)
        have B5 := Lib.hid (hB.out.trans b5)
        have hR5 : R ≤ w5.heap.size := by have := B5.out.size; omega
        clear d0 d1 d2 d3 d4 d5 hdo b5 hB
        obtain ⟨T, L, f, v, P, H5⟩ := HB5
        have hEt := edges_u H5.tab H5.inv H5.fit (by omega)
        obtain ⟨he, hel⟩ := H5.edges
        have hel2 : (rEdges L).length ≤ 22500 := Nat.le_trans hel (show (2 * i + 1) * (2 * i + 1) ≤ 150 * 150 from Nat.mul_le_mul (by omega) (by omega))
        have hEr := fun (wx : World) (b : RowKit.Below w5.heap.size w5 wx) => edges_r (H5.ref.below b (Nat.le_refl _)) (2 * i + 1) (by have := H5.len; omega) (by omega) H5.size H5.u (by omega)
        rw [he] at hEt
        obtain ⟨E, hE⟩ : ∃ e, rEdges L = e := ⟨_, rfl⟩
        rw [hE] at hEt hEr hel2
        obtain ⟨ne, hne⟩ : ∃ m, E.length = m := ⟨_, rfl⟩
        rw [hne] at hel2
        replace hEr := Lib.hid hEr
        replace hne := Lib.hid hne
        replace H5 := Lib.hid H5
        clear he hel hE
        go_upto_region 12 with (first
          | (go_at_call 31; refine hEt.mono ?_; rintro e w6 ⟨v6, rfl, O6, b6⟩; have r6 := hEr.out w6 b6; obtain ⟨a6, c6, rfl, E6⟩ := O6.edg; rw [hne.out]; replace E6 := Lib.hid E6; replace b6 := Lib.hid b6; clear O6)
          | (go_at_call 34; refine r6.mono ?_; rintro e w7 ⟨v7, rfl, O7, b7⟩; have b57 := Lib.hid (b6.out.trans (b7.mono b6.out.size)); have E67 := Lib.hid (E6.out.keep b7 (Nat.le_refl _)); obtain ⟨a7, c7, rfl, E7⟩ := O7.edg; rw [hne.out]; replace E7 := Lib.hid E7; clear O7 b7)
          | (go_at_call 20; refine (sameE_u a6 a7 ne c6 c7 E w7 E67.out E7.out hne.out (by omega)).mono ?_; rintro e w8 ⟨rfl, q, rfl⟩))
        have hq7 : RowKit.Below w7.heap.size w7 (w7.drewN q) := by have := RowKit.Below.refl w7.heap.size w7; exact ⟨this.os, this.tape, this.output, this.size, this.block⟩
        have b58 := b57.out.trans (hq7.mono b57.out.size)
        have H8 : Both (w7.drewN q) R TB b1 b2' RB (2 * i + 1) := ⟨_, _, _, _, _, H5.out.below b58⟩
        have B8 := Lib.hid (B5.out.trans (b58.mono hR5))
        obtain ⟨w8, hw8⟩ : ∃ x, w7.drewN q = x := ⟨_, rfl⟩
        rw [hw8] at H8 B8 ⊢
        have hR8 : R ≤ w8.heap.size := by have := B8.out.size; omega
        have hdo := does_u H8 (by omega) hlo.1 hlo.2.1 hlo.2.2 hR8 ⟨5, tx, (0, 0, 0), 0⟩ ⟨by simp, htx.out, by unfold KyOk; simp⟩
        simp only at hdo
        have d1 := (hkp.out _ B8.out).2.1
        clear hq7 b58 hw8 E6 E7 E67 b6 b57 H5 H8 hEt hEr r6
        go_wp2_with (go_at_call 33; refine hdo.mono ?_; rintro e w9 ⟨rfl, HB9, b9⟩)
        have B9 := Lib.hid (B8.out.trans b9)
        have H9 : Hid (Both w9 R TB b1 b2' RB (2 * (i + 1))) := Lib.hid HB9
        clear HB9 b9 hdo
        go_roundw
        case rel => exact ⟨i + 1, by go_num, by omega, H9, B9⟩
        case measure => simp [intOf]; omega
      · obtain rfl : i = n := by omega
        go_wp2
        go_ret
        exact ⟨rfl, hB.out⟩
end Go.Proofs.Ytilknhackmccpaa
