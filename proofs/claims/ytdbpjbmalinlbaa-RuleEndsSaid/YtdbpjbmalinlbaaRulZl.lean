/- The walk of RuleEnds. -/
import Derived.Test.YtdbpjbmalinlbaaRulZj
import Derived.Deep.DeepAppendWide
import Derived.Laws.AppendOwnNone
import Derived.Deep.RegionHeld2
namespace Go.Proofs.Ytdbpjbmalinlbaa
open Go.RowKit

theorem run_append_empty {P : Program} {w : World} (base : Nat) (t ty e : TypeId) (i : TypeInfo) (size : Nat) (ht : P.underlying t = some (.slice e)) (hi : P.info? e = some i)
    (v : Value) (n : Nat) (xs : List Value) (hown : w.ownsRow base e size v n xs) (ad : Option Addr) (c : Nat) :
    (Builtin.append_ #[t, t] ty #[v, .slice ad 0 c]).run P w = .ok v w := by
  rcases hown.2 with ⟨rfl, rfl⟩ | ⟨g, cap, cur, rfl, _, _, hnc, _⟩
  · cases ad <;> simp [Builtin.append_, run_underlying ht, sizeOf, typeInfo, hi, Builtin.lenOf, Builtin.firstCells, loadCells, loadCellsFrom]
  · cases ad <;> simp [Builtin.append_, run_underlying ht, sizeOf, typeInfo, hi, Builtin.lenOf, Builtin.firstCells, hnc, storeCells, loadCells, loadCellsFrom]
theorem wpList_append_empty {P : Program} {w : World} {ops : Array Oper} {rest : List Oper} {o : Oper} {a : Act} {Q : Exit → Act → World → Prop} (hgd : o.guard = none) (s x : Operand) (t : TypeId)
    (ho : o.op = .call { callee := .builtin .append, args := #[s, x], argTypes := #[t, t] })
    (base : Nat) (e : TypeId) (i : TypeInfo) (size : Nat) (ht : P.underlying t = some (.slice e)) (hi : P.info? e = some i)
    (v : Value) (n : Nat) (xs : List Value) (hs : a.eval s = v) (hown : w.ownsRow base e size v n xs) (ad : Option Addr) (c : Nat) (hx : a.eval x = .slice ad 0 c)
    (h : wpList P ops Q rest (a.put o.dst v) w) : wpList P ops Q (o :: rest) a w := by
  refine wpList_plain hgd fun K hK => ?_
  have hrun := run_append_empty (P := P) (w := w) base t o.type e i size ht hi v n xs hown ad c
  unfold Oper.wp
  simp [execOp, ho, resolve, invoke, builtin, hs, hx, hrun, Result.andThen]
  exact hK _ _ h
theorem celCells_append (l m : List Cel) : celCells (l ++ m) = celCells l ++ celCells m := by simp [celCells]
theorem celCells_length (l : List Cel) : (celCells l).length = l.length * 6 := by
  induction l with
  | nil => rfl
  | cons q l ih =>
    have hc : celCells (q :: l) = celRow q ++ celCells l := rfl
    rw [hc, List.length_append, ih]
    simp [celRow]; omega
theorem celCells_one (l : List Cel) : ∀ u ∈ celCells l, u.oneCell' = true := by
  intro u hu
  simp only [celCells, List.mem_flatMap] at hu
  obtain ⟨c, _, hc⟩ := hu
  simp only [celRow, List.mem_cons, List.not_mem_nil, or_false] at hc
  rcases hc with rfl | rfl | rfl | rfl | rfl | rfl <;> rfl

/-- Cells that lie somewhere are appended to a row of one's own. -/
theorem wpList_append_cels {w : World} {ops : Array Oper} {rest : List Oper} {o : Oper} {a : Act} {Q : Exit → Act → World → Prop} (hgd : o.guard = none) (s x : Operand)
    (ho : o.op = .call { callee := .builtin .append, args := #[s, x], argTypes := #[33, 33] })
    (base : Nat) (v : Value) (cs : List Cel) (hs : a.eval s = v) (hown : w.ownsRow base 49 6 v cs.length (celCells cs)) (xv : Value) (ds : List Cel) (hx : a.eval x = xv) (hseen : SeenAt w.heap.size w xv ds)
    (hl : cs.length + ds.length ≤ 1000) (hb : base ≤ w.heap.size)
    (h : ∀ v' w', w'.ownsRow base 49 6 v' (cs ++ ds).length (celCells (cs ++ ds)) → w.grownBy w' v.ownBlock → wpList Try.prog ops Q rest (a.put o.dst v') w') : wpList Try.prog ops Q (o :: rest) a w := by
  obtain ⟨ic, hic, cy0, cy1, cy2⟩ := info_parts Try.infoCel
  obtain ⟨xa, xc, rfl, hxc, hcl⟩ := hseen
  by_cases h0 : ds = []
  · subst h0
    refine wpList_append_empty hgd s x _ ho base _ ic 6 Try.underlying33 hic v cs.length _ hs hown xa xc hx ?_
    have := h v w (by simpa using hown) ⟨rfl, rfl, rfl, Nat.le_refl _, fun _ _ _ => rfl⟩
    exact this
  · rcases hcl with h1 | ⟨b, off, rfl, hbl, hcl⟩
    · exact absurd h1 h0
    · refine wpList_append_own_wide w hgd s x _ ho base _ ic _ 6 40 Try.underlying33 hic cy0 cy1 cy2 rfl (by omega) v cs.length _ hs hown ⟨b, off, none⟩ ds.length xc (celCells ds) hx (celCells_length ds) ?_ (celCells_one ds)
        (by unfold maxLen; omega) (by omega) hb ?_
      · intro j u hj
        have hj6 : j < ds.length * 6 := by rw [← celCells_length]; exact (List.getElem?_eq_some_iff.1 hj).1
        obtain ⟨q, hq⟩ : ∃ q, ds[j / 6]? = some q := ⟨_, List.getElem?_eq_getElem (by omega)⟩
        have e := celCells_at (j / 6) q (j % 6) hq (by omega)
        have ej : j / 6 * 6 + j % 6 = j := by omega
        rw [ej, hj] at e
        have := hcl (j / 6) q hq (j % 6) u e.symm
        rw [Addr.add_lit]
        rw [Nat.add_assoc, ej] at this
        exact this
      · intro v' w' h2 h3 _
        rw [← List.length_append, ← celCells_append] at h2
        exact h v' w' h2 h3

theorem below_grown {w w' : World} {row : Option Nat} {base : Nat} (hg : w.grownBy w' row) (hb : base ≤ w.heap.size) (hr : ∀ b, row = some b → base ≤ b) : Below base w w' :=
  ⟨hg.os, hg.tape, hg.output, hg.size, fun b hlt => hg.block b (by omega) (fun e => by have := hr b e.symm; omega)⟩
theorem reply_cells {w : World} {B : Nat} {a b c d : Value} {ty : TypeId} {fr : Nat × Nat} (h : w.heap[B]? = some (.cells #[a, b, c, d] ty fr)) :
    w.cell? ⟨B, 0, none⟩ = some a ∧ w.cell? ⟨B, 1, none⟩ = some b ∧ w.cell? ⟨B, 2, none⟩ = some c ∧ w.cell? ⟨B, 3, none⟩ = some d := by
  refine ⟨?_, ?_, ?_, ?_⟩ <;> rw [cell_of_row w B _ _ ty fr h] <;> rfl
/-- A box of four cells is written over. -/
theorem fill4 {wr : World} {B : Nat} {a b c d : Value} {ty : TypeId} (h : wr.heap[B]? = some (.cells #[a, b, c, d] ty)) (a' b' c' d' : Value) :
    ((((wr.setCell ⟨B, 0, none⟩ a').setCell ⟨B, 1, none⟩ b').setCell ⟨B, 2, none⟩ c').setCell ⟨B, 3, none⟩ d').heap[B]? = some (.cells #[a', b', c', d'] ty) := by
  simp [World.setCell, Array.getElem?_modify, h]
theorem do_err {o : OpV} {cs : List Cel} (ho : OpOk o) (h : (doR ((runT o).run cs)).2.err ≠ 0) : (doR ((runT o).run cs)).1 = [] := by
  cases hr : (runT o).run cs with
  | ok a s =>
    have := (Fine.ok (V := Vb False) (Q := Lf False) (fine_run ho) (fun _ _ hB => hB.elim) hr).1
    rw [hr] at h
    exact absurd this h
  | need k => rfl
  | over c => rfl
/-- Fewer look-ups are not enough. -/
theorem do_short {o : OpV} {cs : List Cel} {g c base j : Nat} {k : Ky} {w : World} (ho : OpOk o) (hcv : ∀ q ∈ cs, VlOk q.v) (hrow : w.ownsRow base 49 6 (.slice (some ⟨g, 0, none⟩) cs.length c) cs.length (celCells cs)) (hl : cs.length ≤ 40) (hj : j ≤ cs.length) (hr : (runT o).run (cs.take j) = .need k) :
    Calls Try.prog 29 #[opV o, .slice (some ⟨g, 0, none⟩) j c] w fun e w' => ∃ a cap, e = .returned (.tuple #[.slice a 0 cap, .agg #[.int .u16 1, .int .u64 0, .int .u64 0, .int .u64 0]]) ∧ Below w.heap.size w w' := by
  obtain ⟨a', c', hv, hcap, hcl⟩ := seen_of_owns hrow
  simp only [Value.slice.injEq, true_and] at hv
  obtain ⟨rfl, rfl⟩ := hv
  have hlen : (cs.take j).length = j := by simp; omega
  have hseen : SeenAt w.heap.size w (.slice (some ⟨g, 0, none⟩) j c) (cs.take j) := by
    refine ⟨_, c, by rw [hlen], by omega, ?_⟩
    rcases hcl with rfl | ⟨b, off, e, hb, hcl⟩
    · exact .inl (by simp)
    · refine .inr ⟨b, off, e, hb, fun i q hi => hcl i q ?_⟩
      rw [List.getElem?_take] at hi
      split at hi
      · exact hi
      · cases hi
  refine (do_any hseen (by omega) ho (fun q hq => hcv q (List.mem_of_mem_take hq)) (run_any o)).mono ?_
  rintro e w' ⟨B, v, rfl, hown⟩
  rw [hr] at hown ⊢
  rcases hown.2 with ⟨rfl, _⟩ | ⟨g, cap, cur, rfl, _⟩
  · exact ⟨none, 0, rfl, B⟩
  · exact ⟨_, cap, rfl, B⟩

set_option maxRecDepth 100000 in
set_option maxHeartbeats 4000000 in
theorem ruleEnds_walk (w : World) (o : OpV) (ho : OpOk o) (s : List Cel) (sv : Value) (hs : SeenIn w sv s) (m : List Cel) (mv : Value) (hm : SeenIn w mv m) :
    Calls Try.prog 4 #[.agg #[.int .u8 o.kind, .int .u32 o.who, .int .u32 o.whom, .int .u32 o.what, .int .u32 o.id, .int .u64 o.n, .int .u64 o.price], sv, mv] w fun e w' => e = .returned (.bool true) ∧ Below w.heap.size w w' := by
  obtain ⟨a, cap, rfl, hq1, hq2⟩ := id hs.1
  obtain ⟨a2, cap2, rfl, hq3, hq4⟩ := id hm.1
  clear hq1 hq2 hq3 hq4
  obtain ⟨h1, h2, h3, h4, h5, h6, h7⟩ := id ho
  have HS := Lib.hid hs
  have HM := Lib.hid hm
  have HO := Lib.hid ho
  clear hs hm ho
  by_cases hl : (40 : Int) < (s.length : Int)
  · go_enter Try.func4, Try.ntmps4
    go_wp2_with (go_at_call 25; refine (ruleKnown_any _).mono ?_; rintro e w1 ⟨rfl, B1⟩)
    go_ret
    exact ⟨rfl, below_trans (below_alloc _ _) B1⟩
  by_cases hl2 : (40 : Int) < (m.length : Int)
  · go_enter Try.func4, Try.ntmps4
    go_wp2_with (go_at_call 25; refine (ruleKnown_any _).mono ?_; rintro e w1 ⟨rfl, B1⟩)
    go_ret
    exact ⟨rfl, below_trans (below_alloc _ _) B1⟩
  have hl' : s.length ≤ 40 := by omega
  have hl2' : m.length ≤ 40 := by omega
  go_enter Try.func4, Try.ntmps4
  go_upto_region 3 with (go_at_call 25; refine (ruleKnown_any _).mono ?_; rintro e w1 ⟨rfl, B1⟩)
  have L0 : LookSt w o w.heap.size (.slice none 0 0) (.slice none 0 0) [] [] (w.alloc (.cells #[.int .u8 o.kind, .int .u32 o.who, .int .u32 o.whom, .int .u32 o.what, .int .u32 o.id, .int .u64 o.n, .int .u64 o.price] 32)) :=
    ⟨below_alloc w _, heap_alloc_new w _, ⟨rfl, .inl ⟨rfl, rfl⟩⟩, ⟨rfl, .inl ⟨rfl, rfl⟩⟩, by simp [Value.ownBlock]⟩
  have L := L0.step B1
  clear L0 B1
  have HKn := look_any o HO.out s (.slice a s.length cap) w1 (HS.out.below L.below)
  obtain ⟨c0, c1, c2, c3, c4, c5, c6⟩ := L.cells
  have hlo := L.lt
  go_upto_region 6 with (go_at_call 28; refine HKn.mono ?_; rintro e w2 ⟨B2, a7, c7, u8, ks, cs, rfl, hrow, hk, hr⟩)
  have L2 := L.step B2
  clear HKn L c0 c1 c2 c3 c4 c5 c6 hlo B2
  obtain ⟨c0, c1, c2, c3, c4, c5, c6⟩ := L2.cells
  have hlo := L2.lt
  have hcs := hk.short HO.out
  have hks : ks.length ≤ 12 := by have := hk.1; omega
  have hcv : Hid (∀ c ∈ cs, VlOk c.v) := Lib.hid (fun c hc => (hk.2.2 c hc).1)
  have hD := do_any (t := runT o) (seen_of_owns hrow) (by omega) HO.out hcv.out (run_any o)
  have hE := do_err (cs := cs) HO.out
  have hApp := do_app (runT o) cs m hr
  replace hk := Lib.hid hk.2.1
  clear hr
  obtain ⟨D, hDD⟩ : ∃ D, D = doR ((runT o).run cs) := ⟨_, rfl⟩
  rw [← hDD] at hD hE hApp
  obtain ⟨l, ⟨re, ra, rb, rc⟩⟩ := D
  clear hDD
  dsimp only at hD hE
  replace hE := Lib.hid hE
  replace hApp := Lib.hid hApp
  obtain ⟨a8, c8, rfl⟩ := owns_shape hrow
  go_upto_region 8 with (go_at_call 29; refine hD.mono ?_; rintro e w3 ⟨B3, v, rfl, hput⟩)
  have yb := heap_alloc_new w3 (.cells #[.int .u16 re, .int .u64 ra, .int .u64 rb, .int .u64 rc] 41)
  have BW := below_trans B3 (below_alloc w3 (.cells #[.int .u16 re, .int .u64 ra, .int .u64 rb, .int .u64 rc] 41))
  replace hput := hput.alloc (.cells #[.int .u16 re, .int .u64 ra, .int .u64 rb, .int .u64 rc] 41)
  obtain ⟨RB, hRB⟩ : ∃ b, b = w3.heap.size := ⟨_, rfl⟩
  obtain ⟨w4, hw4⟩ : ∃ v, v = w3.alloc (.cells #[.int .u16 re, .int .u64 ra, .int .u64 rb, .int .u64 rc] 41) := ⟨_, rfl⟩
  rw [← hw4] at yb BW hput ⊢
  rw [← hRB] at yb ⊢
  clear hw4 hRB hD B3
  have L4 := L2.step BW
  replace hrow := owns_below hrow BW
  clear L2 BW c0 c1 c2 c3 c4 c5 c6 hlo
  go_upto_region 10 with (first
    | (refine wpList_append_cels (by rfl) _ _ (by rfl) w4.heap.size (.slice none 0 0) [] (by rfl) ⟨rfl, .inl ⟨rfl, rfl⟩⟩ (.slice a8 cs.length c8) cs (by rfl) (seen_of_owns hrow) (by simp; omega) (Nat.le_refl _) ?_
       intro v5 w5 hown5 hgrow5
       have B5 := below_grown (base := w4.heap.size) hgrow5 (Nat.le_refl _) (by intro b hb; simp [Value.ownBlock] at hb)
       rw [List.nil_append] at hown5)
    | (refine wpList_append_cels (by rfl) _ _ (by rfl) w4.heap.size v5 cs (by rfl) hown5 (.slice a2 m.length cap2) m (by rfl) (HM.out.below (below_trans L4.below B5)).1 (by omega) B5.size ?_
       intro v6 w6 hown6 hgrow6
       have B6 := B5.trans (below_grown (base := w4.heap.size) hgrow6 B5.size (fun b hb => (owns_lt hown5 hb).1))))
  have L6 := L4.step B6
  replace yb := (B6.block _ (Array.getElem?_eq_some_iff.1 yb).1).trans yb
  replace hput := owns_below hput B6
  replace hrow := owns_below hrow B6
  clear L4 B5 B6 hown5 hgrow5 hgrow6
  have hD := do_any (t := runT o) (seen_of_owns hown6) (by simp; omega) HO.out (fun c hc => (List.mem_append.1 hc).elim (hcv.out c) (HM.out.2 c)) (run_any o)
  rw [hApp.out] at hD
  dsimp only at hD
  clear hown6 hApp
  obtain ⟨c0, c1, c2, c3, c4, c5, c6⟩ := L6.cells
  have hlo := L6.lt
  go_upto_region 11 with (go_at_call 29; refine hD.mono ?_; rintro e w7 ⟨B7, v7, rfl, hput7⟩)
  have zb := heap_alloc_new w7 (.cells #[.int .u16 re, .int .u64 ra, .int .u64 rb, .int .u64 rc] 41)
  have BW := below_trans B7 (below_alloc w7 (.cells #[.int .u16 re, .int .u64 ra, .int .u64 rb, .int .u64 rc] 41))
  replace hput7 := hput7.alloc (.cells #[.int .u16 re, .int .u64 ra, .int .u64 rb, .int .u64 rc] 41)
  obtain ⟨ZB, hZB⟩ : ∃ b, b = w7.heap.size := ⟨_, rfl⟩
  obtain ⟨w8, hw8⟩ : ∃ v, v = w7.alloc (.cells #[.int .u16 re, .int .u64 ra, .int .u64 rb, .int .u64 rc] 41) := ⟨_, rfl⟩
  rw [← hw8] at zb BW hput7 ⊢
  rw [← hZB] at zb ⊢
  clear hw8 hZB hD B7
  have L8 := L6.step BW
  replace yb := (BW.block _ (Array.getElem?_eq_some_iff.1 yb).1).trans yb
  replace hput := owns_below hput BW
  replace hrow := owns_below hrow BW
  clear L6 BW c0 c1 c2 c3 c4 c5 c6 hlo
  have hS := same_any l v v7 _ _ w8 hput hput7
  obtain ⟨al, cl, rfl⟩ := owns_shape hput
  clear hput hput7
  go_cut [81] (fun s81 wx => s81 = .bool false ∧ Hid (Below w8.heap.size w8 wx))
  case first =>
    have ly := (Array.getElem?_eq_some_iff.1 yb).1
    have lz := (Array.getElem?_eq_some_iff.1 zb).1
    replace yb := Lib.hid yb
    replace zb := Lib.hid zb
    by_cases he : re = 0
    · subst he
      go_wp2_with (go_at_call 30; refine hS.mono ?_; rintro e w9 ⟨rfl, B9⟩; obtain ⟨y0, y1, y2, y3⟩ := reply_cells ((B9.block _ ly).trans yb.out); obtain ⟨z0, z1, z2, z3⟩ := reply_cells ((B9.block _ lz).trans zb.out))
      go_meet
      exact ⟨by simp; omega, Lib.hid B9⟩
    · have hne : (re == 0) = false := by simp [he]
      have hl0 := hE.out he
      subst hl0
      rw [List.length_nil] at hS
      go_wp2_with (go_at_call 30; refine hS.mono ?_; rintro e w9 ⟨rfl, B9⟩; obtain ⟨y0, y1, y2, y3⟩ := reply_cells ((B9.block _ ly).trans yb.out); obtain ⟨z0, z1, z2, z3⟩ := reply_cells ((B9.block _ lz).trans zb.out))
      go_meet
      exact ⟨by simp; omega, Lib.hid B9⟩
  case rest =>
  obtain ⟨rfl, B9⟩ := hcut
  have L9 := L8.step B9.out
  replace hrow := owns_below hrow B9.out
  clear L8 B9 hS yb zb hE
  obtain ⟨wL, hwL⟩ : ∃ v, v = wc := ⟨_, rfl⟩
  rw [← hwL] at L9 hrow ⊢
  clear hwL
  go_wp2_with fail
  go_loopw [15] (fun i wr => ∃ j : Nat, j ≤ cs.length ∧ i = .int .i64 (j : Int) ∧ Hid (Below wL.heap.size wL wr)) (fun i _ => cs.length - (intOf i).toNat)
  case atStart => exact ⟨0, Nat.zero_le _, rfl, Lib.hid (Below.refl _ _)⟩
  case round =>
    obtain ⟨j, hj, rfl, B⟩ := hrel
    by_cases hjl : j < cs.length
    · obtain ⟨g, rfl⟩ := owns_row hrow (by omega)
      have Lr := L9.step B.out
      obtain ⟨c0, c1, c2, c3, c4, c5, c6⟩ := Lr.cells
      have hlo := Lr.lt
      have hl1 : (j : Int) < (cs.length : Int) := by omega
      obtain ⟨k, hkj⟩ := hk.out j hjl
      have HD : ∀ W, Below wL.heap.size wL W → Calls Try.prog 29 #[opV o, .slice (some ⟨g, 0, none⟩) j c8] W fun e w' => ∃ a cap, e = .returned (.tuple #[.slice a 0 cap, .agg #[.int .u16 1, .int .u64 0, .int .u64 0, .int .u64 0]]) ∧ Below W.heap.size W w' :=
        fun W BW => do_short HO.out hcv.out (owns_below hrow BW) (by omega) (by omega) hkj
      clear hkj
      have hcap : (cs.length : Int) ≤ (c8 : Int) := by
        rcases hrow.2 with ⟨h, _⟩ | ⟨_, _, _, h, _, _, h2, _⟩
        · simp at h
        · simp at h; omega
      go_upto_region 16 with fail
      go_cut [16, 17] (fun s16 s17 wx => ∃ a c PB, s16 = .slice a 0 c ∧ s17 = .pointer (some ⟨PB, 0, none⟩) ∧ Hid (wx.heap[PB]? = some (.cells #[.int .u16 1, .int .u64 0, .int .u64 0, .int .u64 0] 41)) ∧ Hid (Below wL.heap.size wL wx))
      case first =>
        have Bd := B.out.drew
        have hjc : (j : Int) ≤ (c8 : Int) := by omega
        have hjc2 : j ≤ c8 := by omega
        have Ld := L9.step Bd
        have Be := (B.out.alloc B.out.size (.cells #[.int .u16 0, .int .u64 0, .int .u64 0, .int .u64 0] 41)).drew
        have hN : (wr.alloc (.cells #[.int .u16 0, .int .u64 0, .int .u64 0, .int .u64 0] 41)).drew.heap[wr.heap.size]? = _ := heap_alloc_new wr (.cells #[.int .u16 0, .int .u64 0, .int .u64 0, .int .u64 0] 41)
        have hNL : wL.heap.size ≤ wr.heap.size := B.out.size
        go_region_held2 (fun w' => w'.cell? ⟨w.heap.size, 0, none⟩ = some (.int .u8 o.kind) ∧ w'.cell? ⟨w.heap.size, 1, none⟩ = some (.int .u32 o.who) ∧ w'.cell? ⟨w.heap.size, 2, none⟩ = some (.int .u32 o.whom) ∧ w'.cell? ⟨w.heap.size, 3, none⟩ = some (.int .u32 o.what) ∧ w'.cell? ⟨w.heap.size, 4, none⟩ = some (.int .u32 o.id) ∧ w'.cell? ⟨w.heap.size, 5, none⟩ = some (.int .u64 o.n) ∧ w'.cell? ⟨w.heap.size, 6, none⟩ = some (.int .u64 o.price))
          (first | with_reducible exact Ld.cells | with_reducible exact (L9.step Be).cells | with_reducible exact (L9.step B4).cells | exact (L9.step (B4.alloc B4.size _)).cells | exact (L9.step ((((B4.setCell (p := ⟨wr.heap.size, 0, none⟩) hNL _).setCell (p := ⟨wr.heap.size, 1, none⟩) hNL _).setCell (p := ⟨wr.heap.size, 2, none⟩) hNL _).setCell (p := ⟨wr.heap.size, 3, none⟩) hNL _)).cells | go_keep)
          (first
            | (go_at_call 29
               refine (HD _ (by with_reducible exact Bd)).mono ?_
               rintro e w3 ⟨a', cap', rfl, B3⟩
               have B4 := Bd.trans (B3.mono Bd.size))
            | (go_at_call 29
               refine (HD _ (by with_reducible exact Be)).mono ?_
               rintro e w3 ⟨a', cap', rfl, B3⟩
               have B4 := Be.trans (B3.mono Be.size)
               have pb := (B3.block _ (Array.getElem?_eq_some_iff.1 hN).1).trans hN
               obtain ⟨y0, y1, y2, y3⟩ := reply_cells pb
               have g0 := frozen_of_heap pb 0
               have g1 := frozen_of_heap pb 1
               have g2 := frozen_of_heap pb 2
               have g3 := frozen_of_heap pb 3))
        all_goals (
          go_wp2_with fail
          go_meet
          first
            | exact ⟨_, _, _, rfl, rfl, Lib.hid (fill4 pb _ _ _ _), Lib.hid ((((B4.setCell (p := ⟨wr.heap.size, 0, none⟩) hNL _).setCell (p := ⟨wr.heap.size, 1, none⟩) hNL _).setCell (p := ⟨wr.heap.size, 2, none⟩) hNL _).setCell (p := ⟨wr.heap.size, 3, none⟩) hNL _)⟩
            | exact ⟨_, _, _, rfl, rfl, Lib.hid (heap_alloc_new _ _), Lib.hid (B4.alloc B4.size _)⟩)
      case rest =>
      obtain ⟨a', c', PB, rfl, rfl, pb, B3⟩ := hcut
      obtain ⟨y0, y1, y2, y3⟩ := reply_cells pb.out
      go_wp2_with fail
      go_roundw
      case rel => exact ⟨j + 1, by omega, by go_num, B3⟩
      case measure => simp [intOf]; omega
    · obtain rfl : j = cs.length := by omega
      go_wp2_with fail
      go_ret
      exact ⟨rfl, (L9.step B.out).below⟩
end Go.Proofs.Ytdbpjbmalinlbaa
