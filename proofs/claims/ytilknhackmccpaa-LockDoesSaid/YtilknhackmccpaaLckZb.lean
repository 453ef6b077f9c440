/- Package lock: the laws' own functions: run; Package lock: the laws' own functions: mode. -/
import Derived.Test.YtilknhackmccpaaLckW
import Derived.Laws.StructEq
set_option linter.unusedVariables false
set_option linter.unusedSimpArgs false
namespace Go.Proofs.Ytilknhackmccpaa
open Go.RowKit Go.Sort Go.Lib Go.Maps

/-- One operation that is played; all of them. -/
def opT (T : Tb) (o : Lop) : Tb := if o.kind % 6 = 4 then (relT T o.txn).1 else (askT T o.txn o.k o.mode).2
def runT (l : List Lop) : Tb := l.foldl opT noTb
theorem runT_snoc (l : List Lop) (o : Lop) : runT (l ++ [o]) = opT (runT l) o := by simp [runT]
theorem inv_op {T : Tb} (I : Inv T) (o : Lop) : Inv (opT T o) := by
  unfold opT
  split
  · exact (rel_spec I o.txn).inv
  · exact inv_ask I o.txn o.k o.mode
theorem inv_run (l : List Lop) : Inv (runT l) := by
  have key : ∀ (l : List Lop) (T : Tb), Inv T → Inv (l.foldl opT T) := by
    intro l
    induction l with
    | nil => intro T h; exact h
    | cons o r ih => intro T h; exact ih _ (inv_op h o)
  exact key l noTb inv_none
theorem lop_take {l : List Lop} {i : Nat} {o : Lop} (h : l[i]? = some o) : l.take (i + 1) = l.take i ++ [o] := by
  obtain ⟨hi, e⟩ := List.getElem?_eq_some_iff.1 h
  rw [List.take_succ_eq_append_getElem hi, e]
/-- The cells of the i-th operation. -/
theorem lop_cells {w : World} {l : List Lop} {a : Option Addr} {n cap : Nat} (hl : LopsIn w (.slice a n cap) l) {i : Nat} {o : Lop} (h : l[i]? = some o) :
    ∃ eb off, a = some ⟨eb, off, none⟩ ∧ eb < w.heap.size ∧ w.cell? ⟨eb, off + i * 6, none⟩ = some (.int .u8 o.kind) ∧ w.cell? ⟨eb, off + i * 6 + 1, none⟩ = some (.int .u32 o.txn) ∧ w.cell? ⟨eb, off + i * 6 + 2, none⟩ = some (.int .u8 o.k.1) ∧ w.cell? ⟨eb, off + i * 6 + 3, none⟩ = some (.int .u32 o.k.2.1) ∧ w.cell? ⟨eb, off + i * 6 + 4, none⟩ = some (.int .u32 o.k.2.2) ∧ w.cell? ⟨eb, off + i * 6 + 5, none⟩ = some (.int .u8 o.mode) := by
  obtain ⟨a', cap', e, _, hc⟩ := hl
  cases e
  obtain ⟨eb, off, e1, e2, e3⟩ := hc (by rintro rfl; simp at h)
  have := e3 i o h
  exact ⟨eb, off, e1, e2, this 0 _ rfl, this 1 _ rfl, this 2 _ rfl, this 3 _ rfl, this 4 _ rfl, this 5 _ rfl⟩

set_option maxRecDepth 100000 in
set_option maxHeartbeats 16000000 in
theorem run_u (W : World) (l : List Lop) (v : Value) (hv : LopsIn W v l) (hn0 : l.length ≤ 60) :
    Calls Try.prog 27 #[v] W fun e w' => ∃ TB b1 b2 f vw, e = .returned (.tuple #[.pointer (some ⟨TB, 0, none⟩), vw]) ∧ W.heap.size ≤ b1 ∧ W.heap.size ≤ b2 ∧ TabIs w' TB b1 b2 (runT l) f ∧ Fit (runT l) l.length l.length ∧ ReadN w' vw (canon (l.map Lop.txn)) ∧ RowKit.Below W.heap.size W w' := by
  obtain ⟨a, cap, rfl, hok, hcc0⟩ := id hv
  obtain ⟨n, hn⟩ : ∃ n, l.length = n := ⟨_, rfl⟩
  obtain ⟨R, hR⟩ : ∃ R, W.heap.size = R := ⟨_, rfl⟩
  have hvv : LopsIn W (.slice a n cap) l := hn ▸ hv
  have hV := Lib.hid hvv
  have hO := Lib.hid hok
  rw [hR, hn]
  clear hv hok hcc0 hvv
  have hnn : n ≤ 60 := by omega
  go_enter Try.func27, Try.ntmps27
  go_upto_region 4 with (go_at_call 23; refine (new_u _).mono ?_; rintro e w3 ⟨TB, b1, b2, rfl, hb1, hb2, S3, B3⟩)
  have hlo : R ≤ b1 ∧ R ≤ b2 := by omega
  have S4 : Hid (∃ f, TabIs w3 TB b1 b2 (runT (l.take 0)) f ∧ Fit (runT (l.take 0)) 0 0) := Lib.hid ⟨_, S3, fit_none⟩
  have B4 : Hid (RowKit.Below R W w3) := Lib.hid (by rw [← hR]; exact B3)
  have hR0 : Hid (ReadN w3 (.slice none 0 0) (canon ((l.take 0).map Lop.txn))) := Lib.hid ⟨by simp [canon_nil], .inl ⟨rfl, by simp [canon_nil]⟩⟩
  clear S3 B3 hb1 hb2
  go_wp2
  go_loopw [5, 6] (fun v5 v6 wr => ∃ i : Nat, v6 = .int .i64 i ∧ i ≤ n ∧ Hid (ReadN wr v5 (canon ((l.take i).map Lop.txn))) ∧ Hid (∃ f, TabIs wr TB b1 b2 (runT (l.take i)) f ∧ Fit (runT (l.take i)) i i) ∧ Hid (RowKit.Below R W wr)) (fun _ v6 _ => n - (intOf v6).toNat)
  case atStart => exact ⟨0, rfl, Nat.zero_le _, hR0, S4, B4⟩
  case round =>
    clear hR0 S4 B4
    obtain ⟨i, rfl, hi, hRd, hT, hB⟩ := hrel
    by_cases hin : i < n
    · have hii : (i : Int) < (n : Int) := by omega
      obtain ⟨o, ho⟩ : ∃ o, l[i]? = some o := ⟨_, List.getElem?_eq_getElem (by omega)⟩
      obtain ⟨eb, off, rfl, hlt, c0, c1, c2, c3, c4, c5⟩ := lop_cells hV.out ho
      have hoo := hO.out o (List.mem_of_getElem? ho)
      have hsn := lop_take ho
      obtain ⟨⟨kd, tx, ⟨k1, k2, k3⟩, md⟩, hoe⟩ : ∃ o', o = o' := ⟨_, rfl⟩
      subst hoe
      simp only at c0 c1 c2 c3 c4 c5
      have hkd := hoo.kind
      have htx := hoo.txn
      have hkk := Lib.hid hoo.k
      simp only at hkd htx
      have lE : eb < R := by omega
      have hkp : Hid (∀ w', RowKit.Below R W w' → w'.cell? ⟨eb, off + i * 6, none⟩ = some (.int .u8 kd) ∧ w'.cell? ⟨eb, off + i * 6 + 1, none⟩ = some (.int .u32 tx) ∧ w'.cell? ⟨eb, off + i * 6 + 2, none⟩ = some (.int .u8 k1) ∧ w'.cell? ⟨eb, off + i * 6 + 3, none⟩ = some (.int .u32 k2) ∧ w'.cell? ⟨eb, off + i * 6 + 4, none⟩ = some (.int .u32 k3) ∧ w'.cell? ⟨eb, off + i * 6 + 5, none⟩ = some (.int .u8 md)) := Lib.hid fun w' b =>
        ⟨(b.cell (p := ⟨eb, off + i * 6, none⟩) lE).trans c0, (b.cell (p := ⟨eb, off + i * 6 + 1, none⟩) lE).trans c1, (b.cell (p := ⟨eb, off + i * 6 + 2, none⟩) lE).trans c2, (b.cell (p := ⟨eb, off + i * 6 + 3, none⟩) lE).trans c3, (b.cell (p := ⟨eb, off + i * 6 + 4, none⟩) lE).trans c4, (b.cell (p := ⟨eb, off + i * 6 + 5, none⟩) lE).trans c5⟩
      clear c0 c1 c2 c3 c4 c5 hoo
      replace ho := Lib.hid ho
      replace hsn := Lib.hid hsn
      obtain ⟨f, S, Z⟩ := hT.out
      have d0 := (hkp.out _ hB.out).1
      have d1 := (hkp.out _ hB.out).2.1
      clear hT
      have hbw : b1 < wr.heap.size ∧ b2 < wr.heap.size := ⟨S.locks.lt, S.waits.lt⟩
      have hnb : Hid ((∀ cs ty fr, wr.heap[b1]? ≠ some (.cells cs ty fr)) ∧ ∀ cs ty fr, wr.heap[b2]? ≠ some (.cells cs ty fr)) := Lib.hid ⟨S.locks.nocells, S.waits.nocells⟩
      have hRw : R ≤ wr.heap.size := by have := hB.out.size; omega
      obtain ⟨a5, c5, rfl, -⟩ := hRd.out.nums
      obtain ⟨nw, hnw⟩ : ∃ m, (canon ((l.take i).map Lop.txn)).length = m := ⟨_, rfl⟩
      rw [hnw] at hRd ⊢
      have hnwi : nw ≤ i := by
        rw [← hnw]
        exact Nat.le_trans (canon_length _) (by rw [List.length_map, List.length_take]; omega)
      replace hnw := Lib.hid hnw
      go_upto_if 22 with fail
      go_cut [23, 24, 25, 26, 27, 28, 29, 30, 31, 32, 33, 34, 35, 36, 37, 38, 39, 40, 41, 42, 43, 44, 45, 46] (fun _ _ _ _ _ _ _ _ _ _ _ _ _ _ _ _ _ _ _ _ _ _ _ _ wx => Hid (∃ f, TabIs wx TB b1 b2 (runT (l.take (i + 1))) f ∧ Fit (runT (l.take (i + 1))) (i + 1) (i + 1)) ∧ Hid (Two b1 b2 wr wx))
      case first =>
        by_cases hk4 : kd % 6 = 4
        · have hop : runT (l.take (i + 1)) = (relT (runT (l.take i)) tx).1 := by rw [hsn.out, runT_snoc, opT, if_pos hk4]
          have hrel := release_u S Z (by omega) tx htx
          have Z2 := (relT_fit Z S.sorted tx).1
          rw [← hop] at hrel Z2
          replace Z2 := Lib.hid (Z2.mono (Nat.le_succ i) (Nat.le_succ i))
          clear hop
          go_wp2_with (go_at_call 26; refine hrel.mono ?_; rintro e w5 ⟨f5, v5, rfl, S5, O5, t5⟩)
          go_meet
          exact ⟨Lib.hid ⟨f5, S5, Z2.out⟩, Lib.hid t5⟩
        · have hop : runT (l.take (i + 1)) = (askT (runT (l.take i)) tx (k1, k2, k3) md).2 := by rw [hsn.out, runT_snoc, opT, if_neg hk4]
          have hak := ask_u S.drew (by have := Z.keys; omega) (by have := Z.waits; omega) tx htx (k1, k2, k3) hkk.out md (by have := Z.size (k1, k2, k3); omega) (by have := Z.size (k1, k2, k3); omega)
          have Z2 := askT_fit Z htx (k1, k2, k3) md
          rw [← hop] at hak Z2
          replace Z2 := Lib.hid Z2
          replace S := Lib.hid S
          replace Z := Lib.hid Z
          clear hop
          have hkp2 : Hid (∀ w', Two b1 b2 wr w' → w'.cell? ⟨eb, off + i * 6, none⟩ = some (.int .u8 kd) ∧ w'.cell? ⟨eb, off + i * 6 + 1, none⟩ = some (.int .u32 tx) ∧ w'.cell? ⟨eb, off + i * 6 + 2, none⟩ = some (.int .u8 k1) ∧ w'.cell? ⟨eb, off + i * 6 + 3, none⟩ = some (.int .u32 k2) ∧ w'.cell? ⟨eb, off + i * 6 + 4, none⟩ = some (.int .u32 k3) ∧ w'.cell? ⟨eb, off + i * 6 + 5, none⟩ = some (.int .u8 md)) := Lib.hid fun w' h => hkp.out w' (hB.out.trans (h.below (by omega) (by omega) hRw))
          go_upto_region 10 with fail
          go_region_held2 (fun w' => w'.cell? ⟨eb, off + i * 6, none⟩ = some (.int .u8 kd) ∧ w'.cell? ⟨eb, off + i * 6 + 1, none⟩ = some (.int .u32 tx) ∧ w'.cell? ⟨eb, off + i * 6 + 2, none⟩ = some (.int .u8 k1) ∧ w'.cell? ⟨eb, off + i * 6 + 3, none⟩ = some (.int .u32 k2) ∧ w'.cell? ⟨eb, off + i * 6 + 4, none⟩ = some (.int .u32 k3) ∧ w'.cell? ⟨eb, off + i * 6 + 5, none⟩ = some (.int .u8 md))
            (first | exact hkp2.out _ (Two.of0 (RowKit.Below.refl _ _).drew) | exact hkp2.out _ ((Two.of0 (RowKit.Below.refl _ _).drew).trans t7) | go_keep)
            (first
              | (go_at_call 25; refine hak.mono ?_; rintro e w7 ⟨f7, rfl, S7, t7⟩))
          go_wp2
          go_meet
          exact ⟨Lib.hid ⟨f7, S7, Z2.out⟩, Lib.hid ((Two.of0 (RowKit.Below.refl _ _).drew).trans t7)⟩
      case rest =>
      obtain ⟨hT2, t2⟩ := hcut
      have hRd2 := hRd.out.two t2.out hnb.out.1 hnb.out.2
      have hB2 := Lib.hid (hB.out.trans (t2.out.below (by omega) (by omega) hRw))
      have hin' := into_u _ (canon ((l.take i).map Lop.txn)) tx wc hRd2 htx (by have := hnw.out; omega)
      rw [← canon_snoc] at hin'
      have hmp : Hid ((l.take i).map Lop.txn ++ [tx] = (l.take (i + 1)).map Lop.txn) := Lib.hid (by rw [hsn.out, List.map_append]; rfl)
      rw [hmp.out] at hin'
      have e1 := (hkp.out _ hB2.out).2.1
      have hRc : R ≤ wc.heap.size := by have := hB2.out.size; omega
      clear d0 d1 S Z
      go_wp2_with (go_at_call 24; refine hin'.mono ?_; rintro e w8 ⟨v8, rfl, hR8, b8⟩)
      have hT8 : Hid (∃ f, TabIs w8 TB b1 b2 (runT (l.take (i + 1))) f ∧ Fit (runT (l.take (i + 1))) (i + 1) (i + 1)) := by
        obtain ⟨f, h1, h2⟩ := hT2.out
        exact Lib.hid ⟨f, h1.below b8 (Nat.le_refl _), h2⟩
      have hB8 := Lib.hid (hB2.out.trans (b8.mono hRc))
      replace hR8 := Lib.hid hR8
      clear b8
      go_roundw
      case rel => exact ⟨i + 1, by go_num, by omega, hR8, hT8, hB8⟩
      case measure => simp [intOf]; omega
    · obtain rfl : i = n := by omega
      have htk : l.take i = l := List.take_of_length_le (by omega)
      rw [htk] at hRd hT
      obtain ⟨f, S, Z⟩ := hT.out
      replace S := Lib.hid S
      replace Z := Lib.hid Z
      clear htk hT
      go_wp2
      go_ret2
      exact ⟨TB, b1, b2, f, _, rfl, hlo.1, hlo.2, S.out, Z.out, hRd.out, hB.out⟩
end Go.Proofs.Ytilknhackmccpaa

namespace Go.Proofs.Ytilknhackmccpaa
open Go.RowKit Go.Sort Go.Lib Go.Maps

theorem flds_k : (Try.prog.fieldsOf 38).toList.map (fun f => (f.name, f.type, f.offset)) = [("Kind", 5, 0), ("Who", 23, 1), ("What", 23, 2)] := by kernel_rfl
theorem fields_three {l : List Field} {n1 n2 n3 : String} {t1 t2 t3 : TypeId} {o1 o2 o3 : Nat} (h : l.map (fun f => (f.name, f.type, f.offset)) = [(n1, t1, o1), (n2, t2, o2), (n3, t3, o3)]) :
    ∃ f g e : Field, l = [f, g, e] ∧ (f.name = n1 ∧ f.type = t1 ∧ f.offset = o1) ∧ (g.name = n2 ∧ g.type = t2 ∧ g.offset = o2) ∧ e.name = n3 ∧ e.type = t3 ∧ e.offset = o3 := by
  match l, h with
  | [f, g, e], h => simp at h; exact ⟨f, g, e, rfl, h.1, h.2.1, h.2.2⟩
def keyB (a b : Ky) : Bool := (a.1 == b.1) && ((a.2.1 == b.2.1) && (a.2.2 == b.2.2))
theorem keyB_iff (a b : Ky) : keyB a b = true ↔ a = b := by
  obtain ⟨a1, a2, a3⟩ := a
  obtain ⟨c1, c2, c3⟩ := b
  simp [keyB]
theorem eql_key (a b : Ky) (w : World) : (binOp .eql 38 (.agg #[.int .u8 a.1, .int .u32 a.2.1, .int .u32 a.2.2]) (.agg #[.int .u8 b.1, .int .u32 b.2.1, .int .u32 b.2.2])).run Try.prog w = .ok (.bool (keyB a b)) w := by
  obtain ⟨a1, a2, a3⟩ := a
  obtain ⟨c1, c2, c3⟩ := b
  obtain ⟨f, g, e, hl, ⟨f1, f2, f3⟩, ⟨g1, g2, g3⟩, e1, e2, e3⟩ := fields_three flds_k
  simp only
  rw [run_eql_struct, run_equalIn_agg w 9999 _ _ _ (by kernel_rfl) (by kernel_rfl), hl]
  simp only [Op.eqFields, f1, f2, f3, g1, g2, g3, e1, e2, e3]
  have h1 : ∀ x y z w, (Go.part 5 #[.int .u8 x, .int .u32 y, .int .u32 z] 0).run Try.prog w = .ok (.int .u8 x) w := fun _ _ _ _ => by kernel_rfl
  have h2 : ∀ x y z w, (Go.part 23 #[.int .u8 x, .int .u32 y, .int .u32 z] 1).run Try.prog w = .ok (.int .u32 y) w := fun _ _ _ _ => by kernel_rfl
  have h3 : ∀ x y z w, (Go.part 23 #[.int .u8 x, .int .u32 y, .int .u32 z] 2).run Try.prog w = .ok (.int .u32 z) w := fun _ _ _ _ => by kernel_rfl
  have i1 : ∀ x y w, (Op.equalIn 9999 5 (.int .u8 x) (.int .u8 y)).run Try.prog w = .ok (x == y) w := fun _ _ w => run_equalIn_int w 9998 _ _ _ _ _ Try.underlying5
  have i2 : ∀ x y w, (Op.equalIn 9999 23 (.int .u32 x) (.int .u32 y)).run Try.prog w = .ok (x == y) w := fun _ _ w => run_equalIn_int w 9998 _ _ _ _ _ Try.underlying23
  simp only [Sem.run_bind, h1, h2, h3, i1, i2, Result.andThen_ok, Sem.run_ite, Sem.run_pure, keyB]
  cases (a1 == c1) <;> cases (a2 == c2) <;> cases (a3 == c3) <;> simp
/-- The mode of a key among holds: the first. -/
def modeH (l : List (Ky × Int)) (k : Ky) : Int := ((l.find? fun h => keyB h.1 k).map (·.2)).getD 0
theorem modeH_fm (g : Ky → Int) (k : Ky) : ∀ ks : List Ky, (k ∈ ks → modeH (ks.filterMap fun k => if g k = 0 then none else some (k, g k)) k = g k) ∧ (k ∉ ks → modeH (ks.filterMap fun k => if g k = 0 then none else some (k, g k)) k = 0)
  | [] => ⟨fun h => by simp at h, fun _ => rfl⟩
  | x :: r => by
    have ih := modeH_fm g k r
    by_cases h0 : g x = 0
    · rw [List.filterMap_cons_none (by rw [if_pos h0])]
      refine ⟨fun h => ?_, fun h => ih.2 fun h' => h (List.mem_cons_of_mem _ h')⟩
      by_cases hr : k ∈ r
      · exact ih.1 hr
      · rcases List.mem_cons.1 h with e | h
        · rw [ih.2 hr, e, h0]
        · exact absurd h hr
    · rw [List.filterMap_cons_some (b := (x, g x)) (by rw [if_neg h0])]
      by_cases hx : x = k
      · subst hx
        refine ⟨fun _ => ?_, fun h => absurd (List.mem_cons_self ..) h⟩
        have : keyB x x = true := (keyB_iff x x).2 rfl
        simp [modeH, List.find?_cons, this]
      · have hb : keyB x k = false := by
          cases h : keyB x k with
          | false => rfl
          | true => exact absurd ((keyB_iff x k).1 h) hx
        have e : ∀ s, modeH ((x, g x) :: s) k = modeH s k := fun s => by simp [modeH, List.find?_cons, hb]
        rw [e]
        refine ⟨fun h => ?_, fun h => ih.2 fun h' => h (List.mem_cons_of_mem _ h')⟩
        rcases List.mem_cons.1 h with e | h
        · exact absurd e.symm hx
        · exact ih.1 h
theorem modeH_holds {T : Tb} (I : Inv T) (t : Int) (k : Ky) : modeH (holdsL T t) k = modeL (T.F k).1 t := by
  have key := modeH_fm (fun k => modeL (T.F k).1 t) k T.ks
  by_cases hk : k ∈ T.ks
  · exact key.1 hk
  · exact (key.2 hk).trans (by rw [I.out k hk]; rfl)
theorem modeH_at {l : List (Ky × Int)} {k : Ky} {i : Nat} {x : Ky × Int} (hx : l[i]? = some x) (hb : keyB x.1 k = true) (hN : ∀ j, j < i → ∀ h, l[j]? = some h → keyB h.1 k = false) : modeH l k = x.2 := by
  induction l generalizing i with
  | nil => simp at hx
  | cons p s ih =>
    rcases i with _ | i
    · simp only [List.getElem?_cons_zero, Option.some.injEq] at hx
      subst hx
      simp [modeH, List.find?_cons, hb]
    · have h0 := hN 0 (by omega) p rfl
      have := ih (i := i) (by simpa using hx) (fun j hj h e => hN (j + 1) (by omega) h (by simpa using e))
      rw [← this]
      simp [modeH, List.find?_cons, h0]
theorem modeH_none {l : List (Ky × Int)} {k : Ky} (hN : ∀ j, j < l.length → ∀ h, l[j]? = some h → keyB h.1 k = false) : modeH l k = 0 := by
  induction l with
  | nil => rfl
  | cons p s ih =>
    have h0 := hN 0 (by simp) p rfl
    have := ih (fun j hj h e => hN (j + 1) (by simp; omega) h (by simpa using e))
    rw [← this]
    simp [modeH, List.find?_cons, h0]
/-- The cells of the i-th hold. -/
theorem hold_cells {w : World} {base : Nat} {e : TypeId} {v : Value} {m : Nat} {l : List (Ky × Int)} (h : w.ownsRow base e 4 v m (hCells l)) {i : Nat} {x : Ky × Int} (hi : l[i]? = some x) :
    ∃ g cap, v = .slice (some ⟨g, 0, none⟩) m cap ∧ base ≤ g ∧ g < w.heap.size ∧ w.cell? ⟨g, i * 4, none⟩ = some (.int .u8 x.1.1) ∧ w.cell? ⟨g, i * 4 + 1, none⟩ = some (.int .u32 x.1.2.1) ∧ w.cell? ⟨g, i * 4 + 2, none⟩ = some (.int .u32 x.1.2.2) ∧ w.cell? ⟨g, i * 4 + 3, none⟩ = some (.int .u8 x.2) := by
  have hat : ∀ (l : List (Ky × Int)) (i : Nat) (x : Ky × Int) (r : Nat), l[i]? = some x → r < 4 → (hCells l)[i * 4 + r]? = (hRow x)[r]? := by
    intro l
    induction l with
    | nil => intro i x r h; simp at h
    | cons p s ih =>
      intro i x r h hr
      rcases i with _ | i
      · simp only [List.getElem?_cons_zero, Option.some.injEq] at h
        subst h
        rw [hCells, List.flatMap_cons, List.getElem?_append_left (by simp [hRow]; omega), Nat.zero_mul, Nat.zero_add]
      · rw [hCells, List.flatMap_cons, List.getElem?_append_right (by simp [hRow]; omega), show (i + 1) * 4 + r - (hRow p).length = i * 4 + r by simp [hRow]; omega]
        exact ih i x r (by simpa using h) hr
  have hlen : ∀ l : List (Ky × Int), (hCells l).length = l.length * 4 := by
    intro l
    induction l with
    | nil => rfl
    | cons p s ih => rw [hCells, List.flatMap_cons, List.length_append, ← hCells, ih]; simp [hRow]; omega
  have hil := (List.getElem?_eq_some_iff.1 hi).1
  have hm := h.1
  rw [hlen] at hm
  rcases h.2 with ⟨_, h0⟩ | ⟨g, cap, cur, rfl, hb, hh, h1, h2, h3, h4⟩
  · omega
  · have hc : ∀ r, r < 4 → w.cell? ⟨g, i * 4 + r, none⟩ = (hRow x)[r]? := fun r hr => by
      rw [cell_of_heap hh, ← Array.getElem?_toList, ← hat l i x r hi hr, ← h4, List.getElem?_take_of_lt (by omega)]
    have h0 := hc 0 (by omega)
    rw [Nat.add_zero] at h0
    exact ⟨g, cap, rfl, hb, (Array.getElem?_eq_some_iff.1 hh).1, h0, hc 1 (by omega), hc 2 (by omega), hc 3 (by omega)⟩

set_option maxRecDepth 100000 in
set_option maxHeartbeats 8000000 in
theorem mode13_u {w : World} {TB b1 b2 : Nat} {T : Tb} {f : Ky → Option Value} (S : TabIs w TB b1 b2 T f) (I : Inv T) (hn : T.ks.length ≤ 1000) (t : Int) (k : Ky) :
    Calls Try.prog 29 #[.pointer (some ⟨TB, 0, none⟩), .int .u32 t, .agg #[.int .u8 k.1, .int .u32 k.2.1, .int .u32 k.2.2]] w fun e w' => e = .returned (.int .u8 (modeL (T.F k).1 t)) ∧ RowKit.Below w.heap.size w w' := by
  have hmh := modeH_holds I t k
  obtain ⟨k1, k2, k3⟩ := k
  have Ba := below_alloc w (.cells #[.int .u8 k1, .int .u32 k2, .int .u32 k3] 38)
  have nb := heap_alloc_new w (.cells #[.int .u8 k1, .int .u32 k2, .int .u32 k3] 38)
  obtain ⟨R, hR⟩ : ∃ R, w.heap.size = R := ⟨_, rfl⟩
  obtain ⟨wa, hwa⟩ : ∃ x, w.alloc (.cells #[.int .u8 k1, .int .u32 k2, .int .u32 k3] 38) = x := ⟨_, rfl⟩
  have hsa : wa.heap.size = R + 1 := by rw [← hwa, ← hR]; simp
  have hH := holds_u (S.below Ba (Nat.le_refl _)) (by omega) t
  rw [hwa, hR] at nb Ba
  rw [hwa] at hH
  rw [hR]
  have hll : (holdsL T t).length ≤ 1000 := Nat.le_trans (List.length_filterMap_le _ _) (by omega)
  obtain ⟨l, hl⟩ : ∃ l, holdsL T t = l := ⟨_, rfl⟩
  rw [hl] at hH hmh hll
  rw [← hmh]
  replace nb := Lib.hid nb
  replace Ba := Lib.hid Ba
  clear S I hl hmh
  obtain ⟨n, hnl⟩ : ∃ n, l.length = n := ⟨_, rfl⟩
  rw [hnl] at hH hll
  go_enter Try.func29, Try.ntmps29
  go_upto_region 2 with (go_at_call 28; refine hH.mono ?_; rintro e w2 ⟨v, rfl, O, B2⟩)
  obtain ⟨a, c, rfl⟩ := row_shape O
  have nb2 := Lib.hid ((B2.block R (by omega)).trans nb.out)
  have hBB := Lib.hid (Ba.out.trans (B2.mono (by omega)))
  have hO := Lib.hid O
  clear O hH hsa hwa
  have hN0 : Hid (∀ j, j < 0 → ∀ h, l[j]? = some h → keyB h.1 (k1, k2, k3) = false) := Lib.hid fun j hj => absurd hj (Nat.not_lt_zero _)
  have hq0 : Hid (∃ q, w2 = w2.drewN q) := Lib.hid ⟨0, rfl⟩
  go_wp2
  go_loopw [8] (fun v8 wr => ∃ i : Nat, v8 = .int .i64 i ∧ i ≤ n ∧ Hid (∃ q, wr = w2.drewN q) ∧ Hid (∀ j, j < i → ∀ h, l[j]? = some h → keyB h.1 (k1, k2, k3) = false)) (fun v8 _ => n - (intOf v8).toNat)
  case atStart => exact ⟨0, rfl, Nat.zero_le _, hq0, hN0⟩
  case round =>
    clear hN0 hq0
    obtain ⟨i, rfl, hi, hq, hN⟩ := hrel
    have hB3 : Hid (∀ q, RowKit.Below R w (wr.drewN q)) := Lib.hid fun q => by
      obtain ⟨q', rfl⟩ := hq.out
      have := hBB.out
      exact ⟨this.os, this.tape, this.output, this.size, this.block⟩
    by_cases hin : i < n
    · have hii : (i : Int) < (n : Int) := by omega
      obtain ⟨⟨⟨x1, x2, x3⟩, m⟩, hx⟩ : ∃ x, l[i]? = some x := ⟨_, List.getElem?_eq_getElem (by omega)⟩
      obtain ⟨g, c', e, hg1, hg2, c0, c1, c2, c3⟩ := hold_cells hO.out hx
      cases e
      have hcell : ∀ p, wr.cell? p = w2.cell? p := fun p => by obtain ⟨q, rfl⟩ := hq.out; rfl
      obtain ⟨d0, d1, d2⟩ := three_cells nb2.out
      rw [← hcell] at c0 c1 c2 c3 d0 d1 d2
      simp only at c0 c1 c2 c3
      have heq := fun W => eql_key (x1, x2, x3) (k1, k2, k3) W
      simp only at heq
      obtain ⟨b, hb⟩ : ∃ b, keyB (x1, x2, x3) (k1, k2, k3) = b := ⟨_, rfl⟩
      rw [hb] at heq
      replace hb := Lib.hid hb
      replace hx := Lib.hid hx
      clear hcell
      go_upto_region 5 with fail
      first | go_quiet (first | fail) | fail
      cases b
      · have hN2 : Hid (∀ j, j < i + 1 → ∀ h, l[j]? = some h → keyB h.1 (k1, k2, k3) = false) := Lib.hid fun j hj h e => by
          rcases Nat.lt_or_ge j i with hji | hji
          · exact hN.out j hji h e
          · rw [show j = i by omega, hx.out] at e
            cases e
            exact hb.out
        have hq2 : Hid (∃ q, wr.drewN nq = w2.drewN q) := Lib.hid (by obtain ⟨q, rfl⟩ := hq.out; exact ⟨_, drewN_drewN ..⟩)
        go_wp2
        go_roundw
        case rel => exact ⟨i + 1, by go_num, by omega, hq2, hN2⟩
        case measure => simp [intOf]; omega
      · have hres : modeH l (k1, k2, k3) = m := modeH_at hx.out hb.out hN.out
        go_wp2
        go_ret
        rw [hres]
        exact ⟨rfl, hB3.out _⟩
    · obtain rfl : i = n := by omega
      have hres : modeH l (k1, k2, k3) = 0 := modeH_none fun j hj => hN.out j (by omega)
      go_wp2
      go_ret
      rw [hres]
      exact ⟨rfl, hB3.out 0⟩
end Go.Proofs.Ytilknhackmccpaa
