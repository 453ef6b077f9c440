/- Package lock: the laws' own functions: known, Into, mode; Package lock: the laws' own functions: Into. -/
import Derived.Test.YtilknhackmccpaaLckR
set_option linter.unusedVariables false
set_option linter.unusedSimpArgs false
namespace Go.Proofs.Ytilknhackmccpaa
open Go.RowKit Go.Sort Go.Lib Go.Maps

theorem fit_none : Fit noTb 0 0 := ⟨fun _ => ⟨by simp [noTb], by simp [noTb]⟩, fun _ => Nat.le_refl _, Nat.le_refl _, Nat.le_refl _⟩
theorem Fit.mono {T : Tb} {n m n' m' : Nat} (h : Fit T n m) (hn : n ≤ n') (hm : m ≤ m') : Fit T n' m' := ⟨h.u, fun k => Nat.le_trans (h.size k) hn, Nat.le_trans h.keys hm, Nat.le_trans h.waits hn⟩
theorem askT_fit {T : Tb} {n : Nat} (h : Fit T n n) {t : Int} (ht : U t) (k : Ky) (m : Int) : Fit (askT T t k m).2 (n + 1) (n + 1) := by
  unfold askT
  split
  · exact h.mono (Nat.le_succ n) (Nat.le_succ n)
  · split
    · exact h.mono (Nat.le_succ n) (Nat.le_succ n)
    · have hs := h.size k
      have hi : (insK T.ks k).length ≤ T.ks.length + 1 := insR_len _ _ _
      have hj : (insH T.hs t).length ≤ T.hs.length + 1 := insR_len _ _ _
      have hk := h.keys
      have hw := h.waits
      split
      · refine ⟨fun k' => ?_, fun k' => ?_, by simp only; omega, by simp only; omega⟩
        · simp only [setF]
          split
          · refine ⟨fun x hx => ?_, (h.u k).2⟩
            rcases List.mem_append.1 hx with hx | hx
            · exact (h.u k).1 x (notL_sub hx)
            · rw [List.mem_singleton.1 hx]; exact ht
          · exact h.u k'
        · simp only [setF]
          split
          · have := notL_length (T.F k).1 t
            simp only [List.length_append, List.length_cons, List.length_nil]
            omega
          · exact Nat.le_succ_of_le (h.size k')
      · refine ⟨fun k' => ?_, fun k' => ?_, by simp only; omega, by simp only; omega⟩
        · simp only [setF]
          split
          · refine ⟨(h.u k).1, fun x hx => ?_⟩
            simp only [insL] at hx
            rcases List.mem_append.1 hx with hx | hx
            · exact (h.u k).2 x (List.mem_of_mem_take hx)
            · rcases List.mem_cons.1 hx with rfl | hx
              · exact ht
              · exact (h.u k).2 x (List.mem_of_mem_drop hx)
          · exact h.u k'
        · simp only [setF]
          split
          · simp only [insL_length]
            omega
          · exact Nat.le_succ_of_le (h.size k')
/-- Where a key was gone: no more keys than before; else as many. -/
theorem relT_fit {T : Tb} {n : Nat} (h : Fit T n n) (hs : T.ks.Pairwise KLt) (t : Int) : Fit (relT T t).1 n n ∧ ∀ x ∈ (relT T t).2, U x := by
  obtain ⟨h1, _, h3⟩ := relFold_fit t T.ks T n n h
  have hsub : ∀ (a : List Ky) (T' : Tb), T'.ks ⊆ T.ks → a ⊆ T.ks → (relFold t a T').1.ks ⊆ T.ks := by
    intro a
    induction a with
    | nil => intro T' h _; exact h
    | cons k r ih =>
      intro T' h1 h2
      refine ih _ (fun z hz => ?_) (fun z hz => h2 (List.mem_cons_of_mem _ hz))
      have hk : k ∈ T.ks := h2 (by simp)
      unfold relStep at hz
      split at hz
      · exact h1 hz
      · simp only at hz
        have : z ∈ insK T'.ks k := by
          split at hz
          · exact (List.mem_filter.1 hz).1
          · exact hz
        rcases (insK_mem T'.ks k z).1 this with rfl | h
        · exact hk
        · exact h1 h
  have hr : ∀ (a : List Ky) (T' : Tb), T'.ks.Pairwise KLt → (relFold t a T').1.ks.Pairwise KLt := by
    intro a
    induction a with
    | nil => intro T' h; exact h
    | cons k r ih =>
      intro T' h
      refine ih _ ?_
      unfold relStep
      split
      · exact h
      · simp only
        split
        · exact (insK_rise h k).filter _
        · exact insK_rise h k
  have hnd : (relFold t T.ks T).1.ks.Nodup := (hr T.ks T hs).imp fun {a b} hab => by rintro rfl; exact KLt.irrefl a hab
  have hlen := nodup_len hnd (hsub T.ks T (fun _ h => h) (fun _ h => h))
  exact ⟨⟨h1.u, h1.size, Nat.le_trans hlen h.keys, Nat.le_trans (List.length_filter_le _ _) h1.waits⟩, h3⟩

theorem ky100 : KyOk (1, 0, 0) := by simp [KyOk]
theorem known_v : (askT noTb 1 (1, 0, 0) 1).1 = true ∧ (askT (askT noTb 1 (1, 0, 0) 1).2 2 (1, 0, 0) 1).1 = true ∧ (askT (askT (askT noTb 1 (1, 0, 0) 1).2 2 (1, 0, 0) 1).2 1 (1, 0, 0) 2).1 = false ∧
    (askT (askT (askT (askT noTb 1 (1, 0, 0) 1).2 2 (1, 0, 0) 1).2 1 (1, 0, 0) 2).2 3 (1, 0, 0) 1).1 = false ∧
    (relT (askT (askT (askT (askT noTb 1 (1, 0, 0) 1).2 2 (1, 0, 0) 1).2 1 (1, 0, 0) 2).2 3 (1, 0, 0) 1).2 2).2 = [1] ∧
    (relT (relT (askT (askT (askT (askT noTb 1 (1, 0, 0) 1).2 2 (1, 0, 0) 1).2 1 (1, 0, 0) 2).2 3 (1, 0, 0) 1).2 2).1 1).2 = [3] := by
  refine ⟨?_, ?_, ?_, ?_, ?_, ?_⟩ <;> rfl

section
variable {w w' w2 : World} {b1 b2 B : Nat}
theorem Two.cellKeep (h : Two b1 b2 w w') {p : Addr} (hp : p.block < w.heap.size) (h1 : p.block ≠ b1) (h2 : p.block ≠ b2) : w'.cell? p = w.cell? p := by
  have := h.block p.block hp h1 h2
  unfold World.cell?
  rw [this]
end
theorem own_one {w : World} {base : Nat} {v : Value} {x : Int} (O : w.ownsInts base 23 .u32 v [x]) : ∃ g c, v = .slice (some ⟨g, 0, none⟩) 1 c ∧ base ≤ g ∧ g < w.heap.size ∧ w.cell? ⟨g, 0, none⟩ = some (.int .u32 x) := by
  rcases O.1.2 with ⟨_, h0⟩ | ⟨g, cap, cur, rfl, hb, hh, h1, h2, h3, h4⟩
  · cases h0
  · refine ⟨g, cap, rfl, hb, (Array.getElem?_eq_some_iff.1 hh).1, ?_⟩
    rw [cell_of_heap hh, ← Array.getElem?_toList]
    have : (cur.toList.take (1 * 1))[0]? = some (Value.int .u32 x) := by rw [show (1 * 1 : Nat) = [x].length * 1 from rfl, h4]; rfl
    rw [List.getElem?_take_of_lt (by omega)] at this
    exact this
set_option maxRecDepth 100000 in
set_option maxHeartbeats 4000000 in
theorem known_l (w : World) : Calls Try.prog 22 #[] w fun e w' => e = .returned (.bool true) ∧ RowKit.Below w.heap.size w w' := by
  obtain ⟨v1, v2, v3, v4, v5, v6⟩ := known_v
  obtain ⟨T1, hT1⟩ : ∃ x, (askT noTb 1 (1, 0, 0) 1).2 = x := ⟨_, rfl⟩
  have F1 : Fit T1 1 1 := hT1 ▸ askT_fit fit_none (by unfold U; omega) _ _
  have a1 := fun (w : World) TB b1 b2 (S : TabIs w TB b1 b2 noTb (fun _ => none)) => ask_u S (by decide) (by decide) 1 (by unfold U; omega) (1, 0, 0) ky100 1 (by decide) (by decide)
  rw [v1, hT1] at a1
  rw [hT1] at v2 v3 v4 v5 v6
  obtain ⟨T2, hT2⟩ : ∃ x, (askT T1 2 (1, 0, 0) 1).2 = x := ⟨_, rfl⟩
  have F2 : Fit T2 2 2 := hT2 ▸ askT_fit F1 (by unfold U; omega) _ _
  have a2 := fun (w : World) TB b1 b2 f (S : TabIs w TB b1 b2 T1 f) => ask_u S (by have := F1.keys; omega) (by have := F1.waits; omega) 2 (by unfold U; omega) (1, 0, 0) ky100 1 (by have := F1.size (1, 0, 0); omega) (by have := F1.size (1, 0, 0); omega)
  rw [v2, hT2] at a2
  rw [hT2] at v3 v4 v5 v6
  obtain ⟨T3, hT3⟩ : ∃ x, (askT T2 1 (1, 0, 0) 2).2 = x := ⟨_, rfl⟩
  have F3 : Fit T3 3 3 := hT3 ▸ askT_fit F2 (by unfold U; omega) _ _
  have a3 := fun (w : World) TB b1 b2 f (S : TabIs w TB b1 b2 T2 f) => ask_u S (by have := F2.keys; omega) (by have := F2.waits; omega) 1 (by unfold U; omega) (1, 0, 0) ky100 2 (by have := F2.size (1, 0, 0); omega) (by have := F2.size (1, 0, 0); omega)
  rw [v3, hT3] at a3
  rw [hT3] at v4 v5 v6
  obtain ⟨T4, hT4⟩ : ∃ x, (askT T3 3 (1, 0, 0) 1).2 = x := ⟨_, rfl⟩
  have F4 : Fit T4 4 4 := hT4 ▸ askT_fit F3 (by unfold U; omega) _ _
  have a4 := fun (w : World) TB b1 b2 f (S : TabIs w TB b1 b2 T3 f) => ask_u S (by have := F3.keys; omega) (by have := F3.waits; omega) 3 (by unfold U; omega) (1, 0, 0) ky100 1 (by have := F3.size (1, 0, 0); omega) (by have := F3.size (1, 0, 0); omega)
  rw [v4, hT4] at a4
  rw [hT4] at v5 v6
  have a5 := fun (w : World) TB b1 b2 f (S : TabIs w TB b1 b2 T4 f) => release_u S F4 (by omega) 2 (by unfold U; omega)
  have F5 := fun (w : World) TB b1 b2 f (S : TabIs w TB b1 b2 T4 f) => (relT_fit F4 S.sorted 2).1
  rw [v5] at a5
  obtain ⟨T5, hT5⟩ : ∃ x, (relT T4 2).1 = x := ⟨_, rfl⟩
  rw [hT5] at a5 F5 v6
  have a6 := fun (w : World) TB b1 b2 f (S : TabIs w TB b1 b2 T5 f) (F : Fit T5 4 4) => release_u S F (by omega) 1 (by unfold U; omega)
  rw [v6] at a6
  clear hT1 hT2 hT3 hT4 hT5 v1 v2 v3 v4 v5 v6 F1 F2 F3 F4
  go_enter Try.func22, Try.ntmps22
  go_upto_region 5 with (go_at_call 23; refine (new_u w).mono ?_; rintro e w1 ⟨TB, b1, b2, rfl, hb1, hb2, S1, B1⟩)
  have Bn := below_alloc w1 (.cells #[.int .u8 1, .int .u32 0, .int .u32 0] 38)
  have S2 := Lib.hid (S1.below Bn (Nat.le_refl _))
  have nb := heap_alloc_new w1 (.cells #[.int .u8 1, .int .u32 0, .int .u32 0] 38)
  have B2 := Lib.hid (B1.trans (Bn.mono B1.size))
  obtain ⟨K0, hK0⟩ : ∃ x, w1.heap.size = x := ⟨_, rfl⟩
  obtain ⟨w2, hw2⟩ : ∃ x, w1.alloc (.cells #[.int .u8 1, .int .u32 0, .int .u32 0] 38) = x := ⟨_, rfl⟩
  rw [hK0] at nb
  rw [hw2] at nb S2 B2 ⊢
  rw [hK0]
  have k1 : K0 ≠ b1 := by have := S1.locks.lt; omega
  have k2 : K0 ≠ b2 := by have := S1.waits.lt; omega
  clear hw2 Bn S1 B1
  obtain ⟨c0, c1, c2⟩ := three_cells nb
  have lK : K0 < w2.heap.size := (Array.getElem?_eq_some_iff.1 nb).1
  go_upto_region 6 with (go_at_call 25; refine Calls.mono (a1 _ _ _ _ S2.out) ?_; rintro e w3 ⟨f3, rfl, S3, t3⟩)
  replace S3 := Lib.hid S3
  have u3 := t3.block K0 lK k1 k2
  replace nb := u3.trans nb
  clear c0 c1 c2 lK u3
  obtain ⟨c0, c1, c2⟩ := three_cells nb
  have lK : K0 < w3.heap.size := (Array.getElem?_eq_some_iff.1 nb).1
  go_upto_region 7 with (go_at_call 25; refine Calls.mono (a2 _ _ _ _ _ S3.out) ?_; rintro e w4 ⟨f4, rfl, S4, t4⟩)
  replace S4 := Lib.hid S4
  have u4 := t4.block K0 lK k1 k2
  replace nb := u4.trans nb
  clear c0 c1 c2 lK u4
  obtain ⟨c0, c1, c2⟩ := three_cells nb
  have lK : K0 < w4.heap.size := (Array.getElem?_eq_some_iff.1 nb).1
  go_upto_region 8 with (go_at_call 25; refine Calls.mono (a3 _ _ _ _ _ S4.out) ?_; rintro e w5 ⟨f5, rfl, S5, t5⟩)
  replace S5 := Lib.hid S5
  have u5 := t5.block K0 lK k1 k2
  replace nb := u5.trans nb
  clear c0 c1 c2 lK u5
  obtain ⟨c0, c1, c2⟩ := three_cells nb
  have lK : K0 < w5.heap.size := (Array.getElem?_eq_some_iff.1 nb).1
  go_upto_region 9 with (go_at_call 25; refine Calls.mono (a4 _ _ _ _ _ S5.out) ?_; rintro e w6 ⟨f6, rfl, S6, t6⟩)
  replace S6 := Lib.hid S6
  have u6 := t6.block K0 lK k1 k2
  replace nb := u6.trans nb
  clear c0 c1 c2 lK u6
  obtain ⟨c0, c1, c2⟩ := three_cells nb
  have lK : K0 < w6.heap.size := (Array.getElem?_eq_some_iff.1 nb).1
  go_upto_region 10 with (go_at_call 26; refine Calls.mono (a5 _ _ _ _ _ S6.out) ?_; rintro e w7 ⟨f7, v7, rfl, S7, O7, t7⟩)
  have F7 := F5 _ _ _ _ _ S6.out
  have W7 := t7
  go_upto_region 11 with (go_at_call 26; refine Calls.mono (a6 _ _ _ _ _ S7 F7) ?_; rintro e w8 ⟨f8, v8, rfl, S8, O8, t8⟩)
  obtain ⟨g7, c7, rfl, h7, l7, e7⟩ := own_one O7
  obtain ⟨g8, c8, rfl, h8, l8, e8⟩ := own_one O8
  have e7' := (t8.cellKeep (p := ⟨g7, 0, none⟩) l7 (by show g7 ≠ b1; have := S6.out.locks.lt; omega) (by show g7 ≠ b2; have := S6.out.waits.lt; omega)).trans e7
  have BE := Lib.hid (B2.out.trans (((((t3.trans t4).trans t5).trans t6).trans (t7.trans t8)).below hb1 hb2 B2.out.size))
  clear t3 t4 t5 t6 t7 t8 W7 e7 nb c0 c1 c2 S7 S8 O7 O8 F7
  go_wp2
  go_ret
  exact ⟨rfl, BE.out⟩
end Go.Proofs.Ytilknhackmccpaa

namespace Go.Proofs.Ytilknhackmccpaa
open Go.RowKit Go.Sort Go.Lib Go.Maps

/-- A list of numbers, to be read. -/
def ReadN (w : World) (v : Value) (l : List Int) : Prop :=
  (∀ z ∈ l, U z) ∧ ((v = .slice none 0 0 ∧ l = []) ∨ ∃ g cap, v = .slice (some ⟨g, 0, none⟩) l.length cap ∧ l.length ≤ cap ∧ cap ≤ maxLen ∧ g < w.heap.size ∧ (∃ cs ty fr, w.heap[g]? = some (.cells cs ty fr)) ∧ ∀ i, i < l.length → w.cell? ⟨g, i, none⟩ = some (.int .u32 (l.getD i 0)))
section
variable {w w' : World} {v : Value} {l : List Int} {b1 b2 B : Nat}
theorem ReadN.below (h : ReadN w v l) (hb : RowKit.Below B w w') (hB : w.heap.size ≤ B) : ReadN w' v l := by
  refine ⟨h.1, ?_⟩
  rcases h.2 with h | ⟨g, cap, e, h1, h2, h3, ⟨cs, ty, fr, h4⟩, h5⟩
  · exact .inl h
  · exact .inr ⟨g, cap, e, h1, h2, Nat.lt_of_lt_of_le h3 hb.size, ⟨cs, ty, fr, (hb.block g (Nat.lt_of_lt_of_le h3 hB)).trans h4⟩, fun i hi => (hb.cell (p := ⟨g, i, none⟩) (Nat.lt_of_lt_of_le h3 hB)).trans (h5 i hi)⟩
theorem ReadN.two (h : ReadN w v l) (k : Two b1 b2 w w') (n1 : ∀ cs ty fr, w.heap[b1]? ≠ some (.cells cs ty fr)) (n2 : ∀ cs ty fr, w.heap[b2]? ≠ some (.cells cs ty fr)) : ReadN w' v l := by
  refine ⟨h.1, ?_⟩
  rcases h.2 with h | ⟨g, cap, e, h1, h2, h3, ⟨cs, ty, fr, h4⟩, h5⟩
  · exact .inl h
  · have e1 : g ≠ b1 := by rintro rfl; exact n1 _ _ _ h4
    have e2 : g ≠ b2 := by rintro rfl; exact n2 _ _ _ h4
    exact .inr ⟨g, cap, e, h1, h2, Nat.lt_of_lt_of_le h3 k.size, ⟨cs, ty, fr, (k.block g h3 e1 e2).trans h4⟩, fun i hi => (k.cellKeep (p := ⟨g, i, none⟩) h3 e1 e2).trans (h5 i hi)⟩
theorem ReadN.nums (h : ReadN w v l) : ∃ a cap, v = .slice a l.length cap ∧ Nums w a l := by
  rcases h.2 with ⟨rfl, rfl⟩ | ⟨g, cap, rfl, h1, h2, h3, _, h5⟩
  · exact ⟨none, 0, rfl, fun h => absurd rfl h⟩
  · exact ⟨_, cap, rfl, fun _ => ⟨g, 0, rfl, h3, fun i hi => by rw [Nat.zero_add]; exact h5 i hi⟩⟩
theorem readN_own {base : Nat} (O : w.ownsInts base 23 .u32 v l) : ReadN w v l := by
  refine ⟨fun z hz => U.of (O.2 z hz), ?_⟩
  rcases O.1.2 with ⟨rfl, h0⟩ | ⟨g, cap, cur, rfl, hb, hh, h1, h2, h3, h4⟩
  · exact .inl ⟨rfl, List.eq_nil_of_length_eq_zero h0⟩
  · refine .inr ⟨g, cap, rfl, h1, h2, (Array.getElem?_eq_some_iff.1 hh).1, ⟨_, _, _, hh⟩, fun i hi => ?_⟩
    rw [cell_of_heap hh, ← Array.getElem?_toList]
    have : (cur.toList.take (l.length * 1))[i]? = (l.map (Value.int .u32))[i]? := by rw [h4]
    rw [List.getElem?_take_of_lt (by omega)] at this
    rw [this]
    simp [List.getD_eq_getElem?_getD, List.getElem?_eq_getElem hi]
end
set_option maxRecDepth 100000 in
set_option maxHeartbeats 8000000 in
theorem into_u (v : Value) (l : List Int) (x : Int) (w : World) (hv : ReadN w v l) (ux : U x) (hl : l.length < 100000) :
    Calls Try.prog 24 #[v, .int .u32 x] w fun e w' => ∃ v', e = .returned v' ∧ ReadN w' v' (insI x l) ∧ RowKit.Below w.heap.size w w' := by
  obtain ⟨i0, hi0, hz0, hz1, hz2⟩ := info_parts info_u
  obtain ⟨BA, hBA⟩ : ∃ b, w.heap.size = b := ⟨_, rfl⟩
  rcases hv.2 with ⟨rfl, rfl⟩ | ⟨g, cap, rfl, hc, hm, hg, hcs, hcell⟩
  · rw [hBA]
    have hB0 : BA ≤ w.heap.size := by omega
    go_enter Try.func24, Try.ntmps24
    go_wp2
    refine wp_loop_rounds 1 ?_
    rw [rounds_succ]
    have hE : ∀ (W : World) a, Nums W a ([] : List Int) := fun _ _ h => absurd rfl h
    go_upto_region 8 with (at_builtin; refine wpList_append_n rfl (.tmp 34) (.tmp 37) rfl BA _ [] rfl (World.ownsInts_nil _ _ _ _) none 0 0 [] rfl (hE _ _) (by simp) rfl (by simp) hB0 ?_; intro v1 w6 ho1 g1)
    rw [List.nil_append] at ho1
    have g1n : w.grownBy w6 none := g1
    have hB6 : BA ≤ w6.heap.size := by have := g1.size; omega
    have hnc6 := Lib.hid (heap_alloc_new w6 (.cells #[.int .u32 x] 23))
    have ho1a := Lib.hid (ho1.alloc (.cells #[.int .u32 x] 23))
    have hB6a : BA ≤ (w6.alloc (.cells #[.int .u32 x] 23)).heap.size := by simp; omega
    go_upto_region 9 with (at_builtin; refine wpList_append_n rfl (.tmp 39) (.tmp 41) rfl BA v1 [] rfl ho1a.out (some ⟨w6.heap.size, 0, none⟩) 1 1 [x] rfl (nums_one hnc6.out) (by intro z hz; rw [List.mem_singleton.1 hz]; exact ux) rfl (by simp) hB6a ?_; intro v2 w7 ho2 g2)
    have gA7 : w.grownBy w7 none := g1n.andThen ((World.grownBy_alloc w6 _ _).trans g2) (fun j hj => .inl (by have := (row_ge ho1.1 j hj).1; omega))
    have hB7 : BA ≤ w7.heap.size := by have := gA7.size; omega
    replace ho2 := Lib.hid ho2
    replace gA7 := Lib.hid gA7
    clear g1 g1n g2 ho1 ho1a hnc6
    go_wp2_with (at_builtin; refine wpList_append_n rfl (.tmp 43) (.tmp 46) rfl BA v2 ([] ++ [x]) rfl ho2.out none 0 0 [] rfl (hE _ _) (by simp) rfl (by simp) hB7 ?_; intro v3 w8 ho3 g3)
    go_ret
    have gg : w.grownBy w8 none := gA7.out.andThen g3 (fun j hj => .inl (by have := (row_ge ho2.out.1 j hj).1; omega))
    exact ⟨_, rfl, readN_own ho3, ⟨gg.os, gg.tape, gg.output, gg.size, fun i hi => gg.block i (by omega) (by simp)⟩⟩
  · obtain ⟨n, hn⟩ : ∃ n, l.length = n := ⟨_, rfl⟩
    rw [hn] at hc hcell hl ⊢
    rw [hBA]
    have hnc : (n : Int) ≤ (cap : Int) := by omega
    have hcm : cap ≤ 9223372036854775807 := by unfold maxLen at hm; omega
    have hv' := Lib.hid hv
    have hcs' := Lib.hid hcs
    have hcl := Lib.hid hcell
    clear hv hcs hcell
    go_enter Try.func24, Try.ntmps24
    go_upto_block 0 with fail
    go_cut [5] from 7 to 20 (fun v5 wx => ∃ k : Nat, v5 = .int .i64 k ∧ k ≤ n ∧ wx = w ∧ Hid ((∀ j, j < k → l.getD j 0 < x) ∧ (k < n → x ≤ l.getD k 0)))
    case first =>
      have hL0 : Hid (∀ j, j < 0 → l.getD j 0 < x) := Lib.hid fun j hj => absurd hj (Nat.not_lt_zero _)
      go_wp2_with fail
      go_loopw [5] (fun v5 wr => ∃ k : Nat, v5 = .int .i64 k ∧ k ≤ n ∧ wr = w ∧ Hid (∀ j, j < k → l.getD j 0 < x)) (fun v5 _ => n - (intOf v5).toNat)
      case atStart => exact ⟨0, rfl, Nat.zero_le _, rfl, hL0⟩
      case round =>
        clear hL0
        obtain ⟨k, rfl, hk, rfl, hL⟩ := hrel
        by_cases hkn : k < n
        · have hki : (k : Int) < (n : Int) := by omega
          have ck := hcl.out k hkn
          obtain ⟨y, hy⟩ : ∃ y, l.getD k 0 = y := ⟨_, rfl⟩
          rw [hy] at ck
          replace hy := Lib.hid hy
          by_cases hyx : y < x
          · have hL2 : Hid (∀ j, j < k + 1 → l.getD j 0 < x) := Lib.hid fun j hj => by
              rcases Nat.lt_or_ge j k with h | h
              · exact hL.out j h
              · rw [show j = k by omega, hy.out]; exact hyx
            go_wp2
            go_roundw
            case rel => exact ⟨k + 1, by go_num, by omega, by first | rfl | trivial, hL2⟩
            case measure => simp [intOf]; omega
          · have hF : Hid ((∀ j, j < k → l.getD j 0 < x) ∧ (k < n → x ≤ l.getD k 0)) := Lib.hid ⟨hL.out, fun _ => by rw [hy.out]; omega⟩
            go_wp2
            go_meet
            exact ⟨k, rfl, hk, rfl, hF⟩
        · have hF : Hid ((∀ j, j < k → l.getD j 0 < x) ∧ (k < n → x ≤ l.getD k 0)) := Lib.hid ⟨hL.out, fun h => absurd h hkn⟩
          obtain rfl : k = n := by omega
          go_wp2
          go_meet
          exact ⟨k, rfl, hk, rfl, hF⟩
    case rest =>
    obtain ⟨k, rfl, hk, rfl, hF⟩ := hcut
    have hins := insI_at (t := x) (out := l) (k := k) (by omega) hF.out.1 (fun h => hF.out.2 (by omega))
    rw [hn] at hins
    by_cases heq : k < n ∧ l.getD k 0 = x
    · rw [if_pos heq] at hins
      have hki : (k : Int) < (n : Int) := by omega
      have ck := hcl.out k heq.1
      rw [heq.2] at ck
      replace hins := Lib.hid hins
      replace heq := Lib.hid heq
      replace hF := Lib.hid hF.out
      go_wp2
      go_ret
      refine ⟨_, rfl, ?_, RowKit.Below.refl _ _⟩
      rw [hins.out, ← hn]
      exact hv'.out
    · rw [if_neg heq] at hins
      have hN : Nums wc (some ⟨g, 0, none⟩) l := fun _ => ⟨g, 0, rfl, hg, fun i hi => by rw [Nat.zero_add]; exact hcl.out i (by omega)⟩
      have hU : ∀ z ∈ l, U z := hv'.out.1
      have hl1 : (l.take k).length = k := by rw [List.length_take]; omega
      have hl2 : (l.drop k).length = n - k := by rw [List.length_drop, hn]
      have hN1 := hN.take k
      have hki : (k : Int) ≤ (n : Int) := by omega
      have hkc : (k : Int) ≤ (cap : Int) := by omega
      have hB0 : BA ≤ wc.heap.size := by omega
      replace hins := Lib.hid hins
      replace hF := Lib.hid hF.out
      replace hU := Lib.hid hU
      replace hl1 := Lib.hid hl1
      replace hl2 := Lib.hid hl2
      have hX : Hid (∀ w8 v3, w8.ownsInts BA 23 .u32 v3 (l.take k ++ [x] ++ l.drop k) → wc.grownBy w8 none → ∃ v', Ending.returned v3 = .returned v' ∧ ReadN w8 v' (insI x l) ∧ RowKit.Below BA wc w8) := Lib.hid fun w8 v3 h gg =>
        ⟨v3, rfl, by rw [hins.out, ← List.append_assoc]; exact readN_own h, ⟨gg.os, gg.tape, gg.output, gg.size, fun i hi => gg.block i (by omega) (by simp)⟩⟩
      have hgo : k < n → ¬ l.getD k 0 = x := fun h e => heq ⟨h, e⟩
      by_cases hkn : k < n
      · have ck := hcl.out k hkn
        obtain ⟨y, hy⟩ : ∃ y, l.getD k 0 = y := ⟨_, rfl⟩
        rw [hy] at ck
        have hyx : ¬ y = x := by rw [← hy]; exact hgo hkn
        have hki2 : (k : Int) < (n : Int) := by omega
        replace hy := Lib.hid hy
        clear heq hgo
        go_upto_region 8 with (at_builtin; refine wpList_append_n rfl (.tmp 34) (.tmp 37) rfl BA _ [] rfl (World.ownsInts_nil _ _ _ _) (some ⟨g, 0, none⟩) k cap (l.take k) rfl hN1 (fun z hz => hU.out z (List.mem_of_mem_take hz)) hl1.out (by simp; omega) hB0 ?_; intro v1 w6 ho1 g1)
        rw [List.nil_append] at ho1
        have g1n : wc.grownBy w6 none := g1
        have hB6 : BA ≤ w6.heap.size := by have := g1.size; omega
        have hnc6 := Lib.hid (heap_alloc_new w6 (.cells #[.int .u32 x] 23))
        have ho1a := Lib.hid (ho1.alloc (.cells #[.int .u32 x] 23))
        have hB6a : BA ≤ (w6.alloc (.cells #[.int .u32 x] 23)).heap.size := by simp; omega
        have hl6 : (l.take k).length + 1 < 1000000 := by have := hl1.out; omega
        go_upto_region 9 with (at_builtin; refine wpList_append_n rfl (.tmp 39) (.tmp 41) rfl BA v1 (l.take k) rfl ho1a.out (some ⟨w6.heap.size, 0, none⟩) 1 1 [x] rfl (nums_one hnc6.out) (by intro z hz; rw [List.mem_singleton.1 hz]; exact ux) rfl hl6 hB6a ?_; intro v2 w7 ho2 g2)
        have gA7 : wc.grownBy w7 none := g1n.andThen ((World.grownBy_alloc w6 _ _).trans g2) (fun j hj => .inl (by have := (row_ge ho1.1 j hj).1; omega))
        have hN7 : Nums w7 (some ⟨g, 0, none⟩) l := fun _ => ⟨g, 0, rfl, Nat.lt_of_lt_of_le hg gA7.size, fun i hi => by rw [Nat.zero_add]; exact (gA7.cell_far ⟨g, i, none⟩ hg (by simp)).trans (hcl.out i (by omega))⟩
        have hB7 : BA ≤ w7.heap.size := by have := gA7.size; omega
        have hl7 : (l.take k ++ [x]).length + (n - k) < 1000000 := by have := hl1.out; simp only [List.length_append, List.length_cons, List.length_nil]; omega
        replace ho2 := Lib.hid ho2
        replace gA7 := Lib.hid gA7
        clear g1 g1n g2 ho1 ho1a hnc6 hN
        have hcap : ¬ (cap = k) := by omega
        have hD := hN7.drop k
        go_wp2_with (at_builtin; refine wpList_append_n rfl (.tmp 43) (.tmp 46) rfl BA v2 (l.take k ++ [x]) rfl ho2.out (some ⟨g, k, none⟩) (n - k) (cap - k) (l.drop k) rfl hD (fun z hz => hU.out z (List.mem_of_mem_drop hz)) hl2.out hl7 hB7 ?_; intro v3 w8 ho3 g3)
        all_goals (
          go_ret
          exact hX.out _ _ ho3 (gA7.out.andThen g3 (fun j hj => .inl (by have := (row_ge ho2.out.1 j hj).1; omega))))
      · obtain rfl : k = n := by omega
        clear heq hgo
        go_upto_region 8 with (at_builtin; refine wpList_append_n rfl (.tmp 34) (.tmp 37) rfl BA _ [] rfl (World.ownsInts_nil _ _ _ _) (some ⟨g, 0, none⟩) k cap (l.take k) rfl hN1 (fun z hz => hU.out z (List.mem_of_mem_take hz)) hl1.out (by simp; omega) hB0 ?_; intro v1 w6 ho1 g1)
        rw [List.nil_append] at ho1
        have g1n : wc.grownBy w6 none := g1
        have hB6 : BA ≤ w6.heap.size := by have := g1.size; omega
        have hnc6 := Lib.hid (heap_alloc_new w6 (.cells #[.int .u32 x] 23))
        have ho1a := Lib.hid (ho1.alloc (.cells #[.int .u32 x] 23))
        have hB6a : BA ≤ (w6.alloc (.cells #[.int .u32 x] 23)).heap.size := by simp; omega
        have hl6 : (l.take k).length + 1 < 1000000 := by have := hl1.out; omega
        go_upto_region 9 with (at_builtin; refine wpList_append_n rfl (.tmp 39) (.tmp 41) rfl BA v1 (l.take k) rfl ho1a.out (some ⟨w6.heap.size, 0, none⟩) 1 1 [x] rfl (nums_one hnc6.out) (by intro z hz; rw [List.mem_singleton.1 hz]; exact ux) rfl hl6 hB6a ?_; intro v2 w7 ho2 g2)
        have gA7 : wc.grownBy w7 none := g1n.andThen ((World.grownBy_alloc w6 _ _).trans g2) (fun j hj => .inl (by have := (row_ge ho1.1 j hj).1; omega))
        have hN7 : Nums w7 (some ⟨g, 0, none⟩) l := fun _ => ⟨g, 0, rfl, Nat.lt_of_lt_of_le hg gA7.size, fun i hi => by rw [Nat.zero_add]; exact (gA7.cell_far ⟨g, i, none⟩ hg (by simp)).trans (hcl.out i (by omega))⟩
        have hB7 : BA ≤ w7.heap.size := by have := gA7.size; omega
        have hl7 : (l.take k ++ [x]).length + (k - k) < 1000000 := by have := hl1.out; simp only [List.length_append, List.length_cons, List.length_nil]; omega
        replace ho2 := Lib.hid ho2
        replace gA7 := Lib.hid gA7
        clear g1 g1n g2 ho1 ho1a hnc6 hN
        have hD : ∀ a, Nums w7 a (l.drop k) := fun _ h => absurd (List.eq_nil_of_length_eq_zero (by rw [hl2.out]; omega)) h
        by_cases hck : cap = k
        · subst hck
          go_wp2_with (at_builtin; refine wpList_append_n rfl (.tmp 43) (.tmp 46) rfl BA v2 (l.take cap ++ [x]) rfl ho2.out _ _ _ (l.drop cap) rfl (hD _) (fun z hz => hU.out z (List.mem_of_mem_drop hz)) (by rw [hl2.out]; omega) (by omega) hB7 ?_; intro v3 w8 ho3 g3)
          all_goals (
            go_ret
            exact hX.out _ _ ho3 (gA7.out.andThen g3 (fun j hj => .inl (by have := (row_ge ho2.out.1 j hj).1; omega))))
        · have hck2 : (k : Int) < (cap : Int) := by omega
          go_wp2_with (at_builtin; refine wpList_append_n rfl (.tmp 43) (.tmp 46) rfl BA v2 (l.take k ++ [x]) rfl ho2.out _ _ _ (l.drop k) rfl (hD _) (fun z hz => hU.out z (List.mem_of_mem_drop hz)) (by rw [hl2.out]; omega) (by omega) hB7 ?_; intro v3 w8 ho3 g3)
          all_goals (
            go_ret
            exact hX.out _ _ ho3 (gA7.out.andThen g3 (fun j hj => .inl (by have := (row_ge ho2.out.1 j hj).1; omega))))

theorem modeL_nil (t : Int) : modeL [] t = 0 := rfl
theorem modeL_not {l : List (Int × Int)} {t : Int} (h : ∀ p ∈ l, p.1 ≠ t) : modeL l t = 0 := by
  have : l.find? (fun p => p.1 == t) = none := by
    rw [List.find?_eq_none]
    intro p hp
    simpa using h p hp
  simp [modeL, this]
theorem take_snoc {l : List Int} {i : Nat} (hi : i < l.length) : l.take (i + 1) = l.take i ++ [l.getD i 0] := by
  rw [List.take_succ_eq_append_getElem hi]
  simp [List.getD_eq_getElem?_getD, List.getElem?_eq_getElem hi]
theorem nums_at {w : World} {a : Option Addr} {l : List Int} (h : Nums w a l) {i : Nat} (hi : i < l.length) : ∃ eb off, a = some ⟨eb, off, none⟩ ∧ eb < w.heap.size ∧ ∀ j, j < l.length → w.cell? ⟨eb, off + j, none⟩ = some (.int .u32 (l.getD j 0)) := by
  obtain ⟨eb, off, h1, h2, h3⟩ := h (by rintro rfl; simp at hi)
  exact ⟨eb, off, h1, h2, h3⟩
end Go.Proofs.Ytilknhackmccpaa
