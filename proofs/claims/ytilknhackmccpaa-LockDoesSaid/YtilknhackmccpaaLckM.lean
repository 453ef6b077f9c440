/- Package lock: slices.Sorted(maps.Keys(waits)): the iterator, what collects it, what sorts it. -/
import Derived.Test.YtilknhackmccpaaLckT
import Derived.RangeFuncBox
import Derived.RangeFuncLeaves
import Derived.RangeFuncNested
import Derived.RangeFuncBound
import Derived.RangeFuncCalls
import Derived.Shelf.Abstract
import Derived.Shelf.RegionOpen
import Derived.WalkKit
import Derived.OwnWalkIn
import Derived.TacticsInMore
import Derived.LoopNIn
import Derived.LoopIn
import Derived.RegionIn
import Derived.Maps.AppendAt
import Derived.Sort.MapsRangeIn
set_option linter.unusedVariables false
set_option linter.unusedSimpArgs false
namespace Go.Proofs.Ytilknhackmccpaa
open Go.RowKit Go.Sort Go.Lib Go.Maps Go.Shelf

attribute [local go_sem] Oper.semAt_some

/-- Who was met, on the way over the map of who waits. -/
structure MetN (hs : List Int) (left : Lit → Bool) (l : List Int) : Prop where
  apart : l.Nodup
  there : ∀ k ∈ l, U k ∧ k ∈ hs ∧ left (.int .u32 k) = false
  all : ∀ k ∈ hs, left (.int .u32 k) = false → k ∈ l
theorem metN_start {D : DataW Value} {f : Int → Option Value} {hs : List Int} (hok : ∀ k ∈ hs, U k) (hks : ∀ k, k ∈ hs ↔ f k ≠ none) (ht : TellsV numT D f) : MetN hs (Maps.has D) [] :=
  ⟨List.nodup_nil, by simp, fun k hk hl => by
    exfalso
    obtain ⟨v, hv⟩ := Option.ne_none_iff_exists'.1 ((hks k).1 hk)
    have := Maps.has_true_of_atKey (ht.some (k := k) (hok k hk) hv)
    have h2 : Maps.has D (.int .u32 k) = true := this
    rw [h2] at hl
    cases hl⟩
theorem MetN.step {hs : List Int} {left : Lit → Bool} {l : List Int} (hok : ∀ k ∈ hs, U k) (M : MetN hs left l) {x : Int} (hx : U x) (hl : left (.int .u32 x) = true) (hv : x ∈ hs) :
    MetN hs (fun z => left z && !z.sameKey (.int .u32 x)) (l ++ [x]) := by
  have hnew : x ∉ l := fun h => by have := (M.there x h).2.2; rw [hl] at this; cases this
  refine ⟨?_, fun k hk => ?_, fun k hk hkl => ?_⟩
  · rw [List.nodup_append]
    exact ⟨M.apart, by simp, fun a ha b hb => by simp at hb; subst hb; exact fun e => hnew (e ▸ ha)⟩
  · rcases List.mem_append.1 hk with h | h
    · obtain ⟨h1, h2, h3⟩ := M.there k h
      exact ⟨h1, h2, by simp [h3]⟩
    · obtain rfl := List.mem_singleton.1 h
      exact ⟨hx, hv, by simp [Lit.sameKey]⟩
  · by_cases e : k = x
    · subst e; simp
    · refine List.mem_append_left _ (M.all k hk ?_)
      cases h : left (.int .u32 k) with
      | false => rfl
      | true => simp [h, Lit.sameKey, e] at hkl

set_option maxRecDepth 100000 in
set_option maxHeartbeats 1000000 in
theorem keysW1 (F : Fence) (n : Nat) (h73 : F.fn 73) (hro : F.round = none) (hn : 1 ≤ n) (l Bm b : Nat) (hs : List Int) (f : Int → Option Value) (J Jx : List Int → World → Prop)
    (hY : ∀ pre x W, J pre W → pre.length < hs.length → YieldAt F (n - 1) Try.prog l #[.int .u32 x] W fun e W' =>
      (e = .returned (.bool true) ∧ J (pre ++ [x]) W' ∧ KeepsWalks W W') ∨ (e = .returned (.bool false) ∧ Jx (pre ++ [x]) W'))
    (W : World) (hJ : AbidesFrom W.heap.size J) (hm : W.cell? ⟨Bm, 0, none⟩ = some (.map (some b))) (hM : MapV numT W b hs f) (h0 : J [] W) :
    CallsIn F n Try.prog 73 #[.func (.yield l) #[] #[], .pointer (some ⟨Bm, 0, none⟩)] W fun e W' => (∃ v, e = .returned v) ∧
      ((∃ ss : List Int, (ss.Nodup ∧ ∀ x, x ∈ ss ↔ x ∈ hs) ∧ J ss W') ∨ (∃ pre : List Int, True ∧ Jx pre W')) := by
  obtain ⟨⟨D, nn, hown, ht, hnk⟩, hks, hok⟩ := hM
  have M0 := metN_start hok hks ht
  have hcnt := hown.size_le
  have hfk : ∀ k v, U k → (∀ z, D.atKey (.int .u32 k) z = .held v) → k ∈ hs := fun k v hk hat => (hks k).2 fun e => by
    have h1 := ht.none (k := k) hk e
    rw [Maps.has_true_of_atKey (k := numT.l k) hat] at h1
    cases h1
  refine callsIn_of_wp Try.func73 rfl h73 ?_ hro
  simp only [Try.ntmps73, List.size_toArray, List.length_cons, List.length_nil, Nat.reduceAdd, Nat.reduceSub, Array.replicate_succ, Array.replicate_zero, List.push_toArray, List.append_toArray, List.nil_append, List.cons_append]
  gi_wp2_with (first
    | (gi_at_range; refine wpListIn_range_own _ rfl _ 73 rfl 23 54 law_u Try.underlying73 _ b nn _ rfl hown ?_; intro w0 hrg0 hg0 hs0)
    | gi_in)
  go_frame
  gi_loopw [3] (fun _ wr => ∃ (left : Lit → Bool) (cnt : Nat) (ss : List Int), wr.ranges Try.prog 23 rawR b W.heap.size nn D left cnt ∧ ss.length + cnt ≤ nn ∧ MetN hs left ss ∧ J ss wr)
    (fun _ wr => wr.rangeLeft b W.heap.size)
  case atStart =>
    exact ⟨_, _, [], hrg0, by simpa using hcnt, M0, hJ [] W w0 none h0 hg0 (fun r e => by cases e)⟩
  case round =>
    obtain ⟨left, cnt, ss, hrg, hcs, hC, hJs⟩ := hrel
    gi_wp2_with (first
      | (gi_at_next; refine wpListIn_next_ranges _ rfl _ rfl 23 law_u rawR (Value.int .u32) id (fun key kl hk => by obtain ⟨x, _, hx, _⟩ := numT.inv hk; exact ⟨x, hx⟩) (fun v _ _ => ⟨v, rfl⟩) b W.heap.size nn _ _ _ rfl hrg ?_ ?_)
      | gi_in)
    · intro hc0 hl0
      gi_wp2
      go_end0
      exact ⟨⟨_, rfl⟩, .inl ⟨ss, ⟨hC.apart, fun x => ⟨fun h => (hC.there x h).2.1, fun h => hC.all x h (hl0 _)⟩⟩, hJs⟩⟩
    · intro x c kl yd yp w2 cnt2 hkey hlk hv hat hrg2 hlt hg2 hs2 hen
      obtain ⟨x', hx', ex, rfl⟩ := numT.inv hkey
      obtain rfl : x = x' := by simpa [numT] using ex
      have hJ2 : J ss w2 := hJ ss wr w2 (some W.heap.size) hJs hg2 (fun r e => by cases e; exact ⟨Nat.le_refl _, hrg.iter_walk⟩)
      obtain ⟨fn, tmps, assign, body, hy, hR⟩ := hY ss x w2 hJ2 (by omega)
      clear hs2 ex
      gi_wp2
      refine hR.mono ?_
      have hxm : x ∈ hs := hfk x c hx' (by obtain ⟨rfl, rfl⟩ : yd = .held c ∧ yp = [] := by simpa [rawR, eq_comm] using hv
                                           exact hat)
      have hC2 := hC.step hok hx' hlk hxm
      rintro e W3 (⟨rfl, hJ3, hk3⟩ | ⟨rfl, hJx3⟩)
      · gi_wp2
        have hrg3 := hrg2.of_walks hk3
        go_roundw
        case rel => exact ⟨_, cnt2, ss ++ [x], hrg3, by simp; omega, hC2, hJ3⟩
        case measure => rw [hrg3.left_eq, hrg.left_eq]; exact hlt
      · gi_wp2
        refine bodyPost_ret (results_none rfl _ _ _) rfl ?_
        exact ⟨⟨_, rfl⟩, .inr ⟨ss ++ [x], trivial, hJx3⟩⟩
theorem keysW_stops (F : Fence) (n : Nat) (h73 : F.fn 73) (hro : F.round = none) (hn : 1 ≤ n) (Bm b : Nat) (hs : List Int) (f : Int → Option Value) (w : World) (hBm : Bm < w.heap.size)
    (hm : w.cell? ⟨Bm, 0, none⟩ = some (.map (some b))) (hM : MapV numT w b hs f) :
    SeqStopsK F n Try.prog 73 #[.pointer (some ⟨Bm, 0, none⟩)] (fun x : Int => #[Value.int .u32 x]) KeepsWalks (fun ss => ss.Nodup ∧ ∀ x, x ∈ ss ↔ x ∈ hs) (fun _ => True) hs.length w := fun l J Jx W hW hJ _ hY h0 =>
  keysW1 F n h73 hro hn l Bm b hs f J Jx hY W hJ ((hW.cell (p := ⟨Bm, 0, none⟩) hBm).trans hm) (hM.below hW hM.lt) h0

theorem info_n : (Try.prog.info? 23).map (fun i => (i.zero, i.size, i.bytes)) = some (some (.int .u32 0), 1, 4) := by kernel_rfl

set_option maxRecDepth 100000 in
set_option maxHeartbeats 2000000 in
theorem appendSeq_u (F : Fence) (n : Nat) (h87 : F.fn 87) (h73 : F.fn 73) (hro : F.round = none) (hn : 3 ≤ n) (Bm b : Nat) (hs : List Int) (f : Int → Option Value) (hlen : hs.length ≤ 1000000) (w : World) (hBm : Bm < w.heap.size)
    (hm : w.cell? ⟨Bm, 0, none⟩ = some (.map (some b))) (hM : MapV numT w b hs f) :
    CallsIn F n Try.prog 87 #[.slice none 0 0, .func (.func 73) #[] #[.pointer (some ⟨Bm, 0, none⟩)]] w fun e W' => ∃ (v : Value) (ss : List Int), e = .returned v ∧ (ss.Nodup ∧ ∀ x, x ∈ ss ↔ x ∈ hs) ∧ W'.ownsRow w.heap.size 23 1 v ss.length (ss.map (Value.int .u32)) ∧ RowKit.Below w.heap.size w W' := by
  have h1 : 1 ≤ n := by omega
  obtain ⟨i0, hi, hz0, hz1, hz2⟩ := info_parts info_n
  refine callsIn_of_wp_marks Try.func87 rfl h87 ?_ hro
  simp only [Try.ntmps87, List.size_toArray, List.length_cons, List.length_nil, Nat.reduceAdd, Nat.reduceSub, Array.replicate_succ, Array.replicate_zero, List.push_toArray, List.append_toArray, List.nil_append, List.cons_append]
  gi_wp2
  have bO := Boxed.new w 24 (.slice none 0 0)
  have hB0 : RowKit.Below w.heap.size w (w.alloc (.cells #[.slice none 0 0] 24)) := (RowKit.Below.refl _ w).alloc (Nat.le_refl _) _
  refine wpIn_rangeFunc_ownG hro h1 (gf := 73) (lb := #[.pointer (some ⟨Bm, 0, none⟩)]) rfl h73 (enters_of Try.func73 (by kernel_rfl) rfl)
    (keysW_stops F (n - 1) h73 hro (by omega) Bm b hs f w hBm hm hM) walksK_t walksK_b hB0 (fun _ => rfl)
    (fun pre W => (∃ v, Boxed W w.heap.size 24 v ∧ W.ownsRow w.heap.size 23 1 v pre.length (pre.map (Value.int .u32)) ∧ True) ∧ RowKit.Below w.heap.size w W)
    (fun _ _ _ => False)
    (OwnFrom.and (Own.from (holdsRow_own w.heap.size w.heap.size 24 23 1 (fun pre : List Int => pre.length) (fun pre : List Int => pre.map (Value.int .u32)) (fun (pre : List Int) v => True)) _) (ownFrom_below (Nat.le_refl _) (by simp)))
    (fun _ _ _ _ _ hs _ _ => hs)
    ⟨⟨_, bO, World.ownsRow_nil _ _ _ _, trivial⟩, hB0⟩
    (fun x => { tmps := #[.slice none 0 0, .func (.func 73) #[] #[.pointer (some ⟨Bm, 0, none⟩)], .pointer (some ⟨w.heap.size, 0, none⟩), undef, .slice none 0 0, .int .u32 x, .func (.func 73) #[] #[.pointer (some ⟨Bm, 0, none⟩)], .int .u32 x, undef, undef, undef, undef, undef], defers := [] }) ?assign ?body ?done ?stop
  case assign =>
    intro l x W K hK
    gi_wp2
    exact hK
  case body =>
    rintro l pre x W ⟨⟨v, hv, hrow, _⟩, hB⟩ hlt
    have hc := hv.cell
    gi_wp2_with (gi_at_builtin; refine wpListIn_append_own _ rfl _ _ 24 rfl w.heap.size 23 i0 (.int .u32 0) 1 4 Try.underlying24 hi hz0 hz1 hz2 rfl (by decide) _ _ _ rfl (hrow.alloc _) ⟨W.heap.size, 0, none⟩ 1 1 [.int .u32 x] rfl rfl (cell_one_new _ _ _) (by simp [Value.oneCell']) (by unfold maxLen; omega) (by omega) (by have := hB.size; simp; omega) ?_; intro v' w1 hown' hgrow _; obtain ⟨g', cap', rfl⟩ := ownsRow_succ hown'; obtain ⟨hv1, hv2, hr2, hk2, hb2⟩ := hv.appended (by decide) hrow hB.size (Nat.le_refl _) hown' hgrow; have hc1 := hv1.cell; have hf1 := hv1.frozen)
    exact ⟨hk2.from _, hk2.walks, ⟨_, hv2, by simpa using hr2, trivial⟩, hB.trans hb2⟩
  case done =>
    rintro D ys W hD hS ⟨⟨v, hv, hrow, _⟩, hB⟩ hK
    have hc := hv.cell
    gi_wp2
    refine ⟨by simp, .inl ⟨_, _, rfl, run_takeDeferred hK, ?_⟩⟩
    exact ⟨_, results_tmp rfl _ _ _, v, ys, rfl, hS, ownsRow_putObj hrow _ hK rfl, hB.trans (belowK_b (w := w) (Nat.le_refl _) W D _ _ (by simp at hD; omega) hK rfl rfl)⟩
  case stop =>
    rintro D c pre W _ _ h _
    exact h.elim

set_option maxRecDepth 100000 in
theorem mapsKeys_u (b : Nat) (w : World) :
    Calls Try.prog 51 #[.map (some b)] w fun e w' => e = .returned (.func (.func 73) #[] #[.pointer (some ⟨w.heap.size, 0, none⟩)]) ∧ w' = w.alloc (.cells #[.map (some b)] 73) := by
  go_enter Try.func51, Try.ntmps51
  go_wp2
  go_ret
  exact ⟨rfl, rfl⟩

set_option maxRecDepth 100000 in
theorem collect_u (Bm b : Nat) (hs : List Int) (f : Int → Option Value) (hlen : hs.length ≤ 1000000) (w : World) (hBm : Bm < w.heap.size)
    (hm : w.cell? ⟨Bm, 0, none⟩ = some (.map (some b))) (hM : MapV numT w b hs f) :
    Calls Try.prog 72 #[.func (.func 73) #[] #[.pointer (some ⟨Bm, 0, none⟩)]] w fun e W' => ∃ (v : Value) (ss : List Int), e = .returned v ∧ (ss.Nodup ∧ ∀ x, x ∈ ss ↔ x ∈ hs) ∧ W'.ownsRow w.heap.size 23 1 v ss.length (ss.map (Value.int .u32)) ∧ RowKit.Below w.heap.size w W' := by
  have hA := (callsIn_wide (n := 6)).1 (appendSeq_u Fence.wide 6 trivial trivial rfl (by omega) Bm b hs f hlen w hBm hm hM)
  clear hm hM
  go_enter Try.func72, Try.ntmps72
  go_wp2_with (go_at_call 87; refine hA.mono ?_; rintro e w1 ⟨v, ss, rfl, h1, h2, h3⟩)
  go_ret
  exact ⟨v, ss, rfl, h1, h2, h3⟩

set_option maxRecDepth 100000 in
theorem sorted_u (Bm b : Nat) (hs : List Int) (f : Int → Option Value) (hlen : hs.length ≤ 1000000) (hri : hs.Pairwise (· < ·)) (w : World) (hBm : Bm < w.heap.size)
    (hm : w.cell? ⟨Bm, 0, none⟩ = some (.map (some b))) (hM : MapV numT w b hs f) :
    Calls Try.prog 50 #[.func (.func 73) #[] #[.pointer (some ⟨Bm, 0, none⟩)]] w fun e W' => ∃ v, e = .returned v ∧ W'.ownsInts w.heap.size 23 .u32 v hs ∧ RowKit.Below w.heap.size w W' := by
  have hC := collect_u Bm b hs f hlen w hBm hm hM
  have hok : ∀ k ∈ hs, U k := hM.2.2
  clear hm hM
  go_enter Try.func50, Try.ntmps50
  go_wp2_with (go_at_call 72; refine hC.mono ?_; rintro e w1 ⟨v, ss, rfl, hS, hrow, hB⟩)
  have hown : w1.ownsInts w.heap.size 23 .u32 v ss := ⟨hrow, fun z hz => (hok z ((hS.2 z).1 hz)).wf⟩
  have hln : ss.length ≤ hs.length := nodup_len hS.1 fun x hx => (hS.2 x).1 hx
  have hso := sort_own w1 hown (by omega)
  obtain ⟨a8, c8, rfl⟩ := row_shape hrow
  go_wp2_with (go_at_call 59; refine hso.mono ?_; rintro e w2 ⟨rfl, zs, hp, hs2, ho, hg⟩)
  have hzs : zs = hs := by
    refine rising_eq (List.pairwise_iff_getElem.2 fun i j h1 h2 hij => ?_) hri fun x => by rw [hp.mem_iff, hS.2]
    have h3 := List.pairwise_iff_getElem.1 hs2 i j h1 h2 hij
    have h4 := (List.pairwise_iff_getElem.1 (hp.nodup_iff.2 hS.1) i j h1 h2 hij)
    omega
  subst hzs
  go_ret
  exact ⟨_, rfl, ho, hB.trans (below_of_grown hg (fun j hj => (row_ge hrow j hj).1) hB.size)⟩
end Go.Proofs.Ytilknhackmccpaa
