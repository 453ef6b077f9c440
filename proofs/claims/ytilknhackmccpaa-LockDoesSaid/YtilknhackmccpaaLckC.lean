/- Package lock: lists of wants in memory; of, mode; Package lock: apart, free; Package lock: rows of wants of the call's own; DeleteFunc, without. -/
import Derived.Test.YtilknhackmccpaaKntX
import Derived.Lib.SliceRun
import Derived.Shelf.SlicesQ.IndexFunc
import Derived.Shelf.SlicesE.Clone
set_option linter.unusedVariables false
set_option linter.unusedSimpArgs false
namespace Go.Proofs.Ytilknhackmccpaa
open Go.RowKit Go.Sort Go.Lib

/-- A want's two cells: who, in which mode. -/
def wCells (x : Int × Int) : List Value := [.int .u32 x.1, .int .u8 x.2]
/-- A block of wants. -/
def WB (w : World) (eb : Nat) : Prop := ∃ cs fr, w.heap[eb]? = some (.cells cs 77 fr)
theorem WB.lt {w : World} {eb : Nat} (h : WB w eb) : eb < w.heap.size := by
  obtain ⟨cs, fr, h⟩ := h
  exact (Array.getElem?_eq_some_iff.1 h).1
theorem WB.same {w w' : World} {eb : Nat} (h : WB w eb) (e : w'.heap[eb]? = w.heap[eb]?) : WB w' eb := by
  obtain ⟨cs, fr, h⟩ := h
  exact ⟨cs, fr, e.trans h⟩
/-- A list of wants behind a slice. -/
def Wants (w : World) (v : Value) (l : List (Int × Int)) : Prop :=
  ∃ a cap, v = .slice a l.length cap ∧ l.length ≤ min maxLen cap ∧ (∀ ad, a = some ad → ad = ⟨ad.block, ad.off, none⟩) ∧ (l ≠ [] → ∃ eb off, a = some ⟨eb, off, none⟩ ∧ WB w eb ∧
    ∀ i, i < l.length → w.cell? ⟨eb, off + i * 2, none⟩ = some (.int .u32 (l.getD i (0, 0)).1) ∧ w.cell? ⟨eb, off + i * 2 + 1, none⟩ = some (.int .u8 (l.getD i (0, 0)).2))
theorem Wants.keep {w w' : World} {v : Value} {l : List (Int × Int)} {B : Nat} (h : Wants w v l) (hb : RowKit.Below B w w') (hB : w.heap.size ≤ B) : Wants w' v l := by
  obtain ⟨a, cap, e, hl, hz, hc⟩ := h
  refine ⟨a, cap, e, hl, hz, fun hne => ?_⟩
  obtain ⟨eb, off, h1, h2, h3⟩ := hc hne
  exact ⟨eb, off, h1, h2.same (hb.block eb (Nat.lt_of_lt_of_le h2.lt hB)), fun i hi => ⟨(hb.cell (Nat.lt_of_lt_of_le h2.lt hB)).trans (h3 i hi).1, (hb.cell (Nat.lt_of_lt_of_le h2.lt hB)).trans (h3 i hi).2⟩⟩
/-- In which mode one stands in a list; 0: not at all. -/
def modeL (l : List (Int × Int)) (t : Int) : Int := ((l.find? fun p => p.1 == t).map (·.2)).getD 0

/-- The closure of 'of'. -/
theorem of_pred (t : Int) (B : Nat) (w : World) (hB : B < w.heap.size) (hcell : w.cell? ⟨B, 0, none⟩ = some (.int .u32 t)) :
    PredBelow Try.prog 80 #[.pointer (some ⟨B, 0, none⟩)] (fun x => .agg (wCells x).toArray) (fun x => x.1 == t) w := fun W x hb => by
  have hc : W.cell? ⟨B, 0, none⟩ = some (.int .u32 t) := (hb.cell (p := ⟨B, 0, none⟩) hB).trans hcell
  have hBW : B < W.heap.size := Nat.lt_of_lt_of_le hB hb.size
  have hne : B ≠ W.heap.size := by omega
  show Calls Try.prog 80 #[.agg #[.int .u32 x.1, .int .u8 x.2], .pointer (some ⟨B, 0, none⟩)] W _
  go_enter Try.func80, Try.ntmps80
  go_wp2
  all_goals (go_ret; exact ⟨by simp_all, hb.alloc hb.size _⟩)
theorem of_u (t : Int) (w : World) : Calls Try.prog 63 #[.int .u32 t] w fun e w' =>
    e = .returned (.func (.func 80) #[] #[.pointer (some ⟨w.heap.size, 0, none⟩)]) ∧ w' = w.alloc (.cells #[.int .u32 t] 23) := by
  go_enter Try.func63, Try.ntmps63
  go_wp2
  go_ret
  exact ⟨rfl, rfl⟩
theorem agg_w (w : World) : (isAgg 77).run Try.prog w = .ok true w := by kernel_rfl
theorem size_w (w : World) : (Go.sizeOf 77).run Try.prog w = .ok 2 w := by kernel_rfl
theorem wCells_at {w : World} {eb off : Nat} {l : List (Int × Int)} (h : ∀ i, i < l.length → w.cell? ⟨eb, off + i * 2, none⟩ = some (.int .u32 (l.getD i (0, 0)).1) ∧ w.cell? ⟨eb, off + i * 2 + 1, none⟩ = some (.int .u8 (l.getD i (0, 0)).2)) :
    ∀ j, j < l.length → ∀ i v, (wCells l[j]!)[i]? = some v → w.cell? ⟨eb, off + j * 2 + i, none⟩ = some v := fun j hj i v hi => by
  have h1 := h j hj
  have e : l.getD j (0, 0) = l[j]! := by
    rw [getElem!_pos l j hj, List.getD_eq_getElem?_getD, List.getElem?_eq_getElem hj]
    rfl
  rw [e] at h1
  generalize l[j]! = y at hi h1
  match i, hi with
  | 0, hi => simp [wCells] at hi; rw [← hi]; exact h1.1
  | 1, hi => simp [wCells] at hi; rw [← hi]; exact h1.2
  | i + 2, hi => simp [wCells] at hi
theorem idx_none (a : Option Addr) (cap : Nat) (fv : Value) (w : World) :
    Calls Try.prog 62 #[.slice a 0 cap, fv] w fun e w' => e = .returned (.int .i64 (-1)) ∧ w' = w := by
  go_enter Try.func62, Try.ntmps62
  go_wp2
  refine wp_loop_rounds 1 ?_
  rw [rounds_succ]
  go_wp2
  go_ret
  exact ⟨rfl, rfl⟩
/-- slices.IndexFunc(l, of(t)). -/
theorem idx_u (v : Value) (l : List (Int × Int)) (t : Int) (B : Nat) (w : World) (hv : Wants w v l) (hB : B < w.heap.size) (hcell : w.cell? ⟨B, 0, none⟩ = some (.int .u32 t)) :
    Calls Try.prog 62 #[v, .func (.func 80) #[] #[.pointer (some ⟨B, 0, none⟩)]] w fun e w' =>
      e = .returned (.int .i64 (idxBy (fun _ y => y.1 == t) l (0, 0))) ∧ RowKit.Below w.heap.size w w' := by
  have eg : ∀ args w, (callFunc 80 args).run Try.prog w = .ok (.enter 80 args) w := enters_of Try.func80 (by kernel_rfl) rfl
  obtain ⟨a, cap, rfl, hl, hz, hc⟩ := hv
  rcases l with _ | ⟨p, r⟩
  · refine (idx_none a cap _ w).mono ?_
    rintro e w' ⟨rfl, rfl⟩
    exact ⟨rfl, RowKit.Below.refl _ _⟩
  · obtain ⟨eb, off, rfl, hb, hcc⟩ := hc (by simp)
    replace hb := hb.lt
    have hcon := AnyQ.slices_IndexFunc Try.idxW 2 agg_w size_w wCells (fun _ => rfl) (fun x => x.1 == t) 80 #[.pointer (some ⟨B, 0, none⟩)] eg eb off (p :: r).length cap (p :: r) w (of_pred t B w hB hcell) (Nat.le_refl _) (by unfold maxLen at hl; omega) hb (wCells_at hcc)
    change Calls Try.prog 62 _ _ _ at hcon
    rw [List.take_length] at hcon
    exact hcon
theorem modeL_idx (l : List (Int × Int)) (t : Int) : (∃ k : Nat, k < l.length ∧ idxBy (fun _ y => y.1 == t) l (0, 0) = k ∧ modeL l t = (l.getD k (0, 0)).2 ∧ (l.getD k (0, 0)).1 = t ∧ ∀ j, j < k → (l.getD j (0, 0)).1 ≠ t) ∨ (idxBy (fun _ y => y.1 == t) l (0, 0) = -1 ∧ modeL l t = 0 ∧ ∀ p ∈ l, p.1 ≠ t) := by
  have key : ∀ (l : List (Int × Int)) (i : Nat), (∃ k : Nat, k < l.length ∧ idxByFrom (fun _ (y : Int × Int) => y.1 == t) (0, 0) l i = ((i + k : Nat) : Int) ∧ modeL l t = (l.getD k (0, 0)).2 ∧ (l.getD k (0, 0)).1 = t ∧ ∀ j, j < k → (l.getD j (0, 0)).1 ≠ t) ∨ (idxByFrom (fun _ (y : Int × Int) => y.1 == t) (0, 0) l i = -1 ∧ modeL l t = 0 ∧ ∀ p ∈ l, p.1 ≠ t) := by
    intro l
    induction l with
    | nil => intro i; exact .inr ⟨rfl, rfl, by simp⟩
    | cons p r ih =>
      intro i
      by_cases hp : p.1 = t
      · left
        refine ⟨0, by simp, by simp [idxByFrom, hp], by simp [modeL, hp], by simpa using hp, fun j hj => absurd hj (Nat.not_lt_zero _)⟩
      · have hb : (p.1 == t) = false := by simpa using hp
        have hm : modeL (p :: r) t = modeL r t := by simp [modeL, hb]
        rcases ih (i + 1) with ⟨k, h1, h2, h3, h4, h5⟩ | ⟨h1, h2, h3⟩
        · left
          refine ⟨k + 1, by simpa using h1, ?_, by rw [hm, h3]; rfl, h4, fun j hj => ?_⟩
          · simp only [idxByFrom, hb]
            rw [show i + (k + 1) = i + 1 + k by omega]
            simpa using h2
          · rcases j with _ | j
            · exact hp
            · exact h5 j (by omega)
        · right
          refine ⟨?_, by rw [hm, h2], fun q hq => ?_⟩
          · simp only [idxByFrom, hb]
            simpa using h1
          · rcases List.mem_cons.1 hq with rfl | hq
            · exact hp
            · exact h3 q hq
  have := key l 0
  simpa [idxBy] using this
/-- mode. -/
theorem mode_u (v : Value) (l : List (Int × Int)) (t : Int) (w : World) (hv : Wants w v l) :
    Calls Try.prog 44 #[v, .int .u32 t] w fun e w' => e = .returned (.int .u8 (modeL l t)) ∧ RowKit.Below w.heap.size w w' := by
  have b1 := below_alloc w (.cells #[.int .u32 t] 23)
  have hI := idx_u v l t w.heap.size (w.alloc (.cells #[.int .u32 t] 23)) (hv.keep b1 (Nat.le_refl _)) (by simp) (by rw [cell_of_heap (heap_alloc_new w _)]; rfl)
  have hO := of_u t w
  have hm := modeL_idx l t
  obtain ⟨a, cap, rfl, hl, hz, hc⟩ := hv
  obtain ⟨w1, hw1⟩ : ∃ x, w.alloc (.cells #[.int .u32 t] 23) = x := ⟨_, rfl⟩
  rw [hw1] at hI hO b1
  obtain ⟨n, hn⟩ : ∃ n, l.length = n := ⟨_, rfl⟩
  rcases hm with ⟨k, h1, h2, h3, _, _⟩ | ⟨h2, h3, _⟩
  · obtain ⟨eb, off, rfl, hb, hcc⟩ := hc (by rintro rfl; simp at h1)
    replace hb := hb.lt
    have c2 := (hcc k h1).2
    rw [h2] at hI
    rw [h3]
    rw [hn] at hI h1 ⊢
    obtain ⟨m, hm⟩ : ∃ m, (l.getD k (0, 0)).2 = m := ⟨_, rfl⟩
    rw [hm] at c2 ⊢
    have hki : (k : Int) < (n : Int) := by omega
    clear hcc hc h2 h3 hm
    replace hw1 := Lib.hid hw1
    go_enter Try.func44, Try.ntmps44
    go_upto_region 2 with (first
      | (go_at_call 63; refine hO.mono ?_; intro e w' h; rw [h.1, h.2]; clear h w' e)
      | (go_at_call 62; refine hI.mono ?_; rintro e w2 ⟨rfl, b2⟩))
    have d2 : w2.cell? ⟨eb, off + k * 2 + 1, none⟩ = some (.int .u8 m) := ((b2.cell (Nat.lt_of_lt_of_le hb b1.size)).trans ((b1.cell hb).trans c2))
    have bT := Lib.hid (b1.trans (b2.mono b1.size))
    go_wp2
    go_ret
    exact ⟨rfl, bT.out⟩
  · rw [h2] at hI
    rw [h3]
    rw [hn] at hI ⊢
    clear hc h2 h3
    replace hw1 := Lib.hid hw1
    go_enter Try.func44, Try.ntmps44
    go_upto_region 2 with (first
      | (go_at_call 63; refine hO.mono ?_; intro e w' h; rw [h.1, h.2]; clear h w' e)
      | (go_at_call 62; refine hI.mono ?_; rintro e w2 ⟨rfl, b2⟩))
    have bT := Lib.hid (b1.trans (b2.mono b1.size))
    go_wp2
    go_ret
    exact ⟨rfl, bT.out⟩
end Go.Proofs.Ytilknhackmccpaa

namespace Go.Proofs.Ytilknhackmccpaa
open Go.RowKit Go.Sort Go.Lib

/-- Whether two may not hold a lock together. -/
def apartB (a b : Int × Int) : Bool := (a.1 != b.1) && ((a.2 == 2) || (b.2 == 2))
set_option maxHeartbeats 1000000 in
theorem apart_u (a b : Int × Int) (w : World) : Calls Try.prog 66 #[.agg #[.int .u32 a.1, .int .u8 a.2], .agg #[.int .u32 b.1, .int .u8 b.2]] w fun e w' => e = .returned (.bool (apartB a b)) ∧ RowKit.Below w.heap.size w w' := by
  have b1 := below_alloc w (.cells #[.int .u32 a.1, .int .u8 a.2] 77)
  have b2 := below_alloc (w.alloc (.cells #[.int .u32 a.1, .int .u8 a.2] 77)) (.cells #[.int .u32 b.1, .int .u8 b.2] 77)
  have bT := Lib.hid (b1.trans (b2.mono b1.size))
  unfold apartB
  obtain ⟨x, hx⟩ : ∃ x, (a.1 != b.1) = x := ⟨_, rfl⟩
  obtain ⟨y, hy⟩ : ∃ x, (a.2 == 2) = x := ⟨_, rfl⟩
  obtain ⟨z, hz⟩ : ∃ x, (b.2 == 2) = x := ⟨_, rfl⟩
  rw [hx, hy, hz]
  clear b1 b2
  obtain ⟨a1, a2⟩ := a
  obtain ⟨c1, c2⟩ := b
  simp only at hx hy hz bT ⊢
  cases x <;> cases y <;> cases z
  all_goals (
    go_enter Try.func66, Try.ntmps66
    go_wp2
    go_ret
    exact ⟨rfl, bT.out⟩)
/-- The closure of 'free'. -/
theorem free_pred (x : Int × Int) (B : Nat) (w : World) (hB : B < w.heap.size) (hbox : w.heap[B]? = some (.cells #[.int .u32 x.1, .int .u8 x.2] 77)) :
    PredBelow Try.prog 65 #[.pointer (some ⟨B, 0, none⟩)] (fun x => .agg (wCells x).toArray) (fun y => apartB y x) w := fun W y hb => by
  have hk : W.heap[B]? = some (.cells #[.int .u32 x.1, .int .u8 x.2] 77) := (hb.block B hB).trans hbox
  have b1 := below_alloc W (.cells #[.int .u32 y.1, .int .u8 y.2] 77)
  have hk1 := (b1.block B (Nat.lt_of_lt_of_le hB hb.size)).trans hk
  have k2 := heap_alloc_new W (.cells #[.int .u32 y.1, .int .u8 y.2] 77)
  obtain ⟨N, hN⟩ : ∃ N, W.heap.size = N := ⟨_, rfl⟩
  obtain ⟨w1, hw1⟩ : ∃ x, W.alloc (.cells #[.int .u32 y.1, .int .u8 y.2] 77) = x := ⟨_, rfl⟩
  rw [hw1] at b1 hk1 k2
  rw [hN] at k2
  have c0 : w1.cell? ⟨B, 0, none⟩ = some (.int .u32 x.1) := by rw [cell_of_heap hk1]; rfl
  have c1 : w1.cell? ⟨B, 1, none⟩ = some (.int .u8 x.2) := by rw [cell_of_heap hk1]; rfl
  have c2 : w1.cell? ⟨N, 0, none⟩ = some (.int .u32 y.1) := by rw [cell_of_heap k2]; rfl
  have c3 : w1.cell? ⟨N, 1, none⟩ = some (.int .u8 y.2) := by rw [cell_of_heap k2]; rfl
  have hA := apart_u y x w1
  have hb1 := Lib.hid (hb.trans (b1.mono hb.size))
  have hs1 : w.heap.size ≤ w1.heap.size := hb1.out.size
  clear hk hk1 k2 hbox b1
  show Calls Try.prog 65 #[.agg #[.int .u32 y.1, .int .u8 y.2], .pointer (some ⟨B, 0, none⟩)] W _
  go_enter Try.func65, Try.ntmps65
  go_wp2_with (go_at_call 66; refine hA.mono ?_; rintro e w2 ⟨rfl, b2⟩)
  go_ret
  exact ⟨rfl, hb1.out.trans (b2.mono hs1)⟩
theorem hasf_none (a : Option Addr) (cap : Nat) (fv : Value) (w : World) :
    Calls Try.prog 64 #[.slice a 0 cap, fv] w fun e w' => e = .returned (.bool false) ∧ w' = w := by
  have hI := idx_none a cap fv w
  go_enter Try.func64, Try.ntmps64
  go_wp2_with (go_at_call 62; refine hI.mono ?_; intro e w' h; rw [h.1, h.2]; clear h w' e)
  go_ret
  exact ⟨rfl, rfl⟩
/-- slices.ContainsFunc over the closure of 'free'. -/
theorem hasf_u (v : Value) (l : List (Int × Int)) (x : Int × Int) (B : Nat) (w : World) (hv : Wants w v l) (hB : B < w.heap.size) (hbox : w.heap[B]? = some (.cells #[.int .u32 x.1, .int .u8 x.2] 77)) :
    Calls Try.prog 64 #[v, .func (.func 65) #[] #[.pointer (some ⟨B, 0, none⟩)]] w fun e w' =>
      e = .returned (.bool (l.any fun y => apartB y x)) ∧ RowKit.Below w.heap.size w w' := by
  have eg : ∀ args w, (callFunc 65 args).run Try.prog w = .ok (.enter 65 args) w := enters_of Try.func65 (by kernel_rfl) rfl
  obtain ⟨a, cap, rfl, hl, hz, hc⟩ := hv
  rcases l with _ | ⟨p, r⟩
  · refine (hasf_none a cap _ w).mono ?_
    rintro e w' ⟨rfl, rfl⟩
    exact ⟨rfl, RowKit.Below.refl _ _⟩
  · obtain ⟨eb, off, rfl, hb, hcc⟩ := hc (by simp)
    replace hb := hb.lt
    have hcon := AnyQ.slices_ContainsFunc Try.hasW 2 agg_w size_w wCells (fun _ => rfl) (fun y => apartB y x) 65 #[.pointer (some ⟨B, 0, none⟩)] eg eb off (p :: r).length cap (p :: r) w (free_pred x B w hB hbox) (Nat.le_refl _) (by unfold maxLen at hl; omega) hb (wCells_at hcc)
    change Calls Try.prog 64 _ _ _ at hcon
    rw [List.take_length] at hcon
    exact hcon
/-- Whether one may have the lock. -/
def freeB (l : List (Int × Int)) (x : Int × Int) : Bool := !(l.any fun y => apartB y x)
theorem free_u (LB : Nat) (v : Value) (l : List (Int × Int)) (x : Int × Int) (w : World) (hL : LB < w.heap.size) (hc : w.cell? ⟨LB, 0, none⟩ = some v) (hv : Wants w v l) :
    Calls Try.prog 45 #[.pointer (some ⟨LB, 0, none⟩), .agg #[.int .u32 x.1, .int .u8 x.2]] w fun e w' => e = .returned (.bool (freeB l x)) ∧ RowKit.Below w.heap.size w w' := by
  have b1 := below_alloc w (.cells #[.int .u32 x.1, .int .u8 x.2] 77)
  have k1 := heap_alloc_new w (.cells #[.int .u32 x.1, .int .u8 x.2] 77)
  have hH := hasf_u v l x w.heap.size _ (hv.keep b1 (Nat.le_refl _)) (by simp) k1
  have c1 := (b1.cell (p := ⟨LB, 0, none⟩) hL).trans hc
  obtain ⟨a, cap, rfl, _⟩ := hv
  obtain ⟨N, hN⟩ : ∃ N, w.heap.size = N := ⟨_, rfl⟩
  obtain ⟨w1, hw1⟩ : ∃ y, w.alloc (.cells #[.int .u32 x.1, .int .u8 x.2] 77) = y := ⟨_, rfl⟩
  obtain ⟨bb, hbb⟩ : ∃ b, (l.any fun y => apartB y x) = b := ⟨_, rfl⟩
  rw [freeB, hbb]
  rw [hw1, hbb] at hH
  rw [hw1] at c1 b1
  rw [hN] at hH b1 ⊢
  have hs := b1.size
  clear k1 hbb
  go_enter Try.func45, Try.ntmps45
  go_wp2_with (go_at_call 64; refine hH.mono ?_; rintro e w2 ⟨rfl, b2⟩)
  go_ret
  exact ⟨rfl, b1.trans (b2.mono (by omega))⟩
end Go.Proofs.Ytilknhackmccpaa

namespace Go.Proofs.Ytilknhackmccpaa
open Go.RowKit Go.Sort Go.Lib

/-- Block g is a row of N wants, of which the first hold d. -/
def RW (w : World) (g N : Nat) (d : List (Int × Int)) : Prop :=
  ∃ cur : Array Value, w.heap[g]? = some (.cells cur 77 (0, 0)) ∧ cur.size = N * 2 ∧ d.length ≤ N ∧ ∀ i, i < d.length → cur[i * 2]? = some (.int .u32 (d.getD i (0, 0)).1) ∧ cur[i * 2 + 1]? = some (.int .u8 (d.getD i (0, 0)).2)
section
variable {w w' : World} {g N : Nat} {d : List (Int × Int)}
theorem RW.lt (h : RW w g N d) : g < w.heap.size := by
  obtain ⟨cur, h1, _⟩ := h
  exact (Array.getElem?_eq_some_iff.1 h1).1
theorem RW.wb (h : RW w g N d) : WB w g := by
  obtain ⟨cur, h1, _⟩ := h
  exact ⟨cur, _, h1⟩
theorem RW.keep (h : RW w g N d) (hb : w'.heap[g]? = w.heap[g]?) : RW w' g N d := by
  obtain ⟨cur, h1, h2⟩ := h
  exact ⟨cur, hb.trans h1, h2⟩
theorem RW.kept {row : Option Nat} (h : RW w g N d) (hg : w.grownBy w' row) (hne : some g ≠ row) : RW w' g N d := h.keep (hg.block g h.lt hne)
theorem RW.cells (h : RW w g N d) {i : Nat} (hi : i < d.length) : w.cell? ⟨g, i * 2, none⟩ = some (.int .u32 (d.getD i (0, 0)).1) ∧ w.cell? ⟨g, i * 2 + 1, none⟩ = some (.int .u8 (d.getD i (0, 0)).2) := by
  obtain ⟨cur, h1, _, _, h4⟩ := h
  rw [cell_of_heap h1, cell_of_heap h1]
  exact h4 i hi
theorem RW.froz (h : RW w g N d) (i : Nat) : w.frozen? ⟨g, i, none⟩ = false := by
  obtain ⟨cur, h1, _⟩ := h
  simp [World.frozen?, h1]
/-- A want is stored. -/
theorem RW.set (h : RW w g N d) {i : Nat} (hi : i < d.length) (x : Int × Int) : RW ((w.setCell ⟨g, i * 2, none⟩ (.int .u32 x.1)).setCell ⟨g, i * 2 + 1, none⟩ (.int .u8 x.2)) g N (d.set i x) := by
  obtain ⟨cur, h1, h2, h3, h4⟩ := h
  refine ⟨(cur.setIfInBounds (i * 2) (.int .u32 x.1)).setIfInBounds (i * 2 + 1) (.int .u8 x.2), ?_, by simpa using h2, by simpa using h3, fun j hj => ?_⟩
  · simp [World.setCell, Array.getElem?_modify, h1]
  · simp only [List.length_set] at hj
    have hc : ∀ k, k < N * 2 → k < cur.size := fun k hk => by omega
    by_cases hij : i = j
    · subst hij
      have e : (d.set i x).getD i (0, 0) = x := by simp [List.getD_eq_getElem?_getD, hi]
      rw [e]
      constructor
      · rw [Array.getElem?_setIfInBounds, if_neg (by omega), Array.getElem?_setIfInBounds, if_pos rfl, if_pos (by omega)]
      · rw [Array.getElem?_setIfInBounds, if_pos rfl, if_pos (by simp; omega)]
    · have e : (d.set i x).getD j (0, 0) = d.getD j (0, 0) := by simp [List.getD_eq_getElem?_getD, List.getElem?_set_ne hij]
      rw [e]
      constructor
      · rw [Array.getElem?_setIfInBounds, if_neg (by omega), Array.getElem?_setIfInBounds, if_neg (by omega)]
        exact (h4 j hj).1
      · rw [Array.getElem?_setIfInBounds, if_neg (by omega), Array.getElem?_setIfInBounds, if_neg (by omega)]
        exact (h4 j hj).2
theorem RW.wants (h : RW w g N d) (hN : N ≤ maxLen) (cap : Nat) (hcap : d.length ≤ cap) : Wants w (.slice (some ⟨g, 0, none⟩) d.length cap) d := by
  have h3 : d.length ≤ N := by obtain ⟨_, _, _, h3, _⟩ := h; exact h3
  refine ⟨_, cap, rfl, by omega, (by rintro ad ⟨⟩; rfl), fun _ => ⟨g, 0, rfl, h.wb, fun i hi => ?_⟩⟩
  rw [Nat.zero_add]
  exact h.cells hi
theorem RW.pre {k : Nat} (h : RW w g N d) : RW w g N (d.take k) := by
  obtain ⟨cur, h1, h2, h3, h4⟩ := h
  refine ⟨cur, h1, h2, by rw [List.length_take]; omega, fun i hi => ?_⟩
  rw [List.length_take] at hi
  have := h4 i (by omega)
  have e : (d.take k).getD i (0, 0) = d.getD i (0, 0) := by simp [List.getD_eq_getElem?_getD, List.getElem?_take_of_lt (show i < k by omega)]
  rw [e]
  exact this
end
theorem zero_w (w : World) : (zeroValue 77).run Try.prog w = .ok (.agg #[.int .u32 0, .int .u8 0]) w := by kernel_rfl
/-- clear of what lies behind the first i. -/
theorem run_clear_w {w : World} {g N : Nat} {d : List (Int × Int)} (h : RW w g N d) (i n c : Nat) (hin : i + n ≤ d.length) :
    ∃ w', (∀ ty, (Builtin.clear_ #[78] ty #[.slice (some ⟨g, i * 2, none⟩) n c]).run Try.prog w = .ok (.tuple #[]) w') ∧ RW w' g N (d.take i) ∧ w.grownBy w' (some g) := by
  cases n with
  | zero => exact ⟨w, fun ty => by simp [Builtin.clear_, run_underlying Try.underlying78], h.pre, World.grownBy.refl _ _⟩
  | succ n =>
    have hd : d.length ≤ N := by obtain ⟨_, _, _, h3, _⟩ := h; exact h3
    have hp := h.pre (k := i)
    obtain ⟨cur, h1, h2, h3, h4⟩ := h
    have hz : ∀ v ∈ (Builtin.zeroCells #[Value.int .u32 0, .int .u8 0] (n + 1)).toList, v.oneCell' = true := by
      intro v hv
      simp only [Builtin.zeroCells, Array.toList_map, List.mem_map, Array.mem_toList_iff, Array.mem_range] at hv
      obtain ⟨k, _, rfl⟩ := hv
      have : k % 2 = 0 ∨ k % 2 = 1 := by omega
      rcases this with e | e <;> simp [e] <;> rfl
    have hl : (Builtin.zeroCells #[Value.int .u32 0, .int .u8 0] (n + 1)).toList.length = (n + 1) * 2 := by simp [Builtin.zeroCells]
    have hst := run_storeCells_at Try.prog g (i * 2) 77 (Builtin.zeroCells #[Value.int .u32 0, .int .u8 0] (n + 1)).toList 0 cur w h1 (by rw [hl]; omega) hz
    obtain ⟨Z, hZ⟩ : ∃ Z, (Builtin.zeroCells #[Value.int .u32 0, .int .u8 0] (n + 1)).toList = Z := ⟨_, rfl⟩
    rw [hZ] at hl hst
    simp only [Nat.add_zero] at hst
    refine ⟨w.setRow g (cur.toList.take (i * 2) ++ Z ++ cur.toList.drop (i * 2 + Z.length)).toArray, fun ty => ?_, ?_, ⟨rfl, rfl, rfl, by simp [World.setRow], fun k hk hne => setRow_other w g k _ (fun e => hne (by rw [e]))⟩⟩
    · have hst2 : ∀ W, (zeroValue 77).run Try.prog W = .ok (.agg #[.int .u32 0, .int .u8 0]) W := zero_w
      simp only [Builtin.clear_, List.getElem?_toArray, List.getElem?_cons_zero, Sem.run_bind, run_underlying Try.underlying78, Result.andThen_ok, hst2, Value.cells, hZ, hst, Sem.run_pure]
    · obtain ⟨cur2, k1, k2, k3, k4⟩ := hp
      rw [h1] at k1
      cases k1
      refine ⟨_, setRow_heap w g cur _ _ _ h1, ?_, k3, fun j hj => ?_⟩
      · simp [hl]
        omega
      · have hj' : j < i := by rw [List.length_take] at hj; omega
        have := k4 j hj
        have e : ∀ m, m < i * 2 → (cur.toList.take (i * 2) ++ Z ++ cur.toList.drop (i * 2 + Z.length)).toArray[m]? = cur[m]? := fun m hm => by
          rw [List.getElem?_toArray, List.append_assoc, List.getElem?_append_left (by rw [List.length_take, Array.length_toList]; omega), List.getElem?_take_of_lt hm, Array.getElem?_toList]
        rw [e _ (by omega), e _ (by omega)]
        exact this
end Go.Proofs.Ytilknhackmccpaa
