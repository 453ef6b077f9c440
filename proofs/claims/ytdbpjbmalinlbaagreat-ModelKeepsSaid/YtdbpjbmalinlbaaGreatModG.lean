/- Contracts of cmp.Compare, cmp.Or, compare; the library's sort at cells; The library's sort at cells of one's own. -/
import Derived.Test.YtdbpjbmalinlbaaGreatModE
import Derived.Test.YtdbpjbmalinlbaaGreatSort
import Derived.Shelf.SlSortCmp.NoneTotal
namespace Go.Proofs.YtdbpjbmalinlbaaGreat
open Go.RowKit Go.Shelf Go.Lib Go.Sort

def cmpI (x y : Int) : Int := if x < y then -1 else if y < x then 1 else 0
def orI (a b c : Int) : Int := if a = 0 then (if b = 0 then c else b) else a
def cmpC (x y : Cel) : Int := orI (cmpI x.k.1 y.k.1) (cmpI x.k.2.1 y.k.2.1) (cmpI x.k.2.2 y.k.2.2)

theorem nan8 (a : Int) (w : World) : Calls Tryz.prog 40 #[.int .u8 a] w fun e w' => e = .returned (.bool false) ∧ w' = w := by
  go_enter Tryz.func40, Tryz.ntmps40
  go_wp2
  go_ret
  exact ⟨rfl, rfl⟩
theorem nan32 (a : Int) (w : World) : Calls Tryz.prog 41 #[.int .u32 a] w fun e w' => e = .returned (.bool false) ∧ w' = w := by
  go_enter Tryz.func41, Tryz.ntmps41
  go_wp2
  go_ret
  exact ⟨rfl, rfl⟩
theorem cmpI_lt {x y : Int} (h : x < y) : cmpI x y = -1 := if_pos h
theorem cmpI_gt {x y : Int} (h : y < x) : cmpI x y = 1 := by unfold cmpI; rw [if_neg (by omega), if_pos h]
theorem cmpI_eq {x y : Int} (h : x = y) : cmpI x y = 0 := by unfold cmpI; rw [if_neg (by omega), if_neg (by omega)]
theorem cmp8 (x y : Int) (w : World) : Calls Tryz.prog 24 #[.int .u8 x, .int .u8 y] w fun e w' => e = .returned (.int .i64 (cmpI x y)) ∧ w' = w := by
  rcases Int.lt_trichotomy x y with h | h | h
  · rw [cmpI_lt h]
    go_enter Tryz.func24, Tryz.ntmps24
    go_wp2_with (go_at_call 40; refine (nan8 _ _).mono ?_; rintro e w' ⟨rfl, rfl⟩)
    go_ret
    exact ⟨rfl, rfl⟩
  · rw [cmpI_eq h]
    subst h
    go_enter Tryz.func24, Tryz.ntmps24
    go_wp2_with (go_at_call 40; refine (nan8 _ _).mono ?_; rintro e w' ⟨rfl, rfl⟩)
    go_ret
    exact ⟨rfl, rfl⟩
  · rw [cmpI_gt h]
    have h2 : ¬ x < y := by omega
    go_enter Tryz.func24, Tryz.ntmps24
    go_wp2_with (go_at_call 40; refine (nan8 _ _).mono ?_; rintro e w' ⟨rfl, rfl⟩)
    go_ret
    exact ⟨rfl, rfl⟩
theorem cmp32 (x y : Int) (w : World) : Calls Tryz.prog 25 #[.int .u32 x, .int .u32 y] w fun e w' => e = .returned (.int .i64 (cmpI x y)) ∧ w' = w := by
  rcases Int.lt_trichotomy x y with h | h | h
  · rw [cmpI_lt h]
    go_enter Tryz.func25, Tryz.ntmps25
    go_wp2_with (go_at_call 41; refine (nan32 _ _).mono ?_; rintro e w' ⟨rfl, rfl⟩)
    go_ret
    exact ⟨rfl, rfl⟩
  · rw [cmpI_eq h]
    subst h
    go_enter Tryz.func25, Tryz.ntmps25
    go_wp2_with (go_at_call 41; refine (nan32 _ _).mono ?_; rintro e w' ⟨rfl, rfl⟩)
    go_ret
    exact ⟨rfl, rfl⟩
  · rw [cmpI_gt h]
    have h2 : ¬ x < y := by omega
    go_enter Tryz.func25, Tryz.ntmps25
    go_wp2_with (go_at_call 41; refine (nan32 _ _).mono ?_; rintro e w' ⟨rfl, rfl⟩)
    go_ret
    exact ⟨rfl, rfl⟩
set_option maxRecDepth 100000 in
theorem or_any (a b c : Int) (B : Nat) (w : World) (h0 : w.cell? ⟨B, 0, none⟩ = some (.int .i64 a)) (h1 : w.cell? ⟨B, 1, none⟩ = some (.int .i64 b)) (h2 : w.cell? ⟨B, 2, none⟩ = some (.int .i64 c)) :
    Calls Tryz.prog 23 #[.slice (some ⟨B, 0, none⟩) 3 3] w fun e w' => e = .returned (.int .i64 (orI a b c)) ∧ w' = w := by
  have done : ∀ x : Int, (x == 0) = false ∨ x = 0 := fun x => by by_cases h : x = 0 <;> simp [h]
  have k1 : ∀ {x : Int}, (x == 0) = false → ¬ x = 0 := fun h e => by rw [e] at h; cases h
  rcases done a with ha | ha
  · have e : orI a b c = a := by unfold orI; rw [if_neg (k1 ha)]
    rw [e]
    have k := k1 ha
    go_enter Tryz.func23, Tryz.ntmps23
    go_wp2
    refine wp_loop_rounds 1 ?_
    rw [rounds_succ]
    go_wp2
    go_ret
    exact ⟨rfl, rfl⟩
  subst ha
  rcases done b with hb | hb
  · have e : orI 0 b c = b := by unfold orI; rw [if_pos rfl, if_neg (k1 hb)]
    rw [e]
    have k := k1 hb
    go_enter Tryz.func23, Tryz.ntmps23
    go_wp2
    refine wp_loop_rounds 2 ?_
    rw [rounds_succ]
    go_wp2
    rw [rounds_succ]
    go_wp2
    go_ret
    exact ⟨rfl, rfl⟩
  subst hb
  have e : orI 0 0 c = c := by unfold orI; rw [if_pos rfl, if_pos rfl]
  rw [e]
  rcases done c with hc | hc
  · have k := k1 hc
    go_enter Tryz.func23, Tryz.ntmps23
    go_wp2
    refine wp_loop_rounds 3 ?_
    rw [rounds_succ]
    go_wp2
    rw [rounds_succ]
    go_wp2
    rw [rounds_succ]
    go_wp2
    go_ret
    exact ⟨rfl, rfl⟩
  · subst hc
    go_enter Tryz.func23, Tryz.ntmps23
    go_wp2
    refine wp_loop_rounds 4 ?_
    rw [rounds_succ]
    go_wp2
    rw [rounds_succ]
    go_wp2
    rw [rounds_succ]
    go_wp2
    rw [rounds_succ]
    go_wp2
    go_ret
    exact ⟨rfl, rfl⟩

set_option maxRecDepth 100000 in
set_option maxHeartbeats 2000000 in
theorem compare_any (x y : Cel) (w : World) : Calls Tryz.prog 15 #[.agg #[.int .u8 x.k.1, .int .u32 x.k.2.1, .int .u32 x.k.2.2, .int .u64 x.v.1, .int .u64 x.v.2, .bool x.is], .agg #[.int .u8 y.k.1, .int .u32 y.k.2.1, .int .u32 y.k.2.2, .int .u64 y.v.1, .int .u64 y.v.2, .bool y.is]] w
    fun e w' => e = .returned (.int .i64 (cmpC x y)) ∧ ∃ q os, w' = grow (w.drewN q) os := by
  unfold cmpC
  obtain ⟨a, ha⟩ : ∃ a, a = cmpI x.k.1 y.k.1 := ⟨_, rfl⟩
  obtain ⟨b, hb⟩ : ∃ a, a = cmpI x.k.2.1 y.k.2.1 := ⟨_, rfl⟩
  obtain ⟨c, hc⟩ : ∃ a, a = cmpI x.k.2.2 y.k.2.2 := ⟨_, rfl⟩
  have H8 := fun W => cmp8 x.k.1 y.k.1 W
  have H1 := fun W => cmp32 x.k.2.1 y.k.2.1 W
  have H2 := fun W => cmp32 x.k.2.2 y.k.2.2 W
  rw [← ha, ← hb, ← hc]
  rw [← ha] at H8
  rw [← hb] at H1
  rw [← hc] at H2
  clear ha hb hc
  go_enter Tryz.func15, Tryz.ntmps15
  go_upto_region 1 with fail
  have q1 := heap_alloc_new w (.cells #[.int .u8 x.k.1, .int .u32 x.k.2.1, .int .u32 x.k.2.2, .int .u64 x.v.1, .int .u64 x.v.2, .bool x.is] 57)
  have q2 := heap_alloc_new (w.alloc (.cells #[.int .u8 x.k.1, .int .u32 x.k.2.1, .int .u32 x.k.2.2, .int .u64 x.v.1, .int .u64 x.v.2, .bool x.is] 57)) (.cells #[.int .u8 y.k.1, .int .u32 y.k.2.1, .int .u32 y.k.2.2, .int .u64 y.v.1, .int .u64 y.v.2, .bool y.is] 57)
  replace q1 := ((below_alloc (w.alloc (.cells #[.int .u8 x.k.1, .int .u32 x.k.2.1, .int .u32 x.k.2.2, .int .u64 x.v.1, .int .u64 x.v.2, .bool x.is] 57)) (.cells #[.int .u8 y.k.1, .int .u32 y.k.2.1, .int .u32 y.k.2.2, .int .u64 y.v.1, .int .u64 y.v.2, .bool y.is] 57)).block _ (by simp)).trans q1
  rw [World.size_alloc] at q2
  have e0 : (w.alloc (.cells #[.int .u8 x.k.1, .int .u32 x.k.2.1, .int .u32 x.k.2.2, .int .u64 x.v.1, .int .u64 x.v.2, .bool x.is] 57)).alloc (.cells #[.int .u8 y.k.1, .int .u32 y.k.2.1, .int .u32 y.k.2.2, .int .u64 y.v.1, .int .u64 y.v.2, .bool y.is] 57) = grow w #[(.cells #[.int .u8 x.k.1, .int .u32 x.k.2.1, .int .u32 x.k.2.2, .int .u64 x.v.1, .int .u64 x.v.2, .bool x.is] 57), (.cells #[.int .u8 y.k.1, .int .u32 y.k.2.1, .int .u32 y.k.2.2, .int .u64 y.v.1, .int .u64 y.v.2, .bool y.is] 57)] := by rw [alloc_eq_grow, alloc_eq_grow, grow_grow]; rfl
  obtain ⟨N, hN⟩ : ∃ N, N = w.heap.size := ⟨_, rfl⟩
  obtain ⟨w2, hw2⟩ : ∃ v, v = (w.alloc (.cells #[.int .u8 x.k.1, .int .u32 x.k.2.1, .int .u32 x.k.2.2, .int .u64 x.v.1, .int .u64 x.v.2, .bool x.is] 57)).alloc (.cells #[.int .u8 y.k.1, .int .u32 y.k.2.1, .int .u32 y.k.2.2, .int .u64 y.v.1, .int .u64 y.v.2, .bool y.is] 57) := ⟨_, rfl⟩
  rw [← hw2] at q1 q2 e0 ⊢
  rw [← hN] at q1 q2 ⊢
  clear hw2 hN
  obtain ⟨x0, x1, x2, _, _, _⟩ := six_cells q1
  obtain ⟨y0, y1, y2, _, _, _⟩ := six_cells q2
  have l1 : N + 1 < w2.heap.size := (Array.getElem?_eq_some_iff.1 q2).1
  have l0 : N < w2.heap.size := by omega
  replace q1 := Lib.hid q1
  replace q2 := Lib.hid q2
  replace e0 := Lib.hid e0
  go_region_held2 (fun w' => w'.cell? ⟨N, 0, none⟩ = some (.int .u8 x.k.1) ∧ w'.cell? ⟨N, 1, none⟩ = some (.int .u32 x.k.2.1) ∧ w'.cell? ⟨N, 2, none⟩ = some (.int .u32 x.k.2.2) ∧ w'.cell? ⟨N + 1, 0, none⟩ = some (.int .u8 y.k.1) ∧ w'.cell? ⟨N + 1, 1, none⟩ = some (.int .u32 y.k.2.1) ∧ w'.cell? ⟨N + 1, 2, none⟩ = some (.int .u32 y.k.2.2))
    (first | exact ⟨x0, x1, x2, y0, y1, y2⟩ | exact ⟨keepA x0, keepA x1, keepA x2, keepA y0, keepA y1, keepA y2⟩ | go_keep)
    (first
      | (go_at_call 24; refine (H8 _).mono ?_; rintro e w3 ⟨rfl, rfl⟩)
      | (go_at_call 25; (first | (with_reducible refine (H1 _).mono ?_) | (with_reducible refine (H2 _).mono ?_)); rintro e w3 ⟨rfl, rfl⟩)
      | (go_at_call 23; refine (or_any a b c _ _ (by simp [go_sem]) (by simp [go_sem]) (by simp [go_sem])).mono ?_; rintro e w3 ⟨rfl, rfl⟩))
  all_goals (
    go_wp2_with fail
    go_ret
    exact ⟨rfl, 1, _, by rw [e0.out, alloc_eq_grow, grow_grow]; rfl⟩)
end Go.Proofs.YtdbpjbmalinlbaaGreat

namespace Go.Proofs.YtdbpjbmalinlbaaGreat
open Go.RowKit Go.Shelf Go.Lib Go.Sort

theorem cmpI_neg {x y : Int} : cmpI x y < 0 ↔ x < y := by unfold cmpI; split <;> (try split) <;> omega
theorem cmpI_zero {x y : Int} : cmpI x y = 0 ↔ x = y := by unfold cmpI; split <;> (try split) <;> omega
/-- A key stands ahead of another. -/
def KLt (a b : Ky) : Prop := a.1 < b.1 ∨ (a.1 = b.1 ∧ (a.2.1 < b.2.1 ∨ (a.2.1 = b.2.1 ∧ a.2.2 < b.2.2)))
instance (a b : Ky) : Decidable (KLt a b) := by unfold KLt; infer_instance
theorem cmpC_neg (x y : Cel) : cmpC x y < 0 ↔ KLt x.k y.k := by
  unfold cmpC orI KLt
  by_cases h1 : cmpI x.k.1 y.k.1 = 0
  · rw [if_pos h1]
    have e1 := cmpI_zero.1 h1
    by_cases h2 : cmpI x.k.2.1 y.k.2.1 = 0
    · rw [if_pos h2, cmpI_neg]
      have e2 := cmpI_zero.1 h2
      omega
    · rw [if_neg h2, cmpI_neg]
      have e2 : ¬ x.k.2.1 = y.k.2.1 := fun e => h2 (cmpI_zero.2 e)
      omega
  · rw [if_neg h1, cmpI_neg]
    have e1 : ¬ x.k.1 = y.k.1 := fun e => h1 (cmpI_zero.2 e)
    omega
theorem lt_is (x y : Cel) : ltOf cmpC x y = decide (KLt x.k y.k) := by
  unfold ltOf
  exact decide_eq_decide.2 (cmpC_neg x y)
theorem swo_cel : SWO (ltOf cmpC) where
  irrefl x := by rw [lt_is]; simp [KLt]
  trans x y z h1 h2 := by
    rw [lt_is, decide_eq_true_eq] at h1 h2 ⊢
    unfold KLt at h1 h2 ⊢
    omega
  ntrans x y z h1 h2 := by
    rw [lt_is, decide_eq_false_iff_not] at h1 h2 ⊢
    unfold KLt at h1 h2 ⊢
    omega

theorem flat_cels (l : List Cel) : flatK celRow 6 l.toArray = (celCells l).toArray := by
  have hlen : ∀ l : List Cel, (celCells l).length = l.length * 6 := by
    intro l
    induction l with
    | nil => rfl
    | cons q l ih =>
      have hc : celCells (q :: l) = celRow q ++ celCells l := rfl
      rw [hc, List.length_append, ih]
      simp [celRow]; omega
  refine Array.ext (by simp [hlen]) fun t h1 h2 => ?_
  have ht : t < l.length * 6 := by simpa using h1
  have hj : t / 6 < l.length := by omega
  have e := celCells_at (t / 6) l[t / 6] (t % 6) (List.getElem?_eq_getElem hj) (by omega)
  have et : t / 6 * 6 + t % 6 = t := by omega
  rw [et] at e
  have e2 : (celCells l).toArray[t] = (celCells l)[t]'(by rw [hlen]; exact ht) := rfl
  rw [e2]
  have e3 : (celCells l)[t]? = some ((celCells l)[t]'(by rw [hlen]; exact ht)) := List.getElem?_eq_getElem _
  rw [e3] at e
  have e4 : (celRow l[t / 6])[t % 6]? = some ((celRow l[t / 6])[t % 6]!) := by
    have : t % 6 < (celRow l[t / 6]).length := by simp [celRow]; omega
    rw [List.getElem?_eq_getElem this]
    simp [this]
  rw [e4] at e
  rw [Option.some.inj e]
  have e5 := get_flatK celRow 6 l.toArray t (by simpa using ht)
  simp only [h1, getElem!_pos] at e5
  rw [e5]
  simp [hj]

theorem holds_id {w : World} {g : Nat} {cur : Array Value} {e : TypeId} {xs : List Value} (hb : w.heap[g]? = some (.cells cur e (0, 0))) (ht : cur.toList.take xs.length = xs) : Holds id w g 0 xs.toArray := by
  intro j hj
  have hj' : j < xs.length := by simpa using hj
  refine ⟨?_, by simp [World.frozen?, hb]⟩
  have h1 : (cur.toList.take xs.length)[j]? = xs[j]? := by rw [ht]
  rw [List.getElem?_take_of_lt hj'] at h1
  simp only [World.cell?, hb, Nat.zero_add]
  simp only [Option.isSome_none, Bool.false_eq_true, if_false]
  rw [← Array.getElem?_toList, h1]
  simp [hj']
theorem heap_sorted_id {w : World} {g n : Nat} {os : Array Obj} {cur : Array Value} {e : TypeId} {fr : Nat × Nat} (d : Array Value) (hb : w.heap[g]? = some (.cells cur e fr)) :
    (grow (putRow id (Sort.ahead w n) g 0 d) os).heap[g]? = some (.cells (putCells id 0 d cur) e fr) := by
  have hg : g < w.heap.size := (Array.getElem?_eq_some_iff.1 hb).1
  rw [heap_grow_old _ _ (by simpa using hg)]
  simp [putRow, mapBlock, Sort.ahead, Array.getElem?_modify, hb, onCells]
theorem grownBy_sorted_id {w : World} {g n : Nat} {os : Array Obj} (d : Array Value) : w.grownBy (grow (putRow id (Sort.ahead w n) g 0 d) os) (some g) := by
  refine ⟨rfl, rfl, rfl, by simp, fun k hk hne => ?_⟩
  rw [heap_grow_old _ _ (by simpa using hk)]
  have : g ≠ k := fun e => hne (by rw [e])
  simp [putRow, mapBlock, Sort.ahead, Array.getElem?_modify, this]
theorem take_putCells_id (cur : Array Value) (ts : List Value) (h : ts.length ≤ cur.size) : (putCells id 0 ts.toArray cur).toList.take ts.length = ts := by
  apply List.ext_getElem?
  intro j
  by_cases hj : j < ts.length
  · rw [List.getElem?_take_of_lt hj, Array.getElem?_toList]
    simp [putCells, hj, show j < cur.size by omega]
  · rw [List.getElem?_take_eq_none (by omega), List.getElem?_eq_none (by omega)]
theorem cels_len (l : List Cel) : (celCells l).length = l.length * 6 := by
  have := congrArg Array.size (flat_cels l)
  simpa using this.symm

def Sorted (l : List Cel) : Prop := l.Pairwise fun a b => ¬ KLt b.k a.k
theorem eg42 : ∀ args w, (callFunc 15 args).run Tryz.prog w = .ok (.enter 15 args) w := enters_of Tryz.func15 (by kernel_rfl) rfl
set_option maxHeartbeats 2000000 in
theorem sort_w (l : List Cel) (base : Nat) (v : Value) (w : World) (h : w.ownsRow base 57 6 v l.length (celCells l)) (hl : l.length < 4611686018427387904) :
    Calls Tryz.prog 14 #[v, .func (.func 15) #[] #[]] w fun e w' =>
      e = .returned (.tuple #[]) ∧ ∃ l', l'.Perm l ∧ Sorted l' ∧ w'.ownsRow base 57 6 v l'.length (celCells l') ∧ w.grownBy w' v.ownBlock := by
  rcases id h.2 with ⟨rfl, h0⟩ | ⟨g, cap, cur, rfl, hbase, hb, h1, h2, h3, h4⟩
  · have hl0 := List.eq_nil_of_length_eq_zero h0
    subst hl0
    have hc := AnyF.slices_SortFunc_none (P := Tryz.prog) (ρ := Tryz.sortCel_ren) { Tryz.sortCel with } none 0 (.func (.func 15) #[] #[]) w
    refine Calls.mono hc ?_
    rintro e w' ⟨rfl, rfl⟩
    exact ⟨rfl, [], List.Perm.refl _, List.Pairwise.nil, h, ⟨rfl, rfl, rfl, Nat.le_refl _, fun _ _ _ => rfl⟩⟩
  · have hH : HoldsK celRow 6 w g 0 l.toArray := by
      unfold HoldsK
      rw [flat_cels]
      exact holds_id hb (by rw [cels_len]; exact h4)
    have hc := AnyQ.slices_SortFunc Tryz.sortCel 6 Tryz.isAgg57 Tryz.sizeOf57 celRow (fun _ => rfl) (fun x u hu => by simp [celRow] at hu; rcases hu with rfl | rfl | rfl | rfl | rfl | rfl <;> rfl) cmpC swo_cel 15 #[] g 0 cap l.toArray w eg42
      (fun _ _ _ _ x y => compare_any x y _) hH (Array.getElem?_eq_some_iff.1 hb).1 (by simpa using hl)
    refine Calls.mono hc ?_
    rintro e w' ⟨rfl, d', n, os, hp, hs, rfl⟩
    obtain ⟨hp1, _, hp3⟩ := hp
    have hsz : d'.size = l.length := by simpa using hp1
    have hperm : d'.toList.Perm l := by
      have e1 : (d'.extract 0 l.toArray.size).toList = d'.toList := by simp [← hsz]
      have e2 : (l.toArray.extract 0 l.toArray.size).toList = l := by simp
      rwa [e1, e2] at hp3
    have hflat : flatK celRow 6 d' = (celCells d'.toList).toArray := by have := flat_cels d'.toList; simpa using this
    have hlen : (celCells d'.toList).length ≤ cur.size := by rw [cels_len, h3]; simp [hsz]; omega
    refine ⟨rfl, d'.toList, hperm, ?_, ?_, ?_⟩
    · unfold Sorted
      rw [List.pairwise_iff_getElem]
      intro i j hi hj hij
      have := hs i j (Nat.zero_le _) hij (by simpa [hsz] using hj)
      rw [lt_is, decide_eq_false_iff_not] at this
      have hi' : i < d'.size := by simpa using hi
      have hj' : j < d'.size := by simpa using hj
      simp only [hi', hj', getElem!_pos] at this
      simpa using this
    · have hdl : d'.toList.length = l.length := by simpa using hsz
      rw [hdl]
      unfold sortWorldK putRowK
      rw [hflat]
      exact ⟨by rw [cels_len, hdl], .inr ⟨g, cap, _, rfl, hbase, heap_sorted_id _ hb, h1, h2, by simp [putCells, h3], by
        have := take_putCells_id cur (celCells d'.toList) hlen
        rwa [cels_len, hdl] at this⟩⟩
    · unfold sortWorldK putRowK
      exact grownBy_sorted_id _
end Go.Proofs.YtdbpjbmalinlbaaGreat
