/- Package lock: keys; key.compare; the library's sort at keys. -/
import Derived.Test.YtilknhackmccpaaLckI
import Derived.Test.YtilknhackmccpaaSort
import Derived.Shelf.SlSortCmp.NoneTotal
import Derived.DeepKeys4
import Derived.Deep.RegionHeld2
set_option linter.unusedVariables false
set_option linter.unusedSimpArgs false
namespace Go.Proofs.Ytilknhackmccpaa
open Go.RowKit Go.Shelf Go.Lib Go.Sort
open Go.Maps (Keyed)

abbrev Ky := Int × Int × Int
theorem Try.laidOut : laidOutB Try.prog = true := by kernel_rfl
theorem Try.keyRow : 38 < Try.prog.types.size := of_decide_eq_true (by kernel_rfl)
theorem Try.keyWide : (match Try.prog.underlying 38 with | some (.array _ _) | some (.struct _) => true | _ => false) = true := by kernel_rfl
theorem Try.keyIs : Try.prog.keyType 38 = true := by kernel_rfl
theorem Try.keyAt3 : Try.prog.keyTypeAt 3 38 = true := by kernel_rfl
theorem keyLaw : Keyed Try.prog 38 := Keyed.of_law (deep_law_laid Try.laidOut (m := 3) (by omega) Try.keyRow Try.keyAt3 (by rw [Try.underlying38]))

def KyOk (k : Ky) : Prop := (0 ≤ k.1 ∧ k.1 ≤ 255) ∧ (0 ≤ k.2.1 ∧ k.2.1 ≤ 4294967295) ∧ (0 ≤ k.2.2 ∧ k.2.2 ≤ 4294967295)
def kyV (k : Ky) : Value := .agg #[.int .u8 k.1, .int .u32 k.2.1, .int .u32 k.2.2]
def kyL (k : Ky) : Lit := .string (keyBytes [.int .u8 k.1, .int .u32 k.2.1, .int .u32 k.2.2])
theorem Try.cells24 : Try.prog.cellsOf 38 = 3 := by kernel_rfl
theorem Try.cellsu8 : Try.prog.cellsOf 5 = 1 := by kernel_rfl
theorem Try.cellsu32 : Try.prog.cellsOf 23 = 1 := by kernel_rfl

set_option maxRecDepth 4000 in
theorem key_of {k : Ky} (h : KyOk k) : keyOf Try.prog 38 (kyV k) = some (kyL k) := by
  obtain ⟨⟨h1, h2⟩, ⟨h3, h4⟩, h5, h6⟩ := h
  have w1 : (Lit.int .u8 k.1).wf = true := by simp only [Lit.wf, Bool.and_eq_true, decide_eq_true_eq]; exact ⟨by assumption, by assumption⟩
  have w2 : (Lit.int .u32 k.2.1).wf = true := by simp only [Lit.wf, Bool.and_eq_true, decide_eq_true_eq]; exact ⟨by assumption, by assumption⟩
  have w3 : (Lit.int .u32 k.2.2).wf = true := by simp only [Lit.wf, Bool.and_eq_true, decide_eq_true_eq]; exact ⟨by assumption, by assumption⟩
  unfold keyOf
  rw [Try.underlying38]
  obtain ⟨m, hm⟩ : ∃ m, Try.prog.types.size + 1 = m + 2 := ⟨Try.prog.types.size - 1, by have := Try.keyRow; omega⟩
  simp only [Try.keyIs, Bool.true_and, hm]
  have hf : Value.formed Try.prog 38 (kyV k) = true := by simp [Value.formed, kyV, Try.underlying38, Try.cells24]
  rw [if_pos hf]
  simp [Program.keyLits, kyV, kyL, Value.cells, Try.underlying38, Try.underlying5, Try.underlying23, Try.cells24, Try.cellsu8, Try.cellsu32, w1, w2, w3]

theorem arr3 {cs : Array Value} (h : cs.size = 3) : ∃ a b c, cs = #[a, b, c] := by
  obtain ⟨l⟩ := cs
  match l, h with
  | [a, b, c], _ => exact ⟨a, b, c, rfl⟩

theorem lits_int {P : Program} {m : Nat} {t : TypeId} {q : IntKind} (ht : P.underlying t = some (.int q)) {v : Value} {ls : List Lit} (h : P.keyLits (m + 1) t [v] = some ls) : ∃ a, v = .int q a ∧ ls = [.int q a] ∧ (Lit.int q a).wf = true := by
  unfold Program.keyLits at h
  rw [ht] at h
  cases v <;> simp at h
  obtain ⟨⟨rfl, hw⟩, rfl⟩ := h
  exact ⟨_, rfl, rfl, hw⟩
theorem lits_key {m : Nat} {a b c : Value} {ls : List Lit} (h : Try.prog.keyLits (m + 2) 38 [a, b, c] = some ls) :
    ∃ x y z, Try.prog.keyLits (m + 1) 5 [a] = some x ∧ Try.prog.keyLits (m + 1) 23 [b] = some y ∧ Try.prog.keyLits (m + 1) 23 [c] = some z ∧ ls = x ++ (y ++ z) := by
  unfold Program.keyLits at h
  simp only [Try.underlying38, Try.cells24] at h
  simp only [List.mapM_cons, List.mapM_nil, List.drop, List.take, Try.cellsu8, Try.cellsu32] at h
  split at h
  · cases e1 : Try.prog.keyLits (m + 1) 5 [a] with
    | none => simp [e1] at h
    | some x =>
      cases e2 : Try.prog.keyLits (m + 1) 23 [b] with
      | none => simp [e1, e2] at h
      | some y =>
        cases e3 : Try.prog.keyLits (m + 1) 23 [c] with
        | none => simp [e1, e2, e3] at h
        | some z =>
          simp [e1, e2, e3] at h
          exact ⟨x, y, z, rfl, rfl, rfl, h.symm⟩
  · cases h
set_option maxRecDepth 4000 in
theorem key_inv {v : Value} {l : Lit} (h : keyOf Try.prog 38 v = some l) : ∃ k, KyOk k ∧ v = kyV k ∧ l = kyL k := by
  unfold keyOf at h
  rw [Try.underlying38] at h
  obtain ⟨m, hm⟩ : ∃ m, Try.prog.types.size + 1 = m + 2 := ⟨Try.prog.types.size - 1, by have := Try.keyRow; omega⟩
  simp only [Try.keyIs, Bool.true_and, hm] at h
  split at h
  · rename_i hf
    cases v <;> simp [Value.formed, Try.underlying38, Try.cells24] at hf
    obtain ⟨a, b, c, rfl⟩ := arr3 hf
    cases hl : Try.prog.keyLits (m + 2) 38 [a, b, c] with
    | none => simp [Value.cells, hl] at h
    | some ls =>
      simp [Value.cells, hl] at h
      subst h
      obtain ⟨x, y, z, h1, h2, h3, rfl⟩ := lits_key hl
      obtain ⟨a1, rfl, rfl, w1⟩ := lits_int Try.underlying5 h1
      obtain ⟨b1, rfl, rfl, w2⟩ := lits_int Try.underlying23 h2
      obtain ⟨c1, rfl, rfl, w3⟩ := lits_int Try.underlying23 h3
      simp only [Lit.wf, Bool.and_eq_true, decide_eq_true_eq] at w1 w2 w3
      exact ⟨(a1, b1, c1), ⟨w1, w2, w3⟩, rfl, rfl⟩
  · cases h
theorem kyV_inj {k k' : Ky} (h : kyV k = kyV k') : k = k' := by
  obtain ⟨a, b, c⟩ := k
  obtain ⟨a', b', c'⟩ := k'
  simp [kyV] at h
  obtain ⟨rfl, rfl, rfl⟩ := h
  rfl
theorem kyL_inj {k k' : Ky} (h : KyOk k) (h' : KyOk k') (e : kyL k = kyL k') : k = k' := kyV_inj (keyLaw.inj (key_of h) (e ▸ key_of h'))
theorem kyL_key (k : Ky) : WideAt.IsKeyLit (kyL k) := trivial

def cmpI (x y : Int) : Int := if x < y then -1 else if y < x then 1 else 0
def orI (a b c : Int) : Int := if a = 0 then (if b = 0 then c else b) else a

theorem nan8 (a : Int) (w : World) : Calls Try.prog 109 #[.int .u8 a] w fun e w' => e = .returned (.bool false) ∧ w' = w := by
  go_enter Try.func109, Try.ntmps109
  go_wp2
  go_ret
  exact ⟨rfl, rfl⟩
theorem nan32 (a : Int) (w : World) : Calls Try.prog 110 #[.int .u32 a] w fun e w' => e = .returned (.bool false) ∧ w' = w := by
  go_enter Try.func110, Try.ntmps110
  go_wp2
  go_ret
  exact ⟨rfl, rfl⟩
theorem cmpI_lt {x y : Int} (h : x < y) : cmpI x y = -1 := if_pos h
theorem cmpI_gt {x y : Int} (h : y < x) : cmpI x y = 1 := by unfold cmpI; rw [if_neg (by omega), if_pos h]
theorem cmpI_eq {x y : Int} (h : x = y) : cmpI x y = 0 := by unfold cmpI; rw [if_neg (by omega), if_neg (by omega)]
theorem cmp8 (x y : Int) (w : World) : Calls Try.prog 85 #[.int .u8 x, .int .u8 y] w fun e w' => e = .returned (.int .i64 (cmpI x y)) ∧ w' = w := by
  rcases Int.lt_trichotomy x y with h | h | h
  · rw [cmpI_lt h]
    go_enter Try.func85, Try.ntmps85
    go_wp2_with (go_at_call 109; refine (nan8 _ _).mono ?_; rintro e w' ⟨rfl, rfl⟩)
    go_ret
    exact ⟨rfl, rfl⟩
  · rw [cmpI_eq h]
    subst h
    go_enter Try.func85, Try.ntmps85
    go_wp2_with (go_at_call 109; refine (nan8 _ _).mono ?_; rintro e w' ⟨rfl, rfl⟩)
    go_ret
    exact ⟨rfl, rfl⟩
  · rw [cmpI_gt h]
    have h2 : ¬ x < y := by omega
    go_enter Try.func85, Try.ntmps85
    go_wp2_with (go_at_call 109; refine (nan8 _ _).mono ?_; rintro e w' ⟨rfl, rfl⟩)
    go_ret
    exact ⟨rfl, rfl⟩
theorem cmp32 (x y : Int) (w : World) : Calls Try.prog 86 #[.int .u32 x, .int .u32 y] w fun e w' => e = .returned (.int .i64 (cmpI x y)) ∧ w' = w := by
  rcases Int.lt_trichotomy x y with h | h | h
  · rw [cmpI_lt h]
    go_enter Try.func86, Try.ntmps86
    go_wp2_with (go_at_call 110; refine (nan32 _ _).mono ?_; rintro e w' ⟨rfl, rfl⟩)
    go_ret
    exact ⟨rfl, rfl⟩
  · rw [cmpI_eq h]
    subst h
    go_enter Try.func86, Try.ntmps86
    go_wp2_with (go_at_call 110; refine (nan32 _ _).mono ?_; rintro e w' ⟨rfl, rfl⟩)
    go_ret
    exact ⟨rfl, rfl⟩
  · rw [cmpI_gt h]
    have h2 : ¬ x < y := by omega
    go_enter Try.func86, Try.ntmps86
    go_wp2_with (go_at_call 110; refine (nan32 _ _).mono ?_; rintro e w' ⟨rfl, rfl⟩)
    go_ret
    exact ⟨rfl, rfl⟩
set_option maxRecDepth 100000 in
theorem or_any (a b c : Int) (B : Nat) (w : World) (h0 : w.cell? ⟨B, 0, none⟩ = some (.int .i64 a)) (h1 : w.cell? ⟨B, 1, none⟩ = some (.int .i64 b)) (h2 : w.cell? ⟨B, 2, none⟩ = some (.int .i64 c)) :
    Calls Try.prog 84 #[.slice (some ⟨B, 0, none⟩) 3 3] w fun e w' => e = .returned (.int .i64 (orI a b c)) ∧ w' = w := by
  have done : ∀ x : Int, (x == 0) = false ∨ x = 0 := fun x => by by_cases h : x = 0 <;> simp [h]
  have k1 : ∀ {x : Int}, (x == 0) = false → ¬ x = 0 := fun h e => by rw [e] at h; cases h
  rcases done a with ha | ha
  · have e : orI a b c = a := by unfold orI; rw [if_neg (k1 ha)]
    rw [e]
    have k := k1 ha
    go_enter Try.func84, Try.ntmps84
    go_wp2
    refine wp_loop_rounds 1 ?_
    rw [rounds_succ]
    go_wp2
    go_ret
    exact ⟨rfl, rfl⟩
  subst ha
  rcases done b with hb | hb
  · have e : orI 0 b c = b := by unfold orI; rw [if_pos rfl, if_neg (k1 hb)]
    rw [e]
    have k := k1 hb
    go_enter Try.func84, Try.ntmps84
    go_wp2
    refine wp_loop_rounds 2 ?_
    rw [rounds_succ]
    go_wp2
    rw [rounds_succ]
    go_wp2
    go_ret
    exact ⟨rfl, rfl⟩
  subst hb
  have e : orI 0 0 c = c := by unfold orI; rw [if_pos rfl, if_pos rfl]
  rw [e]
  rcases done c with hc | hc
  · have k := k1 hc
    go_enter Try.func84, Try.ntmps84
    go_wp2
    refine wp_loop_rounds 3 ?_
    rw [rounds_succ]
    go_wp2
    rw [rounds_succ]
    go_wp2
    rw [rounds_succ]
    go_wp2
    go_ret
    exact ⟨rfl, rfl⟩
  · subst hc
    go_enter Try.func84, Try.ntmps84
    go_wp2
    refine wp_loop_rounds 4 ?_
    rw [rounds_succ]
    go_wp2
    rw [rounds_succ]
    go_wp2
    rw [rounds_succ]
    go_wp2
    rw [rounds_succ]
    go_wp2
    go_ret
    exact ⟨rfl, rfl⟩

def cmpK (x y : Ky) : Int := orI (cmpI x.1 y.1) (cmpI x.2.1 y.2.1) (cmpI x.2.2 y.2.2)
theorem keepA {w : World} {a : Addr} {v : Value} {ob : Obj} (h : w.cell? a = some v) : (w.alloc ob).cell? a = some v :=
  ((below_alloc w ob).cell (World.block_lt_of_cell? _ _ h)).trans h
theorem three_cells {w : World} {B : Nat} {a b c : Value} {ty : TypeId} {fr : Nat × Nat} (h : w.heap[B]? = some (.cells #[a, b, c] ty fr)) : w.cell? ⟨B, 0, none⟩ = some a ∧ w.cell? ⟨B, 1, none⟩ = some b ∧ w.cell? ⟨B, 2, none⟩ = some c := by
  refine ⟨?_, ?_, ?_⟩ <;> rw [cell_of_row w B _ _ ty fr h] <;> rfl
set_option maxRecDepth 100000 in
set_option maxHeartbeats 2000000 in
theorem compare_k (x y : Ky) (w : World) : Calls Try.prog 70 #[.agg #[.int .u8 x.1, .int .u32 x.2.1, .int .u32 x.2.2], .agg #[.int .u8 y.1, .int .u32 y.2.1, .int .u32 y.2.2]] w
    fun e w' => e = .returned (.int .i64 (cmpK x y)) ∧ ∃ q os, w' = grow (w.drewN q) os := by
  unfold cmpK
  obtain ⟨a, ha⟩ : ∃ a, a = cmpI x.1 y.1 := ⟨_, rfl⟩
  obtain ⟨b, hb⟩ : ∃ a, a = cmpI x.2.1 y.2.1 := ⟨_, rfl⟩
  obtain ⟨c, hc⟩ : ∃ a, a = cmpI x.2.2 y.2.2 := ⟨_, rfl⟩
  have H8 := fun W => cmp8 x.1 y.1 W
  have H1 := fun W => cmp32 x.2.1 y.2.1 W
  have H2 := fun W => cmp32 x.2.2 y.2.2 W
  rw [← ha, ← hb, ← hc]
  rw [← ha] at H8
  rw [← hb] at H1
  rw [← hc] at H2
  clear ha hb hc
  go_enter Try.func70, Try.ntmps70
  go_upto_region 1 with fail
  have q1 := heap_alloc_new w (.cells #[.int .u8 x.1, .int .u32 x.2.1, .int .u32 x.2.2] 112)
  have q2 := heap_alloc_new (w.alloc (.cells #[.int .u8 x.1, .int .u32 x.2.1, .int .u32 x.2.2] 112)) (.cells #[.int .u8 y.1, .int .u32 y.2.1, .int .u32 y.2.2] 112)
  replace q1 := ((below_alloc (w.alloc (.cells #[.int .u8 x.1, .int .u32 x.2.1, .int .u32 x.2.2] 112)) (.cells #[.int .u8 y.1, .int .u32 y.2.1, .int .u32 y.2.2] 112)).block _ (by simp)).trans q1
  rw [World.size_alloc] at q2
  have e0 : (w.alloc (.cells #[.int .u8 x.1, .int .u32 x.2.1, .int .u32 x.2.2] 112)).alloc (.cells #[.int .u8 y.1, .int .u32 y.2.1, .int .u32 y.2.2] 112) = grow w #[(.cells #[.int .u8 x.1, .int .u32 x.2.1, .int .u32 x.2.2] 112), (.cells #[.int .u8 y.1, .int .u32 y.2.1, .int .u32 y.2.2] 112)] := by rw [alloc_eq_grow, alloc_eq_grow, grow_grow]; rfl
  obtain ⟨N, hN⟩ : ∃ N, N = w.heap.size := ⟨_, rfl⟩
  obtain ⟨w2, hw2⟩ : ∃ v, v = (w.alloc (.cells #[.int .u8 x.1, .int .u32 x.2.1, .int .u32 x.2.2] 112)).alloc (.cells #[.int .u8 y.1, .int .u32 y.2.1, .int .u32 y.2.2] 112) := ⟨_, rfl⟩
  rw [← hw2] at q1 q2 e0 ⊢
  rw [← hN] at q1 q2 ⊢
  clear hw2 hN
  obtain ⟨x0, x1, x2⟩ := three_cells q1
  obtain ⟨y0, y1, y2⟩ := three_cells q2
  have l1 : N + 1 < w2.heap.size := (Array.getElem?_eq_some_iff.1 q2).1
  have l0 : N < w2.heap.size := by omega
  replace q1 := Lib.hid q1
  replace q2 := Lib.hid q2
  replace e0 := Lib.hid e0
  go_region_held2 (fun w' => w'.cell? ⟨N, 0, none⟩ = some (.int .u8 x.1) ∧ w'.cell? ⟨N, 1, none⟩ = some (.int .u32 x.2.1) ∧ w'.cell? ⟨N, 2, none⟩ = some (.int .u32 x.2.2) ∧ w'.cell? ⟨N + 1, 0, none⟩ = some (.int .u8 y.1) ∧ w'.cell? ⟨N + 1, 1, none⟩ = some (.int .u32 y.2.1) ∧ w'.cell? ⟨N + 1, 2, none⟩ = some (.int .u32 y.2.2))
    (first | exact ⟨x0, x1, x2, y0, y1, y2⟩ | exact ⟨keepA x0, keepA x1, keepA x2, keepA y0, keepA y1, keepA y2⟩ | go_keep)
    (first
      | (go_at_call 85; refine (H8 _).mono ?_; rintro e w3 ⟨rfl, rfl⟩)
      | (go_at_call 86; (first | (with_reducible refine (H1 _).mono ?_) | (with_reducible refine (H2 _).mono ?_)); rintro e w3 ⟨rfl, rfl⟩)
      | (go_at_call 84; refine (or_any a b c _ _ (by simp [go_sem]) (by simp [go_sem]) (by simp [go_sem])).mono ?_; rintro e w3 ⟨rfl, rfl⟩))
  all_goals (
    go_wp2_with fail
    go_ret
    exact ⟨rfl, 1, _, by rw [e0.out, alloc_eq_grow, grow_grow]; rfl⟩)

theorem cmpI_neg {x y : Int} : cmpI x y < 0 ↔ x < y := by unfold cmpI; split <;> (try split) <;> omega
theorem cmpI_zero {x y : Int} : cmpI x y = 0 ↔ x = y := by unfold cmpI; split <;> (try split) <;> omega
/-- A key stands ahead of another. -/
def KLt (a b : Ky) : Prop := a.1 < b.1 ∨ (a.1 = b.1 ∧ (a.2.1 < b.2.1 ∨ (a.2.1 = b.2.1 ∧ a.2.2 < b.2.2)))
instance (a b : Ky) : Decidable (KLt a b) := by unfold KLt; infer_instance
theorem cmpK_neg (x y : Ky) : cmpK x y < 0 ↔ KLt x y := by
  unfold cmpK orI KLt
  by_cases h1 : cmpI x.1 y.1 = 0
  · rw [if_pos h1]
    have e1 := cmpI_zero.1 h1
    by_cases h2 : cmpI x.2.1 y.2.1 = 0
    · rw [if_pos h2, cmpI_neg]
      have e2 := cmpI_zero.1 h2
      omega
    · rw [if_neg h2, cmpI_neg]
      have e2 : ¬ x.2.1 = y.2.1 := fun e => h2 (cmpI_zero.2 e)
      omega
  · rw [if_neg h1, cmpI_neg]
    have e1 : ¬ x.1 = y.1 := fun e => h1 (cmpI_zero.2 e)
    omega
theorem lt_is (x y : Ky) : ltOf cmpK x y = decide (KLt x y) := by
  unfold ltOf
  exact decide_eq_decide.2 (cmpK_neg x y)
theorem swo_k : SWO (ltOf cmpK) where
  irrefl x := by rw [lt_is]; simp [KLt]
  trans x y z h1 h2 := by
    rw [lt_is, decide_eq_true_eq] at h1 h2 ⊢
    unfold KLt at h1 h2 ⊢
    omega
  ntrans x y z h1 h2 := by
    rw [lt_is, decide_eq_false_iff_not] at h1 h2 ⊢
    unfold KLt at h1 h2 ⊢
    omega

def kRow (x : Ky) : List Value := [.int .u8 x.1, .int .u32 x.2.1, .int .u32 x.2.2]
def kCells (l : List Ky) : List Value := l.flatMap kRow
theorem kCells_at : ∀ {l : List Ky} (j : Nat) (x : Ky) (i : Nat), l[j]? = some x → i < 3 → (kCells l)[j * 3 + i]? = (kRow x)[i]?
  | [], j, x, i, h, _ => by simp at h
  | p :: r, 0, x, i, h, hi => by
    simp only [List.getElem?_cons_zero, Option.some.injEq] at h
    subst h
    rw [kCells, List.flatMap_cons, List.getElem?_append_left (by simp [kRow]; omega), Nat.zero_mul, Nat.zero_add]
  | p :: r, j + 1, x, i, h, hi => by
    have ih := kCells_at (l := r) j x i (by simpa using h) hi
    rw [kCells, List.flatMap_cons, List.getElem?_append_right (by simp [kRow]; omega), show (j + 1) * 3 + i - (kRow p).length = j * 3 + i by simp [kRow]; omega]
    exact ih
theorem kCells_snoc (l : List Ky) (x : Ky) : kCells (l ++ [x]) = kCells l ++ kRow x := by simp [kCells]
theorem flat_ks (l : List Ky) : flatK kRow 3 l.toArray = (kCells l).toArray := by
  have hlen : ∀ l : List Ky, (kCells l).length = l.length * 3 := by
    intro l
    induction l with
    | nil => rfl
    | cons q l ih =>
      have hc : kCells (q :: l) = kRow q ++ kCells l := rfl
      rw [hc, List.length_append, ih]
      simp [kRow]; omega
  refine Array.ext (by simp [hlen]) fun t h1 h2 => ?_
  have ht : t < l.length * 3 := by simpa using h1
  have hj : t / 3 < l.length := by omega
  have e := kCells_at (l := l) (t / 3) l[t / 3] (t % 3) (List.getElem?_eq_getElem hj) (by omega)
  have et : t / 3 * 3 + t % 3 = t := by omega
  rw [et] at e
  have e2 : (kCells l).toArray[t] = (kCells l)[t]'(by rw [hlen]; exact ht) := rfl
  rw [e2]
  have e3 : (kCells l)[t]? = some ((kCells l)[t]'(by rw [hlen]; exact ht)) := List.getElem?_eq_getElem _
  rw [e3] at e
  have e4 : (kRow l[t / 3])[t % 3]? = some ((kRow l[t / 3])[t % 3]!) := by
    have : t % 3 < (kRow l[t / 3]).length := by simp [kRow]; omega
    rw [List.getElem?_eq_getElem this]
    simp [this]
  rw [e4] at e
  rw [Option.some.inj e]
  have e5 := get_flatK kRow 3 l.toArray t (by simpa using ht)
  simp only [h1, getElem!_pos] at e5
  rw [e5]
  simp [hj]

theorem holds_id {w : World} {g : Nat} {cur : Array Value} {e : TypeId} {xs : List Value} (hb : w.heap[g]? = some (.cells cur e (0, 0))) (ht : cur.toList.take xs.length = xs) : Holds id w g 0 xs.toArray := by
  intro j hj
  have hj' : j < xs.length := by simpa using hj
  refine ⟨?_, by simp [World.frozen?, hb]⟩
  have h1 : (cur.toList.take xs.length)[j]? = xs[j]? := by rw [ht]
  rw [List.getElem?_take_of_lt hj'] at h1
  simp only [World.cell?, hb, Nat.zero_add]
  simp only [Option.isSome_none, Bool.false_eq_true, if_false]
  rw [← Array.getElem?_toList, h1]
  simp [hj']
theorem heap_sorted_id {w : World} {g n : Nat} {os : Array Obj} {cur : Array Value} {e : TypeId} {fr : Nat × Nat} (d : Array Value) (hb : w.heap[g]? = some (.cells cur e fr)) :
    (grow (putRow id (Sort.ahead w n) g 0 d) os).heap[g]? = some (.cells (putCells id 0 d cur) e fr) := by
  have hg : g < w.heap.size := (Array.getElem?_eq_some_iff.1 hb).1
  rw [heap_grow_old _ _ (by simpa using hg)]
  simp [putRow, mapBlock, Sort.ahead, Array.getElem?_modify, hb, onCells]
theorem grownBy_sorted_id {w : World} {g n : Nat} {os : Array Obj} (d : Array Value) : w.grownBy (grow (putRow id (Sort.ahead w n) g 0 d) os) (some g) := by
  refine ⟨rfl, rfl, rfl, by simp, fun k hk hne => ?_⟩
  rw [heap_grow_old _ _ (by simpa using hk)]
  have : g ≠ k := fun e => hne (by rw [e])
  simp [putRow, mapBlock, Sort.ahead, Array.getElem?_modify, this]
theorem take_putCells_id (cur : Array Value) (ts : List Value) (h : ts.length ≤ cur.size) : (putCells id 0 ts.toArray cur).toList.take ts.length = ts := by
  apply List.ext_getElem?
  intro j
  by_cases hj : j < ts.length
  · rw [List.getElem?_take_of_lt hj, Array.getElem?_toList]
    simp [putCells, hj, show j < cur.size by omega]
  · rw [List.getElem?_take_eq_none (by omega), List.getElem?_eq_none (by omega)]
theorem ks_len (l : List Ky) : (kCells l).length = l.length * 3 := by
  have := congrArg Array.size (flat_ks l)
  simpa using this.symm

def SortedK (l : List Ky) : Prop := l.Pairwise fun a b => ¬ KLt b a
theorem egK : ∀ args w, (callFunc 70 args).run Try.prog w = .ok (.enter 70 args) w := enters_of Try.func70 (by kernel_rfl) rfl
set_option maxHeartbeats 2000000 in
theorem sort_k (l : List Ky) (base : Nat) (v : Value) (w : World) (h : w.ownsRow base 112 3 v l.length (kCells l)) (hl : l.length < 4611686018427387904) :
    Calls Try.prog 69 #[v, .func (.func 70) #[] #[]] w fun e w' =>
      e = .returned (.tuple #[]) ∧ ∃ l', l'.Perm l ∧ SortedK l' ∧ w'.ownsRow base 112 3 v l'.length (kCells l') ∧ w.grownBy w' v.ownBlock := by
  rcases id h.2 with ⟨rfl, h0⟩ | ⟨g, cap, cur, rfl, hbase, hb, h1, h2, h3, h4⟩
  · have hl0 := List.eq_nil_of_length_eq_zero h0
    subst hl0
    have hc := AnyF.slices_SortFunc_none (P := Try.prog) (ρ := Try.sortKey_ren) { Try.sortKey with } none 0 (.func (.func 70) #[] #[]) w
    refine Calls.mono hc ?_
    rintro e w' ⟨rfl, rfl⟩
    exact ⟨rfl, [], List.Perm.refl _, List.Pairwise.nil, h, ⟨rfl, rfl, rfl, Nat.le_refl _, fun _ _ _ => rfl⟩⟩
  · have hH : HoldsK kRow 3 w g 0 l.toArray := by
      unfold HoldsK
      rw [flat_ks]
      exact holds_id hb (by rw [ks_len]; exact h4)
    have hc := AnyQ.slices_SortFunc Try.sortKey 3 Try.isAgg112 Try.sizeOf112 kRow (fun _ => rfl) (fun x u hu => by simp [kRow] at hu; rcases hu with rfl | rfl | rfl <;> rfl) cmpK swo_k 70 #[] g 0 cap l.toArray w egK
      (fun _ _ _ _ x y => compare_k x y _) hH (Array.getElem?_eq_some_iff.1 hb).1 (by simpa using hl)
    refine Calls.mono hc ?_
    rintro e w' ⟨rfl, d', n, os, hp, hs, rfl⟩
    obtain ⟨hp1, _, hp3⟩ := hp
    have hsz : d'.size = l.length := by simpa using hp1
    have hperm : d'.toList.Perm l := by
      have e1 : (d'.extract 0 l.toArray.size).toList = d'.toList := by simp [← hsz]
      have e2 : (l.toArray.extract 0 l.toArray.size).toList = l := by simp
      rwa [e1, e2] at hp3
    have hflat : flatK kRow 3 d' = (kCells d'.toList).toArray := by have := flat_ks d'.toList; simpa using this
    have hlen : (kCells d'.toList).length ≤ cur.size := by rw [ks_len, h3]; simp [hsz]; omega
    refine ⟨rfl, d'.toList, hperm, ?_, ?_, ?_⟩
    · unfold SortedK
      rw [List.pairwise_iff_getElem]
      intro i j hi hj hij
      have := hs i j (Nat.zero_le _) hij (by simpa [hsz] using hj)
      rw [lt_is, decide_eq_false_iff_not] at this
      have hi' : i < d'.size := by simpa using hi
      have hj' : j < d'.size := by simpa using hj
      simp only [hi', hj', getElem!_pos] at this
      simpa using this
    · have hdl : d'.toList.length = l.length := by simpa using hsz
      rw [hdl]
      unfold sortWorldK putRowK
      rw [hflat]
      exact ⟨by rw [ks_len, hdl], .inr ⟨g, cap, _, rfl, hbase, heap_sorted_id _ hb, h1, h2, by simp [putCells, h3], by
        have := take_putCells_id cur (kCells d'.toList) hlen
        rwa [ks_len, hdl] at this⟩⟩
    · unfold sortWorldK putRowK
      exact grownBy_sorted_id _
end Go.Proofs.Ytilknhackmccpaa
