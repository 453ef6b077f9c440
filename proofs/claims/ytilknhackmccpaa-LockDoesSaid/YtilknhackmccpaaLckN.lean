/- Package lock: New, Waits, Holds; Package lock: Ask. -/
import Derived.Test.YtilknhackmccpaaLckL
import Derived.Deep.DeepCutAuto
set_option linter.unusedVariables false
set_option linter.unusedSimpArgs false
namespace Go.Proofs.Ytilknhackmccpaa
open Go.RowKit Go.Sort Go.Lib

def noTb : Tb := ⟨[], fun _ => ([], []), [], fun _ => none⟩
theorem wants_none (w : World) : Wants w (.slice none 0 0) [] := ⟨none, 0, rfl, by simp, (by rintro ad ⟨⟩), fun h => absurd rfl h⟩
set_option maxRecDepth 100000 in
theorem new_u (w : World) : Calls Try.prog 23 #[] w fun e w' => ∃ TB b1 b2, e = .returned (.pointer (some ⟨TB, 0, none⟩)) ∧ w.heap.size ≤ b1 ∧ w.heap.size ≤ b2 ∧ TabIs w' TB b1 b2 noTb (fun _ => none) ∧ RowKit.Below w.heap.size w w' := by
  have hmm := @run_makeMap Try.prog
  go_enter Try.func23, Try.ntmps23
  go_wp2
  go_ret
  have B1 := below_alloc w (.map #[] 0)
  have B2 := below_alloc (w.alloc (.map #[] 0)) (.map #[] 0)
  have B3 := below_alloc ((w.alloc (.map #[] 0)).alloc (.map #[] 0)) (.cells #[.map (some w.heap.size), .map (some (w.heap.size + 1))] 75)
  have m1 : MapV keyT (w.alloc (.map #[] 0)) w.heap.size [] (fun _ => none) := mapV_made w
  have m2 : MapV numT ((w.alloc (.map #[] 0)).alloc (.map #[] 0)) (w.alloc (.map #[] 0)).heap.size [] (fun _ => none) := mapV_made _
  have hc := heap_alloc_new ((w.alloc (.map #[] 0)).alloc (.map #[] 0)) (.cells #[.map (some w.heap.size), .map (some (w.heap.size + 1))] 75)
  rw [World.size_alloc] at m2
  rw [World.size_alloc, World.size_alloc] at hc
  refine ⟨_, w.heap.size, w.heap.size + 1, rfl, Nat.le_refl _, by omega, ⟨hc, by omega, ((m1.below B2 m1.lt).below B3 (by rw [World.size_alloc, World.size_alloc]; omega)), fun k => ⟨_, _, rfl, wants_none _, wants_none _⟩, m2.below B3 m2.lt, List.Pairwise.nil, List.Pairwise.nil⟩, (B1.trans (B2.mono (by simp))).trans (B3.mono (by simp; omega))⟩

theorem zeroHold (w : World) : (zeroValue 54).run Try.prog w = .ok (holdV ((0, 0, 0), 0)) w := by kernel_rfl
theorem zeroLock (w : World) : (zeroValue 80).run Try.prog w = .ok noLk w := by kernel_rfl
section
variable {w w' : World} {TB b1 b2 : Nat} {T : Tb} {f : Ky → Option Value}
theorem TabIs.lookW (S : TabIs w TB b1 b2 T f) {t : Int} (ht : U t) :
    (Instr.lookup 73 (.map (some b2)) (.int .u32 t) true).run Try.prog w = .ok (.tuple #[holdV ((T.W t).getD ((0, 0, 0), 0)), .bool (T.W t).isSome]) w ∧
    (Instr.lookup 73 (.map (some b2)) (.int .u32 t) false).run Try.prog w = .ok (holdV ((T.W t).getD ((0, 0, 0), 0))) w := by
  obtain ⟨h1, h2⟩ := S.waits.look Try.underlying73 (zeroHold w) (k := t) ht
  have e1 : ((T.W t).map holdV).getD (holdV ((0, 0, 0), 0)) = holdV ((T.W t).getD ((0, 0, 0), 0)) := by cases T.W t <;> rfl
  have e2 : ((T.W t).map holdV).isSome = (T.W t).isSome := by cases T.W t <;> rfl
  rw [e1] at h1 h2
  rw [e2] at h2
  exact ⟨h2, h1⟩
theorem TabIs.lookL (S : TabIs w TB b1 b2 T f) {k : Ky} (hk : KyOk k) : (Instr.lookup 72 (.map (some b1)) (kyV k) false).run Try.prog w = .ok ((f k).getD noLk) w :=
  (S.locks.look Try.underlying72 (zeroLock w) (k := k) hk).1
end
set_option maxRecDepth 100000 in
theorem waits_t {w : World} {TB b1 b2 : Nat} {T : Tb} {f : Ky → Option Value} (S : TabIs w TB b1 b2 T f) (t : Int) (ht : U t) :
    Calls Try.prog 30 #[.pointer (some ⟨TB, 0, none⟩), .int .u32 t] w fun e w' => e = .returned (.tuple #[holdV ((T.W t).getD ((0, 0, 0), 0)), .bool (T.W t).isSome]) ∧ RowKit.Below w.heap.size w w' := by
  have S1 := S.below (below_alloc w (.cells #[.int .u8 0, .int .u32 0, .int .u32 0, .int .u8 0] 54)) (Nat.le_refl _)
  have c1 := S1.c1
  have hl := (S1.lookW ht).1
  have lT := S.lt
  obtain ⟨⟨⟨h1, h2, h3⟩, h4⟩, hh⟩ : ∃ h, (T.W t).getD ((0, 0, 0), 0) = h := ⟨_, rfl⟩
  obtain ⟨b, hb⟩ : ∃ b, (T.W t).isSome = b := ⟨_, rfl⟩
  rw [hh, hb] at hl ⊢
  simp only [holdV] at hl ⊢
  clear S S1 hh hb
  go_enter Try.func30, Try.ntmps30
  go_wp2
  refine bodyPost_ret (v := .tuple #[.agg #[.int .u8 h1, .int .u32 h2, .int .u32 h3, .int .u8 h4], .bool b]) (by simp [results, Try.results30, go_sem]) rfl ⟨rfl, ?_⟩
  exact (below_alloc w _).alloc (by simp) _

/-- What one holds. -/
def holdsL (T : Tb) (t : Int) : List (Ky × Int) := T.ks.filterMap fun k => if modeL (T.F k).1 t = 0 then none else some (k, modeL (T.F k).1 t)
def hRow (h : Ky × Int) : List Value := [.int .u8 h.1.1, .int .u32 h.1.2.1, .int .u32 h.1.2.2, .int .u8 h.2]
def hCells (l : List (Ky × Int)) : List Value := l.flatMap hRow
theorem hCells_snoc (l : List (Ky × Int)) (x : Ky × Int) : hCells (l ++ [x]) = hCells l ++ hRow x := by simp [hCells]
theorem infoHold : (Try.prog.info? 54).map (fun i => (i.zero, i.size, i.bytes)) = some (some (.agg #[.int .u8 0, .int .u32 0, .int .u32 0, .int .u8 0]), 4, 16) := by kernel_rfl
theorem field_have (a b : Value) : ∀ w : World, (Instr.field 80 (.agg #[a, b]) 0).run Try.prog w = .ok a w := fun _ => by kernel_rfl
def holdsTo (T : Tb) (t : Int) (i : Nat) : List (Ky × Int) := (T.ks.take i).filterMap fun k => if modeL (T.F k).1 t = 0 then none else some (k, modeL (T.F k).1 t)
theorem holdsTo_succ (T : Tb) (t : Int) {i : Nat} {k : Ky} (h : T.ks[i]? = some k) : holdsTo T t (i + 1) = holdsTo T t i ++ (if modeL (T.F k).1 t = 0 then [] else [(k, modeL (T.F k).1 t)]) := by
  have hi := (List.getElem?_eq_some_iff.1 h).1
  have hk := (List.getElem?_eq_some_iff.1 h).2
  rw [holdsTo, List.take_succ_eq_append_getElem hi, List.filterMap_append, hk]
  simp only [List.filterMap_cons, List.filterMap_nil, holdsTo]
  split <;> simp_all
theorem row_low {w : World} {base base' : Nat} {e : TypeId} {size : Nat} {v : Value} {m : Nat} {xs : List Value} (h : w.ownsRow base e size v m xs) (hb : base' ≤ base) : w.ownsRow base' e size v m xs := by
  refine ⟨h.1, ?_⟩
  rcases h.2 with h | ⟨g, cap, cur, e1, h1, h2⟩
  · exact .inl h
  · exact .inr ⟨g, cap, cur, e1, Nat.le_trans hb h1, h2⟩
theorem holdsTo_len (T : Tb) (t : Int) (i : Nat) : (holdsTo T t i).length ≤ i := Nat.le_trans (List.length_filterMap_le _ _) (by rw [List.length_take]; omega)

set_option maxRecDepth 100000 in
set_option maxHeartbeats 4000000 in
theorem holds_u {w : World} {TB b1 b2 : Nat} {T : Tb} {f : Ky → Option Value} (S : TabIs w TB b1 b2 T f) (hn : T.ks.length ≤ 1000000) (t : Int) :
    Calls Try.prog 28 #[.pointer (some ⟨TB, 0, none⟩), .int .u32 t] w fun e w' => ∃ v, e = .returned v ∧ w'.ownsRow w.heap.size 54 4 v (holdsL T t).length (hCells (holdsL T t)) ∧ RowKit.Below w.heap.size w w' := by
  have hK := keys_u S hn
  obtain ⟨ih, hih, y0, y1, y2⟩ := info_parts infoHold
  have hok : Hid (∀ k ∈ T.ks, KyOk k) := Lib.hid S.locks.2.2
  obtain ⟨n, hnn⟩ : ∃ n, T.ks.length = n := ⟨_, rfl⟩
  obtain ⟨R, hR⟩ : ∃ R, w.heap.size = R := ⟨_, rfl⟩
  rw [hnn] at hK hn
  rw [hR] at hK ⊢
  have hF : Hid (holdsL T t = holdsTo T t n) := Lib.hid (by rw [holdsTo, ← hnn, List.take_length]; rfl)
  rw [hF.out]
  go_enter Try.func28, Try.ntmps28
  go_wp2_with (go_at_call 48; refine hK.mono ?_; rintro e w1 ⟨a, cap, rfl, KA, B1⟩)
  have S1 := Lib.hid (S.below B1 (by omega))
  have KA1 := Lib.hid KA
  have BB1 := Lib.hid B1
  obtain ⟨G, hG⟩ : ∃ G, w1.heap.size = G := ⟨_, rfl⟩
  have hRG : R ≤ G := by rw [← hG, ← hR]; exact B1.size
  replace hG := Lib.hid hG
  have hO0 : Hid (w1.ownsRow G 54 4 (.slice none 0 0) (holdsTo T t 0).length (hCells (holdsTo T t 0))) := Lib.hid ⟨rfl, .inl ⟨rfl, rfl⟩⟩
  have hB0 : Hid (RowKit.Below G w1 w1) := Lib.hid (RowKit.Below.refl _ _)
  clear S KA B1 hK
  go_loopw [5, 12] (fun u5 u12 wr => ∃ i : Nat, u12 = .int .i64 i ∧ i ≤ n ∧ Hid (wr.ownsRow G 54 4 u5 (holdsTo T t i).length (hCells (holdsTo T t i))) ∧ Hid (RowKit.Below G w1 wr)) (fun _ u12 _ => n - (intOf u12).toNat)
  case atStart => exact ⟨0, rfl, Nat.zero_le _, hO0, hB0⟩
  case round =>
    clear hO0 hB0
    obtain ⟨i, rfl, hi, O, B⟩ := hrel
    have KA := Lib.hid (KA1.out.below B.out (by have := hG.out; omega))
    by_cases hin : i < n
    · obtain ⟨k, hk⟩ : ∃ k, T.ks[i]? = some k := ⟨_, List.getElem?_eq_getElem (by omega)⟩
      obtain ⟨eb, rfl, hlt, hcc⟩ := KA.out (by rintro e; rw [e] at hk; cases hk)
      obtain ⟨c0, c1, c2⟩ := hcc i k hk
      have hkok := hok.out k (List.mem_of_getElem? hk)
      have hii : (i : Int) < (n : Int) := by omega
      have hRw : G ≤ wr.heap.size := by rw [← hG.out]; exact B.out.size
      have hsuc := Lib.hid (holdsTo_succ T t hk)
      have hlen := holdsTo_len T t i
      obtain ⟨k1, k2, k3⟩ := k
      simp only at c0 c1 c2
      have B2 := B.out.alloc hRw (.cells #[.int .u8 k1, .int .u32 k2, .int .u32 k3] 38)
      have S2 := S1.out.below B2 (by have := hG.out; omega)
      have O2 := O.out.alloc (.cells #[.int .u8 k1, .int .u32 k2, .int .u32 k3] 38)
      have nb := heap_alloc_new wr (.cells #[.int .u8 k1, .int .u32 k2, .int .u32 k3] 38)
      clear hcc
      go_upto_region 5 with fail
      obtain ⟨KB, hKB⟩ : ∃ x, x = wr.heap.size := ⟨_, rfl⟩
      obtain ⟨w2, hw2⟩ : ∃ x, x = wr.alloc (.cells #[.int .u8 k1, .int .u32 k2, .int .u32 k3] 38) := ⟨_, rfl⟩
      rw [← hw2] at B2 S2 O2 nb ⊢
      rw [← hKB] at nb ⊢
      have hKR : G ≤ KB := by omega
      clear hw2 hKB O B KA c0 c1 c2 hRw
      have lKB : KB < w2.heap.size := (Array.getElem?_eq_some_iff.1 nb).1
      obtain ⟨va, vb, hfv, hWa, hWb⟩ := S2.at_ (k1, k2, k3)
      obtain ⟨b0, b1', b2'⟩ := three_cells nb
      have hfld := field_have va vb
      have hkeep : Hid (∀ w', RowKit.Below w2.heap.size w2 w' → w'.cell? ⟨TB, 0, none⟩ = some (.map (some b1)) ∧ w'.cell? ⟨KB, 0, none⟩ = some (.int .u8 k1) ∧ w'.cell? ⟨KB, 1, none⟩ = some (.int .u32 k2) ∧ w'.cell? ⟨KB, 2, none⟩ = some (.int .u32 k3) ∧
          (Instr.lookup 72 (.map (some b1)) (.agg #[.int .u8 k1, .int .u32 k2, .int .u32 k3]) false).run Try.prog w' = .ok (.agg #[va, vb]) w' ∧ Hid (RowKit.Below w2.heap.size w2 w')) := Lib.hid fun w' h => by
        have S3 := S2.below h (Nat.le_refl _)
        have hl := S3.lookL hkok
        rw [hfv] at hl
        exact ⟨S3.c0, (h.cell (p := ⟨KB, 0, none⟩) lKB).trans b0, (h.cell (p := ⟨KB, 1, none⟩) lKB).trans b1', (h.cell (p := ⟨KB, 2, none⟩) lKB).trans b2', hl, Lib.hid h⟩
      have hmode : Hid (∀ wx, RowKit.Below w2.heap.size w2 wx → Calls Try.prog 44 #[va, .int .u32 t] wx fun e w' => e = .returned (.int .u8 (modeL (T.F (k1, k2, k3)).1 t)) ∧ RowKit.Below w2.heap.size w2 w') :=
        Lib.hid fun wx hx => (mode_u va _ t wx (hWa.keep hx (Nat.le_refl _))).mono fun e w' ⟨h1, h2⟩ => ⟨h1, hx.trans (h2.mono hx.size)⟩
      obtain ⟨m, hm⟩ : ∃ m, modeL (T.F (k1, k2, k3)).1 t = m := ⟨_, rfl⟩
      rw [hm] at hmode
      replace hm := Lib.hid hm
      replace S2 := Lib.hid S2
      replace nb := Lib.hid nb
      replace hfv := Lib.hid hfv
      clear hWa hWb b0 b1' b2'
      go_region_held2 (fun w' => w'.cell? ⟨TB, 0, none⟩ = some (.map (some b1)) ∧ w'.cell? ⟨KB, 0, none⟩ = some (.int .u8 k1) ∧ w'.cell? ⟨KB, 1, none⟩ = some (.int .u32 k2) ∧ w'.cell? ⟨KB, 2, none⟩ = some (.int .u32 k3) ∧
          (Instr.lookup 72 (.map (some b1)) (.agg #[.int .u8 k1, .int .u32 k2, .int .u32 k3]) false).run Try.prog w' = .ok (.agg #[va, vb]) w' ∧ Hid (RowKit.Below w2.heap.size w2 w'))
        (first | exact hkeep.out _ (RowKit.Below.refl _ _).drew | exact hkeep.out _ b3 | go_keep)
        (first
          | (go_at_call 44; go_split_ands; refine Calls.mono (hmode.out _ (Hid.out (by assumption))) ?_; rintro e w3 ⟨rfl, b3⟩))
      have hk3 := hkeep.out _ b3
      obtain ⟨_, d0, d1, d2, _, _⟩ := hk3
      have O3 := O2.kept (grew b3) (Classical.em _)
      have B3 := B2.trans (b3.mono (by omega))
      have hR3 : G ≤ w3.heap.size := by rw [← hG.out]; exact B3.size
      clear hkeep hmode b3 O2 B2 hfld
      by_cases hm0 : m = 0
      · subst hm0
        have he : Hid (holdsTo T t (i + 1) = holdsTo T t i) := Lib.hid (by rw [hsuc.out, hm.out]; simp)
        have O4 := Lib.hid O3
        rw [← he.out] at O4
        have B4 := Lib.hid B3
        obtain ⟨a8, c8, rfl⟩ := row_shape O3
        clear O3 B3
        go_wp2
        go_roundw
        case rel => exact ⟨i + 1, by go_num, by omega, O4, B4⟩
        case measure => simp [intOf]; omega
      · have he : Hid (holdsTo T t (i + 1) = holdsTo T t i ++ [((k1, k2, k3), m)]) := Lib.hid (by rw [hsuc.out, hm.out, if_neg hm0])
        obtain ⟨a8, c8, rfl⟩ := row_shape O3
        have hnewc := Lib.hid (heap_alloc_new w3 (.cells #[.int .u8 k1, .int .u32 k2, .int .u32 k3, .int .u8 m] 54))
        go_wp2_with (first
          | (refine wpList_append_lies _ (by rfl) _ _ _ (by rfl) G 54 ih _ 4 16 Try.underlying50 hih y0 y1 y2 rfl (by omega) (.slice a8 (holdsTo T t i).length c8) (holdsTo T t i).length (hCells (holdsTo T t i)) (by rfl) (O3.alloc _)
                  ⟨w3.heap.size, 0, none⟩ 1 1 (hRow ((k1, k2, k3), m)) (by rfl) (by rfl) (World.news_of_block hnewc.out) (by simp [Value.oneCell', hRow])
                  (by omega) (by unfold maxLen; omega) (by omega) (by simp; omega) (w3.heap.size + 1) (by simp) ?_
             intro gg gcap w4 hown hgrow hat hltg))
        have B4 : RowKit.Below G w1 w4 := (B3.alloc hR3 _).trans (below_of_grown hgrow (fun j hj => (row_ge O3 j hj).1) (by simp; omega))
        go_roundw
        case rel => exact ⟨i + 1, by go_num, by omega, Lib.hid (by rw [he.out, hCells_snoc, List.length_append]; exact hown), Lib.hid B4⟩
        case measure => simp [intOf]; omega
    · obtain rfl : i = n := by omega
      go_wp2
      go_ret
      exact ⟨_, rfl, row_low O.out hRG, BB1.out.trans (B.out.mono hRG)⟩
end Go.Proofs.Ytilknhackmccpaa

namespace Go.Proofs.Ytilknhackmccpaa
open Go.RowKit Go.Sort Go.Lib

/-- Into a rising list, once. -/
def insR {α : Type} (lt : α → α → Bool) : List α → α → List α
  | [], x => [x]
  | y :: r, x => if lt x y then x :: y :: r else if lt y x then y :: insR lt r x else y :: r
theorem insR_len {α : Type} (lt : α → α → Bool) (l : List α) (x : α) : (insR lt l x).length ≤ l.length + 1 := by
  induction l with
  | nil => exact Nat.le_refl _
  | cons y r ih => simp only [insR]; split <;> (try split) <;> simp <;> omega
theorem insR_mem {α : Type} {lt : α → α → Bool} (ht : ∀ a b, lt a b = false → lt b a = false → a = b) (l : List α) (x : α) : ∀ z, z ∈ insR lt l x ↔ z = x ∨ z ∈ l := by
  induction l with
  | nil => intro z; simp [insR]
  | cons y r ih =>
    intro z
    simp only [insR]
    cases h1 : lt x y with
    | true => simp
    | false =>
      cases h2 : lt y x with
      | true => simp only [Bool.false_eq_true, if_false, if_true, List.mem_cons, ih]; constructor <;> (rintro (h | h | h) <;> simp_all)
      | false => obtain rfl := ht x y h1 h2; simp
theorem insR_rise {α : Type} {lt : α → α → Bool} {R : α → α → Prop} (hR : ∀ a b, lt a b = true ↔ R a b) (htr : ∀ a b c, R a b → R b c → R a c) (ht : ∀ a b, lt a b = false → lt b a = false → a = b) (l : List α) (x : α) (hl : l.Pairwise R) : (insR lt l x).Pairwise R := by
  induction l with
  | nil => simp [insR]
  | cons y r ih =>
    obtain ⟨h1, h2⟩ := List.pairwise_cons.1 hl
    simp only [insR]
    cases hxy : lt x y with
    | true =>
      have hx := (hR _ _).1 hxy
      simp only [if_true, List.pairwise_cons]
      refine ⟨fun z hz => ?_, h1, h2⟩
      rcases List.mem_cons.1 hz with rfl | hz
      · exact hx
      · exact htr _ _ _ hx (h1 z hz)
    | false =>
      cases hyx : lt y x with
      | true =>
        simp only [Bool.false_eq_true, if_false, if_true, List.pairwise_cons]
        refine ⟨fun z hz => ?_, ih h2⟩
        rcases (insR_mem ht r x z).1 hz with rfl | hz
        · exact (hR _ _).1 hyx
        · exact h1 z hz
      | false =>
        simp only [Bool.false_eq_true, if_false, List.pairwise_cons]
        exact ⟨h1, h2⟩
def kltB (a b : Ky) : Bool := decide (KLt a b)
def insK (ks : List Ky) (k : Ky) : List Ky := insR kltB ks k
def insH (hs : List Int) (t : Int) : List Int := insR (fun a b => decide (a < b)) hs t
theorem kltB_total (a b : Ky) (h : kltB a b = false) (h' : kltB b a = false) : a = b := KLt.total (by simpa [kltB] using h) (by simpa [kltB] using h')
theorem insK_mem (ks : List Ky) (k : Ky) : ∀ z, z ∈ insK ks k ↔ z = k ∨ z ∈ ks := insR_mem kltB_total ks k
theorem insK_rise {ks : List Ky} (h : ks.Pairwise KLt) (k : Ky) : (insK ks k).Pairwise KLt := insR_rise (R := KLt) (fun a b => by simp [kltB]) (fun _ _ _ => KLt.trans) kltB_total ks k h
theorem insH_mem (hs : List Int) (t : Int) : ∀ z, z ∈ insH hs t ↔ z = t ∨ z ∈ hs := insR_mem (fun a b h h' => by simp at h h'; omega) hs t
theorem insH_rise {hs : List Int} (h : hs.Pairwise (· < ·)) (t : Int) : (insH hs t).Pairwise (· < ·) := insR_rise (R := fun (a b : Int) => a < b) (fun a b => by simp) (fun _ _ _ h k => by omega) (fun a b h h' => by simp at h h'; omega) hs t h
def setF (F : Ky → Lk) (k : Ky) (l : Lk) : Ky → Lk := fun k' => if k' = k then l else F k'
def setW (W : Int → Option (Ky × Int)) (t : Int) (h : Option (Ky × Int)) : Int → Option (Ky × Int) := fun t' => if t' = t then h else W t'
/-- The mode that is asked for. -/
def askM (m : Int) : Int := if m = 1 then 1 else 2
/-- Ask. -/
def askT (T : Tb) (t : Int) (k : Ky) (m : Int) : Bool × Tb :=
  if modeL (T.F k).1 t = 2 ∨ modeL (T.F k).1 t = askM m then (true, T)
  else if (T.W t).isSome then (false, T)
  else if freeB (T.F k).1 (t, askM m) && (modeL (T.F k).1 t != 0 || (T.F k).2.length == 0) then (true, ⟨insK T.ks k, setF T.F k (notL (T.F k).1 t ++ [(t, askM m)], (T.F k).2), T.hs, T.W⟩)
  else (false, ⟨insK T.ks k, setF T.F k ((T.F k).1, insL (T.F k).2 (place (T.F k).1 (T.F k).2 t) (t, askM m)), insH T.hs t, setW T.W t (some (k, askM m))⟩)

section
variable {κ : Type} [DecidableEq κ] {T : KT κ} {w : World} {b : Nat} {ks ks' : List κ} {f : κ → Option Value} {o : Oper} {a : Act} {K : Act → World → Prop} {Q : Exit → Act → World → Prop}
theorem wp_storeV (m x v : Operand) {mt et : TypeId} (hop : o.op = Op.mapUpdate mt m x v) (hu : Try.prog.underlying mt = some (.map T.kt et)) (hm : a.eval m = .map (some b)) (hM : MapV T w b ks f) {k : κ} (hk : T.ok k) (hx : a.eval x = T.v k) (u : Value) (hv : a.eval v = u) (hi : insS ks k ks') (hn : ks.length < maxLen)
    (hK : ∀ w', MapV T w' b ks' (putF f k u) → w.grownBy w' (some b) → K (a.put o.dst undef) w') : o.wp Try.prog a w K Q := by
  obtain ⟨w', hrun, r1, r2⟩ := hM.store hu hk u hi hn
  unfold Oper.wp
  simp [execOp, hop, hm, hx, hv, hrun, Result.andThen]
  exact hK w' r1 r2
theorem wp_deleteV (m x : Operand) {mt et : TypeId} (hop : o.op = Op.call { callee := Callee.builtin Builtin.delete, args := #[m, x], argTypes := #[mt, T.kt] }) (hu : Try.prog.underlying mt = some (.map T.kt et)) (hm : a.eval m = .map (some b)) (hM : MapV T w b ks f) {k : κ} (hk : T.ok k) (hx : a.eval x = T.v k) (hi : ∀ x, x ∈ ks' ↔ x ≠ k ∧ x ∈ ks)
    (hK : ∀ w', MapV T w' b ks' (delF f k) → w.grownBy w' (some b) → K (a.put o.dst (.tuple #[])) w') : o.wp Try.prog a w K Q := by
  obtain ⟨w', hrun, r1, r2⟩ := hM.drop hu hk o.type hi
  unfold Oper.wp
  simp [execOp, hop, resolve, invoke, builtin, hm, hx, hrun, Result.andThen]
  exact hK w' r1 r2
end
end Go.Proofs.Ytilknhackmccpaa
