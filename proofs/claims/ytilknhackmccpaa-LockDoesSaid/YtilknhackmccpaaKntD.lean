/- Cycle's inner walk: does a way lead back? (the closure that calls itself); The closure that calls itself: its walk; The closure that is handed to slices.IndexFunc; slices.IndexFunc itself over it. -/
import Derived.Test.YtilknhackmccpaaKntB
set_option linter.unusedVariables false
set_option linter.unusedSimpArgs false
namespace Go.Proofs.Ytilknhackmccpaa
open Go.RowKit Go.Sort Go.Maps Go.ChangeMaps Go.MapKept Go.ChangeShapes

/-- From n one comes tg 'tg' by others than those of S. -/
inductive Rch (f : Int → List Int) (tg : Int) (S : List Int) : Int → Prop
  | here {n : Int} : tg ∈ f n → Rch f tg S n
  | step {n m : Int} : m ∈ f n → m ∉ S → Rch f tg S m → Rch f tg S n
theorem Rch.mono {f : Int → List Int} {tg : Int} {S T : List Int} (hs : ∀ x, x ∈ S → x ∈ T) {n : Int} (h : Rch f tg T n) : Rch f tg S n := by
  induction h with
  | here h => exact .here h
  | step h1 h2 _ ih => exact .step h1 (fun h => h2 (hs _ h)) ih
/-- All that were seen since S lead on tg seen ones alone, and not tg 'tg'. -/
def Shut (f : Int → List Int) (tg : Int) (S T : List Int) : Prop := ∀ y ∈ T, y ∈ S ∨ (tg ∉ f y ∧ ∀ z ∈ f y, z ∈ T)
theorem Shut.not {f : Int → List Int} {tg : Int} {S T : List Int} (h : Shut f tg S T) {n : Int} (h1 : tg ∉ f n) (h2 : ∀ z ∈ f n, z ∈ T) : ¬ Rch f tg S n := by
  intro hr
  induction hr with
  | here h => exact h1 h
  | step a b _ ih =>
    rcases h _ (h2 _ a) with h | ⟨h3, h4⟩
    · exact b h
    · exact ih h3 h4

/-- How many of V are not in S. -/
def unseen (V S : List Int) : Nat := (V.filter fun x => !decide (x ∈ S)).length
theorem unseen_mono {V S T : List Int} (h : ∀ x, x ∈ S → x ∈ T) : unseen V T ≤ unseen V S := by
  unfold unseen
  induction V with
  | nil => simp
  | cons x r ih =>
    simp only [List.filter_cons]
    by_cases hx : x ∈ S
    · simp [hx, h x hx]; exact ih
    · by_cases hy : x ∈ T
      · simp [hx, hy]; omega
      · simp [hx, hy]; exact ih
theorem unseen_lt {V S : List Int} {m : Int} (h1 : m ∈ V) (h2 : m ∉ S) : unseen V (m :: S) + 1 ≤ unseen V S := by
  unfold unseen
  induction V with
  | nil => simp at h1
  | cons x r ih =>
    have hm : (r.filter fun x => !decide (x ∈ m :: S)).length ≤ (r.filter fun x => !decide (x ∈ S)).length := unseen_mono (V := r) (S := S) (T := m :: S) (fun x hx => by simp [hx])
    simp only [List.filter_cons]
    by_cases hxm : x = m
    · subst hxm
      simp [h2]
      simpa using hm
    · have h1' : m ∈ r := by
        rcases List.mem_cons.1 h1 with e | e
        · exact absurd e.symm hxm
        · exact e
      have := ih h1'
      by_cases hx : x ∈ S
      · simp [hx]; simpa using this
      · simp [hx, hxm]; simpa using this

/-- Block S is the map 'seen', and marks just those of the list. -/
def Seen (w : World) (S k : Nat) (T : List Int) : Prop :=
  ∃ D : DataW Unit, w.ownsMap Try.prog 23 (plainElem Try.prog 3) S k D ∧ ∀ x, D.atKey (.int .u32 x) (.lit (.int .i64 0)) = .lit (.int .i64 (if x ∈ T then 1 else 0))
section
variable {w w' : World} {S k : Nat} {T : List Int}
theorem Seen.kept {row : Option Nat} (h : Seen w S k T) (hg : w.grownBy w' row) (hne : some S ≠ row) : Seen w' S k T := by
  obtain ⟨D, h1, h2⟩ := h
  exact ⟨D, h1.kept hg hne, h2⟩
theorem Seen.lt (h : Seen w S k T) : S < w.heap.size := by
  obtain ⟨D, h1, _⟩ := h
  exact h1.lt
theorem Seen.map (h : Seen w S k T) : ∃ es clock, w.heap[S]? = some (.map es clock) := by
  obtain ⟨D, ⟨es, clock, h1, _⟩, _⟩ := h
  exact ⟨es, clock, h1⟩
theorem Seen.look (h : Seen w S k T) {x : Int} (hx : U x) : (Instr.lookup 66 (.map (some S)) (.int .u32 x) false).run Try.prog w = .ok (.int .i64 (if x ∈ T then 1 else 0)) w := by
  obtain ⟨D, h1, h2⟩ := h
  obtain ⟨c, r1, r2, _⟩ := h1.lookup_int law_u Try.underlying66 Try.underlying3 (zero_int w) hx.key
  rw [h2 x] at r2
  simp only [DataW.lit.injEq, Lit.int.injEq, true_and] at r2
  rw [r1, r2]
theorem Seen.mark (h : Seen w S k T) (hk : k < maxLen) {x : Int} (hx : U x) : ∃ w', (Instr.mapUpdate 66 (.map (some S)) (.int .u32 x) (.int .i64 1)).run Try.prog w = .ok () w' ∧ Seen w' S (k + 1) (x :: T) ∧ w.grownBy w' (some S) := by
  obtain ⟨D, h1, h2⟩ := h
  obtain ⟨w', r1, r2, r3⟩ := h1.update law_u Try.underlying66 hk hx.key (plainElem_int Try.underlying3 (by decide) : plainElem (H := Unit) Try.prog 3 (.int .i64 1) = _)
  refine ⟨w', r1, ⟨_, r2, fun y => ?_⟩, r3⟩
  by_cases hy : y = x
  · subst hy
    rw [atKey_put_same h1.isMap (by trivial)]
    simp
  · rw [atKey_put_other (by simpa using hy), h2 y]
    simp [hy]
theorem Seen.made (w : World) : Seen (w.alloc (.map #[] 0)) w.heap.size 0 [] :=
  ⟨_, World.ownsMap_made _ _ _ _, fun x => by simp; rfl⟩
end

/-- A slice of the call's own, its head and its cells. -/
theorem own_form {w : World} {base : Nat} {v : Value} {zs : List Int} (h : w.ownsInts base 23 .u32 v zs) :
    ∃ a cap, v = .slice a zs.length cap ∧ ∀ i, i < zs.length → ∃ g, a = some ⟨g, 0, none⟩ ∧ base ≤ g ∧ g < w.heap.size ∧ (∃ cs ty fr, w.heap[g]? = some (.cells cs ty fr)) ∧ w.cell? ⟨g, i, none⟩ = some (.int .u32 (zs.getD i 0)) := by
  rcases own_cases h with ⟨rfl, rfl⟩ | ⟨g, cap, rfl, hb, hn, hc, hR⟩
  · exact ⟨none, 0, rfl, fun i hi => by simp at hi⟩
  · refine ⟨_, cap, rfl, fun i hi => ⟨g, rfl, hb, hR.lt, ?_, ?_⟩⟩
    · obtain ⟨cur, h1, _⟩ := hR
      exact ⟨_, _, _, h1⟩
    · rw [hR.cell (by simpa using hi), getElem!_pos zs.toArray i (by simpa using hi)]
      simp [List.getD_eq_getElem?_getD, List.getElem?_eq_getElem hi]

/-- What the closures of Cycle have captured: the number, the map, the function itself. -/
structure Knot (w : World) (f : Int → List Int) (tg : Int) (B3 B5 B6 B7 M : Nat) : Prop where
  c3 : w.cell? ⟨B3, 0, none⟩ = some (.int .u32 tg)
  c5 : w.cell? ⟨B5, 0, none⟩ = some (.map (some M))
  c7 : w.cell? ⟨B7, 0, none⟩ = some (.func (.func 36) #[] #[.pointer (some ⟨B5, 0, none⟩), .pointer (some ⟨B3, 0, none⟩), .pointer (some ⟨B6, 0, none⟩), .pointer (some ⟨B7, 0, none⟩)])
  own : ∃ m D, w.ownsGroups Try.prog 23 (M + 1) 23 .u32 M m D ∧ m < 4294967296 ∧ Reads D f
  off : w.Shuns M (fun g => B5 ≤ g)
  lt3 : B3 < B5
  ltM : M < B5
  lt5 : B5 < B7
  lt7 : B7 < w.heap.size
theorem cell_block {w : World} {B i : Nat} {v : Value} (h : w.cell? ⟨B, i, none⟩ = some v) : ∃ cs ty fr, w.heap[B]? = some (.cells cs ty fr) := by
  unfold World.cell? at h
  simp at h
  split at h
  · rename_i cs ty fr hh
    exact ⟨cs, ty, fr, hh⟩
  · cases h
theorem Knot.kept {w w' : World} {f : Int → List Int} {tg : Int} {B3 B5 B6 B7 M : Nat} {row : Option Nat} (h : Knot w f tg B3 B5 B6 B7 M) (hg : w.grownBy w' row) (hS : ∀ R, row = some R → B5 < R ∧ R ≠ B7) : Knot w' f tg B3 B5 B6 B7 M := by
  have l7 := h.lt7
  have l5 := h.lt5
  have l3 := h.lt3
  have lM := h.ltM
  have hne : ∀ B, B ≤ B5 ∨ B = B7 → some B ≠ row := fun B hB e => by
    have := hS B e.symm
    omega
  have far : ∀ B v, B ≤ B5 ∨ B = B7 → w.cell? ⟨B, 0, none⟩ = some v → w'.cell? ⟨B, 0, none⟩ = some v := fun B v hB hv =>
    (hg.cell_far ⟨B, 0, none⟩ (by show B < _; omega) (hne B hB)).trans hv
  obtain ⟨m, D, h1, h2, h3⟩ := h.own
  exact ⟨far _ _ (by omega) h.c3, far _ _ (by omega) h.c5, far _ _ (by omega) h.c7, ⟨m, D, h1.kept hg (hne M (by omega)) (h.off.rowsOff fun j hj => by have := (hS j hj).1; omega), h2, h3⟩,
    h.off.kept hg (by omega) (hne M (by omega)), l3, lM, l5, Nat.lt_of_lt_of_le l7 hg.size⟩
end Go.Proofs.Ytilknhackmccpaa

set_option linter.unusedVariables false
set_option linter.unusedSimpArgs false
namespace Go.Proofs.Ytilknhackmccpaa
open Go.RowKit Go.Sort Go.Maps Go.ChangeMaps Go.MapKept Go.ChangeShapes

theorem far_cell {w w' : World} {S B : Nat} {v : Value} (hv : w.cell? ⟨B, 0, none⟩ = some v) (hg : w.grownBy w' (some S)) (hS : ∃ es clock, w.heap[S]? = some (.map es clock)) : w'.cell? ⟨B, 0, none⟩ = some v := by
  obtain ⟨es, clock, hS⟩ := hS
  obtain ⟨cs, ty, fr, hh⟩ := cell_block hv
  refine (hg.cell_far ⟨B, 0, none⟩ (Array.getElem?_eq_some_iff.1 hh).1 ?_).trans hv
  intro e
  simp at e
  subst e
  rw [hh] at hS
  cases hS
def BackTill (V : List Int) (f : Int → List Int) (tg : Int) (B3 B5 B6 B7 M N : Nat) : Prop :=
  ∀ (n : Int) (T : List Int) (S k : Nat) (w : World), unseen V T < N → U n → Knot w f tg B3 B5 B6 B7 M → Seen w S k T → w.cell? ⟨B6, 0, none⟩ = some (.map (some S)) → B7 < S → k + unseen V T < 1073741824 →
    Calls Try.prog 36 #[.int .u32 n, .pointer (some ⟨B5, 0, none⟩), .pointer (some ⟨B3, 0, none⟩), .pointer (some ⟨B6, 0, none⟩), .pointer (some ⟨B7, 0, none⟩)] w fun e w' =>
      ∃ (r : Bool) (T' : List Int) (k' : Nat), e = .returned (.bool r) ∧ Seen w' S k' T' ∧ k' + unseen V T' ≤ k + unseen V T ∧ w.grownBy w' (some S) ∧ (∀ x, x ∈ T → x ∈ T') ∧ (r = true → Rch f tg T n) ∧ (r = false → tg ∉ f n ∧ (∀ z ∈ f n, z ∈ T') ∧ Shut f tg T T')

set_option maxRecDepth 100000 in
set_option maxHeartbeats 4000000 in
theorem back_step (V : List Int) (f : Int → List Int) (tg : Int) (B3 B5 B6 B7 M : Nat) (hV : ∀ n z, z ∈ f n → z ∈ V ∧ U z) (N : Nat) (IH : BackTill V f tg B3 B5 B6 B7 M N) : BackTill V f tg B3 B5 B6 B7 M (N + 1) := by
  intro n T S k w hun hu HK hS c6 hSM hk
  have hSr : ∀ R, some S = some R → B5 < R ∧ R ≠ B7 := fun R e => by cases e; have := HK.lt5; omega
  obtain ⟨m, D, hown, hm, hR⟩ := HK.own
  obtain ⟨v, look, hoi, hzl, _, _⟩ := groups_at hown hR (by unfold maxLen; omega) hu
  obtain ⟨zs, hzs⟩ : ∃ zs, f n = zs := ⟨_, rfl⟩
  have hVz : ∀ z ∈ zs, z ∈ V ∧ U z := fun z hz => hV n z (hzs ▸ hz)
  rw [hzs] at hoi hzl
  have hcon := contains_own w hoi tg
  obtain ⟨a', cap', rfl, hcell⟩ := own_form hoi
  obtain ⟨L, hL⟩ : ∃ L, zs.length = L := ⟨_, rfl⟩
  rw [hL] at hcon hcell hzl look
  have L0 := look w rfl
  have c3 := HK.c3
  have c5 := HK.c5
  obtain ⟨cb, hcb⟩ : ∃ cb, (zs.any fun y => tg == y) = cb := ⟨_, rfl⟩
  rw [hcb] at hcon
  have hIH := Lib.hid IH
  have hHK := Lib.hid HK
  clear IH HK hR hown look hoi
  cases cb
  · have htg : tg ∉ zs := fun h => by
      have := List.any_eq_false.1 hcb tg h
      simp at this
    clear hcb
    go_enter Try.func36, Try.ntmps36
    go_wp2_with (go_at_call 37; refine hcon.mono ?_; intro e w' h; rw [h.1, h.2]; clear h w' e)
    go_loopw [18, 8] (fun vi _ wr => ∃ (j : Nat) (Tj : List Int) (kj : Nat), vi = .int .i64 j ∧ j ≤ L ∧ Seen wr S kj Tj ∧ kj + unseen V Tj ≤ k + unseen V T ∧ w.grownBy wr (some S) ∧ Hid ((∀ x, x ∈ T → x ∈ Tj) ∧ (∀ i, i < j → zs.getD i 0 ∈ Tj) ∧ Shut f tg T Tj)) (fun vi _ _ => L - (intOf vi).toNat)
    case atStart => exact ⟨0, T, k, rfl, Nat.zero_le _, hS, Nat.le_refl _, World.grownBy.refl _ _, Lib.hid ⟨fun _ h => h, fun i hi => absurd hi (Nat.not_lt_zero _), fun y hy => .inl hy⟩⟩
    case round =>
      obtain ⟨j, Tj, kj, rfl, hj, hSj, hkj, hgj, hH⟩ := hrel
      by_cases hlt : j < L
      · obtain ⟨g, rfl, _, hgl, ⟨gcs, gty, gfr, hgc⟩, hcj⟩ := hcell j hlt
        obtain ⟨x, hx⟩ : ∃ x, zs.getD j 0 = x := ⟨_, rfl⟩
        have hxz : x ∈ zs := by
          rw [← hx]
          have : zs.getD j 0 = zs[j]'(by omega) := by simp [List.getD_eq_getElem?_getD, List.getElem?_eq_getElem (show j < zs.length by omega)]
          rw [this]
          exact List.getElem_mem _
        obtain ⟨hxV, hux⟩ := hVz x hxz
        rw [hx] at hcj
        have hgS : some g ≠ some S := fun e => by
          obtain ⟨es, clock, h1⟩ := hS.map
          simp at e
          subst e
          rw [hgc] at h1
          cases h1
        have cj := (hgj.cell_far ⟨g, j, none⟩ hgl hgS).trans hcj
        have d6 := far_cell c6 hgj hS.map
        have lk := hSj.look hux
        by_cases hin : x ∈ Tj
        · rw [if_pos hin] at lk
          go_wp2
          go_roundw
          case rel =>
            refine ⟨j + 1, Tj, kj, by go_num, by omega, hSj, hkj, hgj, Lib.hid ⟨hH.out.1, fun i hi => ?_, hH.out.2.2⟩⟩
            rcases Nat.lt_or_ge i j with h | h
            · exact hH.out.2.1 i h
            · have : i = j := by omega
              rw [this, hx]
              exact hin
          case measure => simp [intOf]; omega
        · rw [if_neg hin] at lk
          have hus := unseen_lt hxV hin
          have hTT := unseen_mono (V := V) hH.out.1
          obtain ⟨w1, r1, hS1, g1⟩ := hSj.mark (by unfold maxLen; omega) hux
          have d7 := far_cell (far_cell hHK.out.c7 hgj hS.map) g1 hSj.map
          have e6 := far_cell d6 g1 hSj.map
          have hcall := hIH.out x (x :: Tj) S (kj + 1) w1 (by omega) hux ((hHK.out.kept hgj hSr).kept g1 hSr) hS1 e6 hSM (by omega)
          go_wp2_with (go_at_call 36; refine hcall.mono ?_; rintro e w2 ⟨r, T2, k2, rfl, hS2, hk2, g2, hT2, hrt, hrf⟩)
          · have hrT : r = true := by assumption
            go_ret
            exact ⟨true, T2, k2, rfl, hS2, by omega, hgj.trans (g1.trans g2), fun y hy => hT2 _ (by simp [hH.out.1 y hy]), fun _ => .step (hzs ▸ hxz) (fun h => hin (hH.out.1 _ h)) ((hrt hrT).mono (fun y hy => by simp [hH.out.1 y hy])), fun h => by cases h⟩
          · have hrF : r = false := by assumption
            obtain ⟨q1, q2, q3⟩ := hrf hrF
            refine ⟨⟨j + 1, T2, k2, by go_num, by omega, hS2, by omega, hgj.trans (g1.trans g2), Lib.hid ⟨fun y hy => hT2 _ (by simp [hH.out.1 y hy]), fun i hi => ?_, fun y hy => ?_⟩⟩, by simp [intOf]; omega⟩
            · rcases Nat.lt_or_ge i j with h | h
              · exact hT2 _ (List.mem_cons_of_mem _ (hH.out.2.1 i h))
              · have : i = j := by omega
                rw [this, hx]
                exact hT2 _ (by simp)
            · rcases q3 y hy with h | h
              · rcases List.mem_cons.1 h with rfl | h
                · exact .inr ⟨q1, q2⟩
                · rcases hH.out.2.2 y h with h | ⟨h1, h2⟩
                  · exact .inl h
                  · exact .inr ⟨h1, fun z hz => hT2 _ (by simp [h2 z hz])⟩
              · exact .inr h
      · have : j = L := by omega
        subst this
        go_wp2
        go_ret
        refine ⟨false, Tj, kj, rfl, hSj, hkj, hgj, hH.out.1, fun h => (by cases h), fun _ => ⟨by rw [hzs]; exact htg, fun z hz => ?_, hH.out.2.2⟩⟩
        rw [hzs] at hz
        obtain ⟨i, hi, e⟩ := List.mem_iff_getElem.1 hz
        have := hH.out.2.1 i (by omega)
        rw [List.getD_eq_getElem?_getD, List.getElem?_eq_getElem hi] at this
        simpa [e] using this
  · go_enter Try.func36, Try.ntmps36
    go_wp2_with (go_at_call 37; refine hcon.mono ?_; intro e w' h; rw [h.1, h.2]; clear h w' e)
    go_ret
    refine ⟨true, T, k, rfl, hS, Nat.le_refl _, World.grownBy.refl _ _, fun _ h => h, fun _ => .here ?_, fun h => by cases h⟩
    rw [hzs]
    obtain ⟨y, hy, e⟩ := List.any_eq_true.1 hcb
    rw [show tg = y by simpa using e]
    exact hy
theorem back_u (V : List Int) (f : Int → List Int) (tg : Int) (B3 B5 B6 B7 M : Nat) (hV : ∀ n z, z ∈ f n → z ∈ V ∧ U z) : ∀ N, BackTill V f tg B3 B5 B6 B7 M N
  | 0 => fun _ _ _ _ _ h => absurd h (Nat.not_lt_zero _)
  | N + 1 => back_step V f tg B3 B5 B6 B7 M hV N (back_u V f tg B3 B5 B6 B7 M hV N)
end Go.Proofs.Ytilknhackmccpaa

set_option linter.unusedVariables false
set_option linter.unusedSimpArgs false
namespace Go.Proofs.Ytilknhackmccpaa
open Go.RowKit Go.Sort Go.Maps Go.ChangeMaps Go.MapKept Go.ChangeShapes

theorem groups_shuns {w : World} {base b n : Nat} {e : TypeId} {D : DataW Unit} (h : w.ownsGroups Try.prog 23 base e .u32 b n D) : w.Shuns b (fun g => w.heap.size ≤ g) := by
  intro es clock hb x hx g hg hle
  obtain ⟨es', clock', hb', F, _⟩ := h
  rw [hb] at hb'
  cases hb'
  obtain ⟨y, hy⟩ := F.reads x hx
  obtain ⟨z, hz, _⟩ := WideElems.rd_val hy
  obtain ⟨zs, ho, _⟩ := rowElem_inv hz
  have := (ho.1.lt g hg).2
  omega
/-- A box of one cell. -/
def Box1 (w : World) (B : Nat) (v : Value) (t : TypeId) : Prop := w.heap[B]? = some (.cells #[v] t)
section
variable {w w' : World} {B : Nat} {v : Value} {t : TypeId}
theorem Box1.lt (h : Box1 w B v t) : B < w.heap.size := (Array.getElem?_eq_some_iff.1 h).1
theorem Box1.cell (h : Box1 w B v t) : w.cell? ⟨B, 0, none⟩ = some v := by rw [cell_of_heap h]; rfl
theorem Box1.froz (h : Box1 w B v t) : w.frozen? ⟨B, 0, none⟩ = false := by unfold Box1 at h; simp [World.frozen?, h]
theorem Box1.kept {row : Option Nat} (h : Box1 w B v t) (hg : w.grownBy w' row) (hne : some B ≠ row) : Box1 w' B v t := (hg.block B h.lt hne).trans h
theorem Box1.set (h : Box1 w B v t) (u : Value) : Box1 (w.setCell ⟨B, 0, none⟩ u) B u t := by
  unfold Box1 at h ⊢
  simp [World.setCell, Array.getElem?_modify, h]
end
theorem grown_box (w : World) (B : Nat) (v : Value) : w.grownBy (w.setCell ⟨B, 0, none⟩ v) (some B) := grown_set w B 0 v

set_option maxRecDepth 100000 in
set_option maxHeartbeats 4000000 in
theorem pred_u (V : List Int) (f : Int → List Int) (tg : Int) (B3 B5 B6 B7 B8 M base : Nat) (hV : ∀ n z, z ∈ f n → z ∈ V ∧ U z) (m : Int) (ws : List Int) (s0 wv : Value) (w : World) (hm : U m) (HK : Knot w f tg B3 B5 B6 B7 M)
    (h6 : Box1 w B6 s0 66) (h8 : Box1 w B8 wv 24) (hw : w.ownsInts base 23 .u32 wv ws) (h78 : B7 < B8) (h67 : B5 < B6 ∧ B6 < B7) (hb : B7 < base) (hl : ws.length + V.length < 1000000000) :
    Calls Try.prog 39 #[.int .u32 m, .pointer (some ⟨B6, 0, none⟩), .pointer (some ⟨B8, 0, none⟩), .pointer (some ⟨B7, 0, none⟩)] w fun e w' =>
      ∃ (r : Bool) (s' : Value), e = .returned (.bool r) ∧ (r = true ↔ m ∉ ws ∧ Rch f tg (m :: ws) m) ∧ Box1 w' B6 s' 66 ∧ w.grownBy w' (some B6) := by
  have hmm := @run_makeMap Try.prog
  obtain ⟨S, hS⟩ : ∃ S, w.heap.size = S := ⟨_, rfl⟩
  have g1 := World.grownBy_alloc w (.map #[] 0) none
  have hS0 := Seen.made w
  obtain ⟨w1, hw1⟩ : ∃ x, w.alloc (.map #[] 0) = x := ⟨_, rfl⟩
  have hmk := hmm 66 w
  rw [hw1, hS] at hmk
  rw [hw1] at g1 hS0
  rw [hS] at hS0
  clear hmm
  obtain ⟨w2, r2, hS2, g2⟩ := hS0.mark (by unfold maxLen; omega) hm
  have l8 := h8.lt
  have l6 := h6.lt
  have l7 := HK.lt7
  have h62 := (h6.kept g1 (by simp)).kept g2 (by simp; omega)
  have h82 := (h8.kept g1 (by simp)).kept g2 (by simp; omega)
  have f62 := h62.froz
  have c62 := h62.cell
  have g3 := grown_box w2 B6 (.map (some S))
  have h63 := h62.set (.map (some S))
  have h83 := h82.kept g3 (by simp; omega)
  have hS3 := hS2.kept g3 (by simp; omega)
  obtain ⟨w3, hw3⟩ : ∃ x, w2.setCell ⟨B6, 0, none⟩ (.map (some S)) = x := ⟨_, rfl⟩
  rw [hw3] at g3 h63 h83 hS3
  have gw3 : w.grownBy w3 (some B6) := ((g1.but (some B6)).andThen g2 (fun j hj => by cases hj; left; omega)).andThen g3 (fun j hj => by cases hj; right; rfl)
  have hw3o := hw.kept gw3 (by
    right
    intro e
    have := (hw.1.lt B6 e).1
    omega)
  have HK3 := HK.kept gw3 (fun R e => by cases e; omega)
  obtain ⟨a', cap', hwv, hcell⟩ := own_form hw3o
  obtain ⟨L, hL⟩ : ∃ L, ws.length = L := ⟨_, rfl⟩
  rw [hL] at hwv hcell
  have c83 := h83.cell
  rw [hwv] at c83
  have hS3l := hS3.lt
  have hSb : B7 < S := by omega
  have hSr : ∀ R, some S = some R → B5 < R ∧ R ≠ B7 := fun R e => by cases e; omega
  have hHK := Lib.hid HK3
  clear HK HK3 h6 h62 h82 hS0 hS2 g1
  replace hw1 := Lib.hid hw1
  replace hS := Lib.hid hS
  go_enter Try.func39, Try.ntmps39
  go_wp2
  go_loopw [13, 7] (fun vi _ wr => ∃ (j k : Nat) (T : List Int), vi = .int .i64 j ∧ j ≤ L ∧ Seen wr S k T ∧ k ≤ j + 1 ∧ w3.grownBy wr (some S) ∧ Hid (∀ x, x ∈ T ↔ x = m ∨ ∃ i, i < j ∧ ws.getD i 0 = x)) (fun vi _ _ => L - (intOf vi).toNat)
  case atStart => exact ⟨0, 1, [m], rfl, Nat.zero_le _, hS3, Nat.le_refl _, World.grownBy.refl _ _, Lib.hid fun x => by simp⟩
  case round =>
    obtain ⟨j, k, T, rfl, hj, hSr2, hk, gj, hT⟩ := hrel
    have hc6 := far_cell h63.cell gj hS3.map
    by_cases hlt : j < L
    · obtain ⟨g, rfl, _, hgl, ⟨gcs, gty, gfr, hgc⟩, hcj⟩ := hcell j hlt
      obtain ⟨x, hx⟩ : ∃ x, ws.getD j 0 = x := ⟨_, rfl⟩
      have hxz : x ∈ ws := by
        rw [← hx]
        have : ws.getD j 0 = ws[j]'(by omega) := by simp [List.getD_eq_getElem?_getD, List.getElem?_eq_getElem (show j < ws.length by omega)]
        rw [this]
        exact List.getElem_mem _
      have hux : U x := U.of (hw.2 x hxz)
      rw [hx] at hcj
      have hgS : some g ≠ some S := fun e => by
        obtain ⟨es, clock, h1⟩ := hS3.map
        simp at e
        subst e
        rw [hgc] at h1
        cases h1
      have cj := (gj.cell_far ⟨g, j, none⟩ hgl hgS).trans hcj
      obtain ⟨w4, r4, hS4, g4⟩ := hSr2.mark (by unfold maxLen; omega) hux
      go_wp2
      go_roundw
      case rel =>
        refine ⟨j + 1, k + 1, _, by go_num, by omega, hS4, by omega, gj.trans g4, Lib.hid fun y => ?_⟩
        rw [List.mem_cons, hT.out y]
        constructor
        · rintro (h | h | ⟨i, hi, h⟩)
          · exact .inr ⟨j, by omega, by rw [hx, h]⟩
          · exact .inl h
          · exact .inr ⟨i, by omega, h⟩
        · rintro (h | ⟨i, hi, h⟩)
          · exact .inr (.inl h)
          · rcases Nat.lt_or_ge i j with h' | h'
            · exact .inr (.inr ⟨i, h', h⟩)
            · have : i = j := by omega
              subst this
              exact .inl (by rw [← h, hx])
      case measure => simp [intOf]; omega
    · have hjL : j = L := by omega
      subst hjL
      have hTm : ∀ x, x ∈ T ↔ x ∈ m :: ws := fun x => by
        rw [hT.out x, List.mem_cons]
        constructor
        · rintro (h | ⟨i, hi, h⟩)
          · exact .inl h
          · rw [← h]
            have : ws.getD i 0 = ws[i]'(by omega) := by simp [List.getD_eq_getElem?_getD, List.getElem?_eq_getElem (show i < ws.length by omega)]
            rw [this]
            exact .inr (List.getElem_mem _)
        · rintro (h | h)
          · exact .inl h
          · obtain ⟨i, hi, e⟩ := List.mem_iff_getElem.1 h
            exact .inr ⟨i, by omega, by simp [List.getD_eq_getElem?_getD, List.getElem?_eq_getElem hi, e]⟩
      have hwo : wr.ownsInts base 23 .u32 (.slice a' j cap') ws := by
        rw [← hwv]
        refine hw3o.kept gj (.inr fun e => ?_)
        have := (hw.1.lt S e).2
        have := hS.out
        omega
      have hcon := contains_own wr hwo m
      have hKr := hHK.out.kept gj hSr
      have c8 := (gj.cell_far ⟨B8, 0, none⟩ (by have := h83.lt; exact this) (by have := hS.out; simp; omega)).trans c83
      have c7 := hKr.c7
      have gww : w.grownBy wr (some B6) := gw3.andThen gj (fun R e => by cases e; left; have := hS.out; omega)
      have h6r := h63.kept gj (by have := hS.out; simp; omega)
      obtain ⟨cb, hcb⟩ : ∃ cb, (ws.any fun y => m == y) = cb := ⟨_, rfl⟩
      rw [hcb] at hcon
      have hcm : cb = true ↔ m ∈ ws := by
        rw [← hcb, List.any_eq_true]
        constructor
        · rintro ⟨y, hy, e⟩
          rw [show m = y by simpa using e]
          exact hy
        · intro h
          exact ⟨m, h, by simp⟩
      clear hcb
      replace hcm := Lib.hid hcm
      cases cb
      · have hcall := back_u V f tg B3 B5 B6 B7 M hV (unseen V T + 1) m T S k wr (by omega) hm hKr hSr2 hc6 hSb (by
          have : unseen V T ≤ V.length := List.length_filter_le _ _
          omega)
        go_wp2_with (first
          | (go_at_call 37; refine hcon.mono ?_; intro e w' h; rw [h.1, h.2]; clear h w' e)
          | (go_at_call 36; refine hcall.mono ?_; rintro e w5 ⟨r, T5, k5, rfl, hS5, _, g5, hT5, hrt, hrf⟩))
        go_ret
        refine ⟨r, _, rfl, ⟨fun h => ⟨fun h' => absurd (hcm.out.2 h') (by simp), (hrt h).mono fun x hx => (hTm x).2 hx⟩, fun h => ?_⟩, h6r.kept g5 (by have := hS.out; simp; omega), gww.andThen g5 (fun R e => by cases e; left; have := hS.out; omega)⟩
        cases r
        · obtain ⟨q1, q2, q3⟩ := hrf rfl
          exact absurd (h.2.mono fun x hx => (hTm x).1 hx) (q3.not q1 q2)
        · rfl
      · go_wp2_with (go_at_call 37; refine hcon.mono ?_; intro e w' h; rw [h.1, h.2]; clear h w' e)
        go_ret
        exact ⟨false, _, rfl, ⟨fun h => (by cases h), fun h => absurd (hcm.out.1 (by simp)) h.1⟩, h6r, gww⟩
end Go.Proofs.Ytilknhackmccpaa
