/- Cycle: the walk. -/
import Derived.Test.YtilknhackmccpaaKntG
import Derived.Deep.LoopGhost
import Derived.Deep.RegionLaw
set_option linter.unusedVariables false
set_option linter.unusedSimpArgs false
namespace Go.Proofs.Ytilknhackmccpaa
open Go.RowKit Go.Sort Go.Maps Go.ChangeMaps Go.MapKept Go.ChangeShapes

open Classical in
/-- The first of a list that can be the next one. -/
noncomputable def nextOf (f : Int → List Int) (tg : Int) (ws : List Int) (zs : List Int) : Option Int := zs.find? fun z => decide (Good f tg ws z)
open Classical in
/-- The ring, or nothing; fuel enough. -/
noncomputable def cycGo (f : Int → List Int) (tg : Int) : Nat → List Int → Int → List Int
  | 0, _, _ => []
  | n + 1, ws, last => if tg ∈ f last then ws else
    match nextOf f tg ws (f last) with
    | none => []
    | some z => cycGo f tg n (ws ++ [z]) z
/-- All to which an edge leads. -/
def tos (l : List (Int × Int)) : List Int := canon (l.map (·.2))
noncomputable def cyc (l : List (Int × Int)) (tg : Int) : List Int := cycGo (nx l) tg ((tos l).length + 2) [tg] tg
theorem nx_tos {l : List (Int × Int)} (h : UE l) (x z : Int) (hz : z ∈ nx l x) : z ∈ tos l ∧ U z := by
  rw [nx, mem_canon] at hz
  refine ⟨?_, grp_U h _ _ z hz⟩
  simp only [grp, List.mem_map, List.mem_filter] at hz
  obtain ⟨p, ⟨hp, _⟩, rfl⟩ := hz
  exact mem_canon.2 (List.mem_map.2 ⟨p, List.mem_of_mem_take hp, rfl⟩)

theorem own_mono {w : World} {base base' : Nat} {v : Value} {zs : List Int} (h : w.ownsInts base 23 .u32 v zs) (hb : base' ≤ base) : w.ownsInts base' 23 .u32 v zs := by
  refine ⟨⟨h.1.1, ?_⟩, h.2⟩
  rcases h.1.2 with h1 | ⟨g, cap, cur, h1, h2, h3⟩
  · exact .inl h1
  · exact .inr ⟨g, cap, cur, h1, by omega, h3⟩
theorem heap_at (w : World) (o : Obj) {B : Nat} (h : B = w.heap.size) : (w.alloc o).heap[B]? = some o := by
  rw [h]
  exact heap_alloc_new _ _
theorem cyc_here {f : Int → List Int} {tg : Int} {n : Nat} {ws : List Int} {last : Int} (h : tg ∈ f last) : cycGo f tg (n + 1) ws last = ws := by
  simp [cycGo, h]
theorem cyc_none {f : Int → List Int} {tg : Int} {n : Nat} {ws : List Int} {last : Int} (h : tg ∉ f last) (hN : ∀ i, i < (f last).length → ¬ Good f tg ws ((f last).getD i 0)) : cycGo f tg (n + 1) ws last = [] := by
  have : nextOf f tg ws (f last) = none := by
    unfold nextOf
    rw [List.find?_eq_none]
    intro x hx
    obtain ⟨i, hi, e⟩ := List.mem_iff_getElem.1 hx
    have := hN i hi
    rw [List.getD_eq_getElem?_getD, List.getElem?_eq_getElem hi] at this
    simpa [e] using this
  simp [cycGo, h, this]
theorem cyc_step {f : Int → List Int} {tg : Int} {n : Nat} {ws : List Int} {last : Int} (h : tg ∉ f last) {k : Nat} (hk : k < (f last).length) (hg : Good f tg ws ((f last).getD k 0)) (hN : ∀ i, i < k → ¬ Good f tg ws ((f last).getD i 0)) :
    cycGo f tg (n + 1) ws last = cycGo f tg n (ws ++ [(f last).getD k 0]) ((f last).getD k 0) := by
  have : nextOf f tg ws (f last) = some ((f last).getD k 0) := by
    unfold nextOf
    rw [List.find?_eq_some_iff_getElem]
    refine ⟨by simpa using hg, k, hk, by simp [List.getD_eq_getElem?_getD, List.getElem?_eq_getElem hk], fun j hj => ?_⟩
    have := hN j hj
    rw [List.getD_eq_getElem?_getD, List.getElem?_eq_getElem (by omega)] at this
    simpa using this
  simp [cycGo, h, this]

set_option maxRecDepth 100000 in
set_option maxHeartbeats 8000000 in
theorem cycle_u (a : Option Addr) (n cap : Nat) (l : List (Int × Int)) (tg : Int) (w : World) (hE : Edg w a l) (hU : UE l) (hn : l.length = n) (hn2 : n < 1048576) (htg : U tg) :
    Calls Try.prog 15 #[.slice a n cap, .int .u32 tg] w fun e w' => ∃ v, e = .returned v ∧ w'.ownsInts w.heap.size 23 .u32 v (cyc l tg) ∧ Below w.heap.size w w' := by
  obtain ⟨R, hRR⟩ : ∃ R, cyc l tg = R := ⟨_, rfl⟩
  rw [hRR]
  replace hRR := Lib.hid hRR
  have b1 := below_alloc w (.cells #[.int .u32 tg] 23)
  have hE1 : Edg (w.alloc (.cells #[.int .u32 tg] 23)) a l := fun h => by
    obtain ⟨eb, off, h1, h2, h3⟩ := hE h
    exact ⟨eb, off, h1, Nat.lt_of_lt_of_le h2 b1.size, fun i hi => ⟨(b1.cell h2).trans (h3 i hi).1, (b1.cell h2).trans (h3 i hi).2⟩⟩
  have hW := waits_u a n cap l _ hE1 hU hn hn2
  have k3 : (w.alloc (.cells #[.int .u32 tg] 23)).heap[w.heap.size]? = some (.cells #[.int .u32 tg] 23) := heap_alloc_new _ _
  obtain ⟨B3, hB3⟩ : ∃ B3, w.heap.size = B3 := ⟨_, rfl⟩
  obtain ⟨w1, hw1⟩ : ∃ w1, w.alloc (.cells #[.int .u32 tg] 23) = w1 := ⟨_, rfl⟩
  rw [hw1] at hW b1 hE1 k3
  rw [hB3] at b1 k3
  obtain ⟨M, hM⟩ : ∃ M, w1.heap.size = M := ⟨_, rfl⟩
  rw [hM] at hW
  replace hM := Lib.hid hM
  replace hB3 := Lib.hid hB3
  have hst := fun (b : Array Value) (ad : Addr) (m : Mode) (w : World) => run_store Try.prog w ad (.func (.func 36) #[] b) m rfl
  go_enter Try.func15, Try.ntmps15
  go_upto_region 5 with (go_at_call 35; refine hW.mono ?_; rintro e w2 ⟨rfl, ⟨m, D, hown, hm, hR⟩, b2⟩)
  obtain ⟨B5, hB5⟩ : ∃ B5, w2.heap.size = B5 := ⟨_, rfl⟩
  have hMB : M < B5 := by
    obtain ⟨es, clock, h1, _⟩ := hown
    have := (Array.getElem?_eq_some_iff.1 h1).1
    omega
  have h3M : B3 < M := by have := hM.out; have := (Array.getElem?_eq_some_iff.1 k3).1; omega
  have g2 : w1.grownBy w2 none := ⟨b2.os, b2.tape, b2.output, b2.size, fun i hi _ => b2.block i (by have := hM.out; omega)⟩
  have off2 := groups_shuns hown
  have g3 := ((World.grownBy_alloc w2 (.cells #[.map (some M)] 64) none).trans (World.grownBy_alloc (w2.alloc (.cells #[.map (some M)] 64)) (.cells #[.map none] 66) none)).trans
    (World.grownBy_alloc ((w2.alloc (.cells #[.map (some M)] 64)).alloc (.cells #[.map none] 66)) (.cells #[.func (.func 36) #[] #[.pointer (some ⟨B5, 0, none⟩), .pointer (some ⟨B3, 0, none⟩), .pointer (some ⟨B5 + 1, 0, none⟩), .pointer (some ⟨B5 + 1 + 1, 0, none⟩)]] 67) none)
  have q5 : Box1 (((w2.alloc (.cells #[.map (some M)] 64)).alloc (.cells #[.map none] 66)).alloc (.cells #[.func (.func 36) #[] #[.pointer (some ⟨B5, 0, none⟩), .pointer (some ⟨B3, 0, none⟩), .pointer (some ⟨B5 + 1, 0, none⟩), .pointer (some ⟨B5 + 1 + 1, 0, none⟩)]] 67)) B5 (.map (some M)) 64 := by
    unfold Box1
    rw [heap_alloc_old _ _ (by simp; omega), heap_alloc_old _ _ (by simp; omega), ← hB5]
    exact heap_alloc_new _ _
  have q6 : Box1 (((w2.alloc (.cells #[.map (some M)] 64)).alloc (.cells #[.map none] 66)).alloc (.cells #[.func (.func 36) #[] #[.pointer (some ⟨B5, 0, none⟩), .pointer (some ⟨B3, 0, none⟩), .pointer (some ⟨B5 + 1, 0, none⟩), .pointer (some ⟨B5 + 1 + 1, 0, none⟩)]] 67)) (B5 + 1) (.map none) 66 := by
    unfold Box1
    have e : B5 + 1 = (w2.alloc (.cells #[.map (some M)] 64)).heap.size := by simp; omega
    rw [heap_alloc_old _ _ (by simp; omega), e]
    exact heap_alloc_new _ _
  have q7 : Box1 (((w2.alloc (.cells #[.map (some M)] 64)).alloc (.cells #[.map none] 66)).alloc (.cells #[.func (.func 36) #[] #[.pointer (some ⟨B5, 0, none⟩), .pointer (some ⟨B3, 0, none⟩), .pointer (some ⟨B5 + 1, 0, none⟩), .pointer (some ⟨B5 + 1 + 1, 0, none⟩)]] 67)) (B5 + 1 + 1) (.func (.func 36) #[] #[.pointer (some ⟨B5, 0, none⟩), .pointer (some ⟨B3, 0, none⟩), .pointer (some ⟨B5 + 1, 0, none⟩), .pointer (some ⟨B5 + 1 + 1, 0, none⟩)]) 67 := by
    unfold Box1
    exact heap_at _ _ (by simp; omega)
  have hs3 : (((w2.alloc (.cells #[.map (some M)] 64)).alloc (.cells #[.map none] 66)).alloc (.cells #[.func (.func 36) #[] #[.pointer (some ⟨B5, 0, none⟩), .pointer (some ⟨B3, 0, none⟩), .pointer (some ⟨B5 + 1, 0, none⟩), .pointer (some ⟨B5 + 1 + 1, 0, none⟩)]] 67)).heap.size = B5 + 3 := by simp; omega
  rw [hB3.out, hB5]
  obtain ⟨w3, hw3⟩ : ∃ x, ((w2.alloc (.cells #[.map (some M)] 64)).alloc (.cells #[.map none] 66)).alloc (.cells #[.func (.func 36) #[] #[.pointer (some ⟨B5, 0, none⟩), .pointer (some ⟨B3, 0, none⟩), .pointer (some ⟨B5 + 1, 0, none⟩), .pointer (some ⟨B5 + 1 + 1, 0, none⟩)]] 67) = x := ⟨_, rfl⟩
  rw [hw3] at g3 q5 q6 q7 hs3 ⊢
  obtain ⟨B6, hB6⟩ : ∃ x, B5 + 1 = x := ⟨_, rfl⟩
  obtain ⟨B7, hB7⟩ : ∃ x, B6 + 1 = x := ⟨_, rfl⟩
  rw [hB6] at q6 q7 ⊢
  rw [hB7] at q7 ⊢
  have hK3 : Knot w3 (nx l) tg B3 B5 B6 B7 M := by
    have l3 : B3 < w1.heap.size := by have := hM.out; omega
    have h3 : w3.heap[B3]? = some (.cells #[.int .u32 tg] 23) := (g3.block _ (by omega) (by simp)).trans ((g2.block _ l3 (by simp)).trans k3)
    refine ⟨by rw [cell_of_heap h3]; rfl, q5.cell, q7.cell, ⟨m, D, ?_, by omega, hR⟩, ?_, by omega, hMB, by omega, by omega⟩
    · rw [← hw3]
      exact groups_alloc (groups_alloc (groups_alloc hown _) _) _
    · rw [hB5] at off2
      exact off2.kept g3 (by omega) (by simp)
  have hb3 : Below B3 w w3 := (b1.grown g2 (by have := hM.out; omega) (fun _ h => by cases h)).grown g3 (by omega) (fun _ h => by cases h)
  have hwB : w.heap.size ≤ w3.heap.size := hb3.size
  have g4 := World.grownBy_alloc w3 (.cells #[.int .u32 tg] 23) none
  have k4 := heap_alloc_new w3 (.cells #[.int .u32 tg] 23)
  obtain ⟨w4, hw4⟩ : ∃ x, w3.alloc (.cells #[.int .u32 tg] 23) = x := ⟨_, rfl⟩
  have hs4 : w4.heap.size = w3.heap.size + 1 := by rw [← hw4]; simp
  rw [hw4] at g4 k4
  obtain ⟨R0, hR0⟩ : ∃ x, w3.heap.size = x := ⟨_, rfl⟩
  rw [hR0] at k4 hs4
  have g5 := World.grownBy_alloc w4 (.cells #[.slice (some ⟨R0, 0, none⟩) 1 1] 24) none
  have k5 := heap_at w4 (.cells #[.slice (some ⟨R0, 0, none⟩) 1 1] 24) (B := R0 + 1) hs4.symm
  obtain ⟨w5, hw5⟩ : ∃ x, w4.alloc (.cells #[.slice (some ⟨R0, 0, none⟩) 1 1] 24) = x := ⟨_, rfl⟩
  rw [hw5] at g5 k5
  have g45 := g4.trans g5
  have hK5 := Lib.hid (hK3.kept g45 (fun _ h => by cases h))
  have h65 := Lib.hid (q6.kept g45 (by simp))
  have h85 : Hid (Box1 w5 (R0 + 1) (.slice (some ⟨R0, 0, none⟩) 1 1) 24) := Lib.hid k5
  have ho5 : Hid (w5.ownsInts (B7 + 1) 23 .u32 (.slice (some ⟨R0, 0, none⟩) 1 1) [tg]) := Lib.hid (by
    refine own_of_row (zs := [tg]) (cap := 1) ⟨#[.int .u32 tg], (g5.block R0 (by omega) (by simp)).trans k4, rfl, by simp, fun i hi => ?_⟩ (by omega) (by decide) (by simpa using htg)
    have : i = 0 := by simpa using hi
    subst this
    rfl)
  have hb5 := Lib.hid (hb3.grown g45 (by omega) (fun _ h => by cases h))
  have c3 := hK3.c3
  obtain ⟨B8, hB8⟩ : ∃ x, R0 + 1 = x := ⟨_, rfl⟩
  rw [hB8] at h85
  have h78 : B7 < B8 := by omega
  have h567 : B5 < B6 ∧ B6 < B7 := by omega
  have hB7w : B3 ≤ B7 := by omega
  replace hB5 := Lib.hid hB5
  replace hB6 := Lib.hid hB6
  replace hB7 := Lib.hid hB7
  replace hs3 := Lib.hid hs3
  replace hs4 := Lib.hid hs4
  replace hw3 := Lib.hid hw3
  clear hown hR off2 g2 g3 q5 q6 q7 hK3 k4 k5 g4 g5 g45 hW hst hE hE1 k3 b1 hb3 b2 D m hm
  go_wp2
  rw [hs4.out, hB8]
  have hU2 : ∀ x z, z ∈ nx l x → z ∈ tos l ∧ U z := nx_tos hU
  obtain ⟨V, hV⟩ : ∃ V, tos l = V := ⟨_, rfl⟩
  have hVl : V.length ≤ n := by
    rw [← hV, ← hn, tos]
    exact Nat.le_trans (canon_length _) (by simp)
  have hcyc : cyc l tg = cycGo (nx l) tg (V.length + 2) [tg] tg := by rw [cyc, hV]
  rw [hRR.out] at hcyc
  rw [hV] at hU2
  obtain ⟨f, hf⟩ : ∃ f, nx l = f := ⟨_, rfl⟩
  rw [hf] at hcyc hU2 hK5
  clear hV hf hRR hU
  have hUn : unseen V [tg] ≤ V.length := List.length_filter_le _ _
  have H0 : Hid (([] : List Int) ++ [tg] = [tg] ∧ R = cycGo f tg (V.length + 2) [tg] tg ∧ unseen V [tg] < V.length + 2 ∧ U tg) := Lib.hid ⟨rfl, hcyc, by omega, htg⟩
  clear hcyc
  go_loopg [] (unseen V [tg]) (fun gk wr => ∃ (ws pre : List Int) (wv s0 : Value) (last : Int) (nf L1 : Nat), Hid (Knot wr f tg B3 B5 B6 B7 M) ∧ Hid (Box1 wr B6 s0 66) ∧ Hid (Box1 wr B8 wv 24) ∧ Hid (wr.ownsInts (B7 + 1) 23 .u32 wv ws) ∧ Hid (Below B3 w wr) ∧
    Hid (pre ++ [last] = ws ∧ R = cycGo f tg nf ws last ∧ unseen V ws < nf ∧ U last) ∧ unseen V ws ≤ gk ∧ ws.length = L1 + 1 ∧ L1 + unseen V ws ≤ V.length ∧ wv.ownBlock ≠ some B8)
  case atStart => exact ⟨[tg], [], _, _, tg, V.length + 2, 0, hK5, h65, h85, ho5, hb5, H0, Nat.le_refl _, rfl, by omega, by simp [Value.ownBlock]; omega⟩
  case round =>
    clear hK5 h65 h85 ho5 hb5 H0 hUn
    obtain ⟨ws, pre, wv, s0, last, nf, L1, hK, h6, h8, ho, hb, hS, hgk, hL1, hLV, hwB8⟩ := hrel
    have hul := hS.out.2.2.2
    obtain ⟨m, D, hown, hm, hR⟩ := hK.out.own
    obtain ⟨v, look, hoi, hzl, _, _⟩ := groups_at hown hR (by unfold maxLen; omega) hul
    obtain ⟨zs, hzs⟩ : ∃ zs, f last = zs := ⟨_, rfl⟩
    rw [hzs] at hoi hzl
    have hcon := contains_own wr hoi tg
    obtain ⟨aw, cw, hwv, hwc⟩ := own_form ho.out
    obtain ⟨gw, rfl, hgw, hgwl, _, hcl⟩ := hwc L1 (by omega)
    rw [hL1] at hwv
    have hlast : ws.getD L1 0 = last := by
      have e := hS.out.1
      have : L1 = pre.length := by
        have := congrArg List.length e
        simp at this
        omega
      rw [← e, this]
      simp
    rw [hlast] at hcl
    have c8 := h8.out.cell
    rw [hwv] at c8
    have c5 := hK.out.c5
    have c3r := hK.out.c3
    have L0 := look wr rfl
    have hLi : ((L1 + 1 : Nat) : Int) - 1 = (L1 : Int) := by omega
    obtain ⟨cb, hcb⟩ : ∃ cb, (zs.any fun y => tg == y) = cb := ⟨_, rfl⟩
    rw [hcb] at hcon
    replace hcb := Lib.hid hcb
    replace hlast := Lib.hid hlast
    cases cb
    · have htz : tg ∉ f last := fun h => by
        rw [hzs] at h
        have := List.any_eq_false.1 hcb.out tg h
        simp at this
      have hvs := look_shun hown hul L0 hK.out.off
      have hz6 : v.ownBlock ≠ some B6 := fun e => hvs B6 e (by omega)
      have hcall : Calls Try.prog 38 #[v, .func (.func 39) #[] #[.pointer (some ⟨B6, 0, none⟩), .pointer (some ⟨B8, 0, none⟩), .pointer (some ⟨B7, 0, none⟩)]] wr fun e w' =>
          ∃ (kk : Int) (s' : Value), e = .returned (.int .i64 kk) ∧ Box1 w' B6 s' 66 ∧ wr.grownBy w' (some B6) ∧ Hid ((∃ k : Nat, kk = k ∧ k < zs.length ∧ Good f tg ws (zs.getD k 0) ∧ ∀ i, i < k → ¬ Good f tg ws (zs.getD i 0)) ∨ (kk = -1 ∧ ∀ i, i < zs.length → ¬ Good f tg ws (zs.getD i 0))) := by
        refine (indexf_u V f tg B3 B5 B6 B7 B8 M (B7 + 1) (M + 1) hU2 ws zs s0 wv v wr hK.out h6.out h8.out ho.out h78 h567 (by omega) (by omega) hoi hz6 (by omega)).mono ?_
        rintro e w' ⟨⟨s', q1⟩, q2, ⟨k, rfl, q3⟩ | ⟨rfl, q3⟩⟩
        · exact ⟨_, s', rfl, q1, q2, Lib.hid (.inl ⟨k, rfl, q3⟩)⟩
        · exact ⟨_, s', rfl, q1, q2, Lib.hid (.inr ⟨rfl, q3⟩)⟩
      obtain ⟨av, cv, rfl, hvc⟩ := own_form hoi
      obtain ⟨Z, hZ⟩ : ∃ Z, zs.length = Z := ⟨_, rfl⟩
      rw [hZ] at hcon hcall L0 look
      have hown' := Lib.hid hown
      have hR' := Lib.hid hR
      clear hown hR
      go_wp2_with (first
        | (go_at_call 37; refine hcon.mono ?_; intro e w' h; rw [h.1, h.2]; clear h w' e)
        | (go_at_call 38; refine hcall.mono ?_; rintro e wi ⟨kk, s', rfl, h6i, gi, hkk⟩))
      · have hk0 : kk < 0 := by assumption
        rcases hkk.out with ⟨k, e, _⟩ | ⟨_, hN⟩
        · omega
        go_ret
        obtain ⟨nf', rfl⟩ : ∃ m, nf = m + 1 := ⟨nf - 1, by have := hS.out.2.2.1; omega⟩
        have e := hS.out.2.1
        rw [cyc_none htz (by rw [hzs, hZ]; exact hN)] at e
        refine ⟨_, rfl, ?_, by rw [hB3.out]; exact hb.out.grown gi (by have := hb.out.size; have := hK.out.lt7; omega) (fun j hj => by cases hj; omega)⟩
        rw [e]
        exact World.ownsInts_nil _ _ _ _
      · have hk0 : ¬ kk < 0 := by omega
        rcases hkk.out with ⟨k, rfl, hk, hg, hN⟩ | ⟨e, _⟩
        rotate_left
        · omega
        clear hkk hk0 hcall hcon
        obtain ⟨g, rfl, _, hgl, _, hcj⟩ := hvc k (by omega)
        obtain ⟨z, hz⟩ : ∃ z, zs.getD k 0 = z := ⟨_, rfl⟩
        have hzz : z ∈ zs := by
          rw [← hz]
          have : zs.getD k 0 = zs[k]'(by omega) := by simp [List.getD_eq_getElem?_getD, List.getElem?_eq_getElem (show k < zs.length by omega)]
          rw [this]
          exact List.getElem_mem _
        obtain ⟨hzV, huz⟩ := hU2 last z (by rw [hzs]; exact hzz)
        rw [hz] at hcj hg
        have hgB : g < B5 := by
          have := hvs g rfl
          omega
        have hKi := hK.out.kept gi (fun R e => by cases e; omega)
        have h8i := h8.out.kept gi (by simp; omega)
        have hoi2 := ho.out.kept gi (.inr fun e => by have := (ho.out.1.lt B6 e).1; omega)
        have l8 := h8i.lt
        have gwB : wv.ownBlock = some gw := by rw [hwv]; rfl
        have hgwB8 : gw ≠ B8 := fun e => hwB8 (by rw [gwB, e])
        have hgw7 : B7 + 1 ≤ gw := hgw
        have cji := (gi.cell_far ⟨g, k, none⟩ hgl (by simp; omega)).trans hcj
        have gA := (grown_drewN wi 1 none).trans (World.grownBy_alloc wi.drew (.cells #[.int .u32 z] 23) none)
        have hoW := hoi2.kept gA (by cases wv.ownBlock <;> simp)
        rw [hwv] at hoW
        obtain ⟨i0, hi0, hz0, hz1, hz2⟩ := info_parts info_u
        obtain ⟨g2, cap2, w6, hrunA, hownA, hgrowA, hatA, hltA⟩ := run_append_lies (P := Try.prog) (wi.drew.alloc (.cells #[.int .u32 z] 23)) 24 24 (B7 + 1) 23 i0 (.int .u32 0) 1 4 Try.underlying24 hi0 hz0 hz1 hz2 rfl (by decide)
          (.slice (some ⟨gw, 0, none⟩) (L1 + 1) cw) ws.length _ hoW.1 ⟨wi.heap.size, 0, none⟩ 1 1 [.int .u32 z] rfl (World.news_of_block (heap_alloc_new wi.drew _)) (ints_oneCell .u32 [z]) (by decide) (by unfold maxLen; omega) (by omega) (by have := gA.size; have := hKi.lt7; omega) _ rfl
        have hoA := hoW.appended hownA huz.wf
        rw [hL1] at hrunA hownA hoA
        have hBg : (Value.slice (some ⟨gw, 0, none⟩) (L1 + 1) cw).ownBlock = some gw := rfl
        rw [hBg] at hgrowA hatA
        have g6 := (gA.but (some gw)).trans hgrowA
        have h86 := h8i.kept g6 (by simp; omega)
        have f86 := h86.froz
        have c86 := h86.cell
        have hK6 := hKi.kept g6 (fun R e => by cases e; omega)
        have g7 := grown_box w6 B8 (.slice (some ⟨g2, 0, none⟩) (L1 + 1 + 1) cap2)
        have hK7 := hK6.kept g7 (fun R e => by cases e; omega)
        have h87 := h86.set (.slice (some ⟨g2, 0, none⟩) (L1 + 1 + 1) cap2)
        have h67' := (h6i.kept g6 (by simp; omega)).kept g7 (by simp; omega)
        have hg2 : g2 ≠ B8 ∧ B7 + 1 ≤ g2 := by
          rcases hatA with e | e
          · simp at e
            omega
          · have : (wi.drew.alloc (.cells #[.int .u32 z] 23)).heap.size = wi.heap.size + 1 := by simp
            have := hKi.lt7
            omega
        have ho7 := hoA.kept g7 (.inr (by simp [Value.ownBlock]; omega))
        have hlg := Nat.lt_of_lt_of_le hgl gi.size
        have c86' := c86
        have c8i := h8i.cell
        rw [hwv] at c8i
        have c8a := c8i
        have c8b := (gA.cell_far ⟨B8, 0, none⟩ l8 (by simp)).trans c8i
        have c5i := hKi.c5
        have c56 := hK6.c5
        have c57 := hK7.c5
        have cj6 := (g6.cell_far ⟨g, k, none⟩ hlg (by simp; omega)).trans cji
        have cj7 := (g7.cell_far ⟨g, k, none⟩ (by exact Nat.lt_of_lt_of_le hlg g6.size) (by simp; omega)).trans cj6
        have cjA := (gA.cell_far ⟨g, k, none⟩ hlg (by simp)).trans cji
        have c5A := (hKi.kept gA (fun R e => by cases e)).c5
        have Li := look wi.drew (gi.block M (by have := hK.out.lt7; have := hK.out.lt5; omega) (by simp; omega))
        have hki : (k : Int) < (Z : Int) := by omega
        have hb7 := ((hb.out.grown gi (by have := hb.out.size; have := hK.out.lt7; omega) (fun j hj => by cases hj; omega)).grown g6 (by have := hKi.lt7; omega) (fun j hj => by cases hj; omega)).grown g7 (by have := hK6.lt7; omega) (fun j hj => by cases hj; omega)
        clear hoW hoA g6 h86 hK6 hKi h8i gA
        replace hK7 := Lib.hid hK7
        replace h87 := Lib.hid h87
        replace h67' := Lib.hid h67'
        replace ho7 := Lib.hid ho7
        replace hb7 := Lib.hid hb7
        replace hwv := Lib.hid hwv
        replace hatA := Lib.hid hatA
        replace hz := Lib.hid hz
        replace hL1 := Lib.hid hL1
        replace hzs := Lib.hid hzs
        replace hZ := Lib.hid hZ
        go_region_law (refine step_of_wp (by rfl) (wp_append_run _ (.tmp 35) (.tmp 42) 24 (by rfl) _ _ (by simp [Act.eval]) (by simp [Act.eval]) hrunA ?_))
        all_goals (
          go_wp2
          have hul1 := unseen_lt hzV hg.1
          have hul2 : unseen V (ws ++ [z]) ≤ unseen V (z :: ws) := unseen_mono fun x hx => by
            rcases List.mem_cons.1 hx with e | e
            · simp [e]
            · simp [e]
          go_roundg (unseen V (ws ++ [z]))
          case measure => omega
          case rel =>
            obtain ⟨nf', rfl⟩ : ∃ m, nf = m + 1 := ⟨nf - 1, by have := hS.out.2.2.1; omega⟩
            refine ⟨ws ++ [z], ws, _, s', z, nf', L1 + 1, hK7, h67', h87, ?_, hb7, Lib.hid ⟨rfl, ?_, by have := hS.out.2.2.1; omega, huz⟩, Nat.le_refl _, by simp; exact hL1.out, by omega, by simp [Value.ownBlock]; omega⟩
            · exact ho7
            · have e := cyc_step (f := f) (tg := tg) (n := nf') (ws := ws) htz (k := k) (by rw [hzs.out, hZ.out]; exact hk) (by rw [hzs.out, hz.out]; exact hg) (fun i hi => by rw [hzs.out]; exact hN i hi)
              rw [hzs.out, hz.out] at e
              rw [hS.out.2.1, e])
    · have htz : tg ∈ f last := by
        rw [hzs]
        obtain ⟨y, hy, e⟩ := List.any_eq_true.1 hcb.out
        rw [show tg = y by simpa using e]
        exact hy
      go_wp2_with (go_at_call 37; refine hcon.mono ?_; intro e w' h; rw [h.1, h.2]; clear h w' e)
      go_ret
      obtain ⟨nf', rfl⟩ : ∃ m, nf = m + 1 := ⟨nf - 1, by have := hS.out.2.2.1; omega⟩
      refine ⟨_, rfl, ?_, by rw [hB3.out]; exact hb.out⟩
      have e := hS.out.2.1
      rw [cyc_here htz] at e
      rw [e, hB3.out, ← hwv]
      exact own_mono ho.out (by omega)
end Go.Proofs.Ytilknhackmccpaa
