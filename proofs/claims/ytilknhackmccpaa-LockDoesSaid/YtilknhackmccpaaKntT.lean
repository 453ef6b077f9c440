/- mancipleref14.next: whom one waits for, rising, each once (printed by kntt.py). -/
import Derived.Test.YtilknhackmccpaaKntS
set_option linter.unusedVariables false
set_option linter.unusedSimpArgs false
namespace Go.Proofs.Ytilknhackmccpaa
open Go.RowKit Go.Sort Go.Maps Go.ChangeMaps Go.MapKept Go.ChangeShapes

theorem own_nums' {w : World} {base : Nat} {a : Option Addr} {n cap : Nat} {zs : List Int} (h : w.ownsInts base 23 .u32 (.slice a n cap) zs) : Nums w a zs := by
  obtain ⟨a', c', e, hN⟩ := own_nums h
  cases e
  exact hN
theorem own_cap {w : World} {base : Nat} {a : Option Addr} {n cap : Nat} {zs : List Int} (h : w.ownsInts base 23 .u32 (.slice a n cap) zs) : n = zs.length ∧ n ≤ cap ∧ ((a = none ∧ n = 0 ∧ cap = 0) ∨ ∃ g, a = some ⟨g, 0, none⟩) := by
  rcases own_cases h with ⟨e, rfl⟩ | ⟨g, c, e, _, h1, _⟩
  · cases e
    exact ⟨rfl, Nat.le_refl _, .inl ⟨rfl, rfl, rfl⟩⟩
  · cases e
    exact ⟨rfl, h1, .inr ⟨g, rfl⟩⟩

theorem Nums.take {w : World} {a : Option Addr} {l : List Int} (h : Nums w a l) (k : Nat) : Nums w a (l.take k) := fun hne => by
  obtain ⟨eb, off, h1, h2, h3⟩ := h (by rintro rfl; simp at hne)
  refine ⟨eb, off, h1, h2, fun i hi => ?_⟩
  rw [List.length_take] at hi
  have := h3 i (by omega)
  rw [this]
  simp [List.getD_eq_getElem?_getD, List.getElem?_take_of_lt (show i < k by omega)]
theorem Nums.drop {w : World} {g : Nat} {l : List Int} (h : Nums w (some ⟨g, 0, none⟩) l) (k : Nat) : Nums w (some ⟨g, k, none⟩) (l.drop k) := fun hne => by
  obtain ⟨eb, off, h1, h2, h3⟩ := h (by rintro rfl; simp at hne)
  cases h1
  refine ⟨g, k, rfl, h2, fun i hi => ?_⟩
  rw [List.length_drop] at hi
  have := h3 (k + i) (by omega)
  rw [Nat.zero_add] at this
  rw [this]
  simp [List.getD_eq_getElem?_getD, List.getElem?_drop]
set_option maxRecDepth 100000 in
set_option maxHeartbeats 4000000 in
theorem next_u (a : Option Addr) (n cap : Nat) (l : List (Int × Int)) (x : Int) (w : World) (hE : Edg w a l) (hU : UE l) (hn : l.length = n) (hn2 : n < 100000) :
    Calls Try.prog 40 #[.slice a n cap, .int .u32 x] w fun e w' => ∃ v, e = .returned v ∧ w'.ownsInts w.heap.size 23 .u32 v (nx l x) ∧ Below w.heap.size w w' := by
  obtain ⟨B, hB⟩ : ∃ B, w.heap.size = B := ⟨_, rfl⟩
  rw [hB]
  obtain ⟨i0, hi0, hz0, hz1, hz2⟩ := info_parts info_u
  have hO0 : Hid (w.ownsInts B 23 .u32 (.slice none 0 0) (canon (grp l 0 x))) := Lib.hid (World.ownsInts_nil _ _ _ _)
  go_enter Try.func40, Try.ntmps40
  go_wp2
  go_loopw [5, 6] (fun v5 v6 wr => ∃ i : Nat, v6 = .int .i64 i ∧ i ≤ n ∧ Hid (wr.ownsInts B 23 .u32 v5 (canon (grp l i x))) ∧ Hid (Below B w wr) ∧ B ≤ wr.heap.size) (fun _ v6 _ => n - (intOf v6).toNat)
  case atStart => exact ⟨0, rfl, Nat.zero_le _, hO0, Lib.hid (Below.refl _ _), by omega⟩
  case round =>
    clear hO0
    obtain ⟨i, rfl, hi, ho, hb, hBs⟩ := hrel
    by_cases hlt : i < n
    · have hlti : (i : Int) < (n : Int) := by omega
      obtain ⟨eb, off, rfl, hce⟩ := (hE.keep hb.out (by omega)).at (k := i) (by omega)
      obtain ⟨ce1, ce2⟩ := hce i (by omega)
      have hgs0 := grp_same l (k := i) (by omega)
      have hgo0 := fun hx => grp_other l (k := i) (by omega) (x := x) hx
      have hut := (hU.at (i := i) (by omega)).2
      obtain ⟨f, hf⟩ : ∃ y, (l.getD i (0, 0)).1 = y := ⟨_, rfl⟩
      obtain ⟨t, ht⟩ : ∃ y, (l.getD i (0, 0)).2 = y := ⟨_, rfl⟩
      rw [hf] at ce1 hgs0 hgo0
      rw [ht] at ce2 hgs0 hut
      clear hce hf ht
      obtain ⟨out, hout⟩ : ∃ o, canon (grp l i x) = o := ⟨_, rfl⟩
      rw [hout] at ho
      by_cases hfx : f = x
      · subst hfx
        have hgs := Lib.hid hgs0
        clear hgs0 hgo0
        obtain ⟨ao, cs, rfl, _⟩ := own_nums ho.out
        obtain ⟨S, hS⟩ : ∃ S, out.length = S := ⟨_, rfl⟩
        rw [hS] at ho ⊢
        have hSi : S ≤ i := by
          have h1 := canon_length (grp l i f)
          have h2 := grp_length l i f
          rw [hout, hS] at h1
          omega
        have hcap := own_cap ho.out
        obtain ⟨-, hcsS, haof⟩ := hcap
        replace haof := Lib.hid haof
        replace hout := Lib.hid hout
        have hoN := Lib.hid (own_nums' ho.out)
        go_wp2
        go_loopw [7] (fun v7 wk => ∃ k q : Nat, v7 = .int .i64 k ∧ k ≤ S ∧ Hid (wk = wr.drewN q) ∧ Hid (∀ j, j < k → out.getD j 0 < t)) (fun v7 _ => S - (intOf v7).toNat)
        case atStart => exact ⟨0, 0, rfl, Nat.zero_le _, Lib.hid rfl, Lib.hid fun j hj => absurd hj (Nat.not_lt_zero _)⟩
        case round =>
          obtain ⟨k, q, rfl, hk, hq, hless⟩ := hrel
          have hk2 := hk
          have d2 : wr.cell? ⟨eb, off + i * 2 + 1, none⟩ = some (.int .u32 t) := by rw [hq.out]; exact ce2
          by_cases hkS : k < S
          · have hkSi : (k : Int) < (S : Int) := by omega
            obtain ⟨y, hy⟩ : ∃ y, out.getD k 0 = y := ⟨_, rfl⟩
            obtain ⟨gb, go, ee, hc2⟩ := hoN.out.at (i := k) (by omega)
            have hgo : go = 0 := by
              rcases haof.out with ⟨e, _⟩ | ⟨g, e⟩
              · rw [ee] at e; cases e
              · rw [ee] at e; cases e; rfl
            subst hgo
            have c2 := hc2 k (by omega)
            rw [Nat.zero_add] at c2
            rw [hy] at c2
            have d1 : wr.cell? ⟨gb, k, none⟩ = some (.int .u32 y) := by rw [hq.out]; exact c2
            clear hc2
            replace c2 := Lib.hid c2
            replace hy := Lib.hid hy
            by_cases hyt : y < t
            · subst ee
              go_wp2
              first | go_quiet (first | fail) | fail
              obtain ⟨w4, hw4⟩ : ∃ w1, w1 = wr.drewN nq := ⟨_, rfl⟩
              rw [← hw4]
              rw [hq.out, drewN_drewN] at hw4
              replace hw4 := Lib.hid hw4
              go_wp2
              refine ⟨⟨k + 1, _, by go_num, by omega, hw4, Lib.hid fun j hj => ?_⟩, by simp [intOf]; omega⟩
              rcases Nat.lt_or_ge j k with h | h
              · exact hless.out j h
              · have : j = k := by omega
                rw [this, hy.out]
                exact hyt
            · by_cases hye : y = t
              · subst ee
                have ho2 : canon (grp l (i + 1) f) = out := by rw [hgs.out, canon_snoc, hout.out, insI_at (k := k) (by omega) hless.out (fun _ => by rw [hy.out]; omega), if_pos ⟨by omega, hy.out.trans hye⟩]
                have hyt2 : (y == t) = true := by simpa using hye
                clear hye
                replace ho2 := Lib.hid ho2
                go_wp2
                first | go_quiet (first | fail) | fail
                obtain ⟨w5, hw5⟩ : ∃ w1, w1 = wr.drewN nq := ⟨_, rfl⟩
                rw [← hw5]
                rw [hq.out, drewN_drewN] at hw5
                replace hw5 := Lib.hid hw5
                go_upto_region 9 with fail
                have d25 : w5.cell? ⟨eb, off + i * 2 + 1, none⟩ = some (.int .u32 t) := by rw [hw5.out]; exact ce2
                have d15 : w5.cell? ⟨gb, k, none⟩ = some (.int .u32 y) := by rw [hw5.out]; exact c2.out
                first | go_quiet (first | fail) | fail
                obtain ⟨w4, hw4⟩ : ∃ w1, w1 = w5.drewN nq := ⟨_, rfl⟩
                rw [← hw4]
                rw [hw5.out, drewN_drewN] at hw4
                replace hw4 := Lib.hid hw4
                have hoA : Hid (w4.ownsInts B 23 .u32 (.slice (some ⟨gb, 0, none⟩) S cs) (canon (grp l (i + 1) f))) := by rw [ho2.out, hw4.out]; exact Lib.hid (ho.out.kept (grown_drewN _ _ none) (or_none _))
                have hbA : Hid (Below B w w4) := by rw [hw4.out]; exact Lib.hid (hb.out.grown (grown_drewN _ _ none) hBs (fun _ h => by cases h))
                have hBA : B ≤ w4.heap.size := by rw [hw4.out]; exact hBs
                go_wp2
                go_roundw
                case rel => exact ⟨i + 1, by go_num, by omega, hoA, hbA, hBA⟩
                case measure => simp [intOf]; omega
              · have hdum : True := trivial
                subst ee
                have hyt2 : (y == t) = false := by simpa using hye
                replace hye := Lib.hid hye
                go_wp2
                first | go_quiet (first | fail) | fail
                obtain ⟨w5, hw5⟩ : ∃ w1, w1 = wr.drewN nq := ⟨_, rfl⟩
                rw [← hw5]
                rw [hq.out, drewN_drewN] at hw5
                replace hw5 := Lib.hid hw5
                go_upto_region 9 with fail
                have d25 : w5.cell? ⟨eb, off + i * 2 + 1, none⟩ = some (.int .u32 t) := by rw [hw5.out]; exact ce2
                have d15 : w5.cell? ⟨gb, k, none⟩ = some (.int .u32 y) := by rw [hw5.out]; exact c2.out
                first | go_quiet (first | fail) | fail
                obtain ⟨w4, hw4⟩ : ∃ w1, w1 = w5.drewN nq := ⟨_, rfl⟩
                rw [← hw4]
                rw [hw5.out, drewN_drewN] at hw4
                replace hw4 := Lib.hid hw4
                have hcan : canon (grp l (i + 1) f) = out.take k ++ ([t] ++ out.drop k) := by rw [hgs.out, canon_snoc, hout.out, insI_at (k := k) (by omega) hless.out (fun _ => by rw [hy.out]; omega), if_neg (fun h => hye.out (hy.out.symm.trans h.2))]
                replace hcan := Lib.hid hcan
                obtain ⟨wA, hwA⟩ : ∃ x, x = w4 := ⟨_, rfl⟩
                have hoA : wA.ownsInts B 23 .u32 (.slice (some ⟨gb, 0, none⟩) S cs) out := by rw [hwA, hw4.out]; exact ho.out.kept (grown_drewN _ _ none) (or_none _)
                have hbA : Below B w wA := by rw [hwA, hw4.out]; exact hb.out.grown (grown_drewN _ _ none) hBs (fun _ h => by cases h)
                have hBA : B ≤ wA.heap.size := by rw [hwA, hw4.out]; exact hBs
                have ceA : wA.cell? ⟨eb, off + i * 2 + 1, none⟩ = some (.int .u32 t) := by rw [hwA, hw4.out]; exact ce2
                have hebA : eb < wA.heap.size := by rw [hwA, hw4.out]; exact World.block_lt_of_cell? _ _ ce2
                rw [← hwA]
                obtain ⟨BA, hBA2⟩ : ∃ x, wA.heap.size = x := ⟨_, rfl⟩
                have hUo : ∀ z ∈ out, U z := fun z hz => U.of (hoA.2 z hz)
                have hNA := own_nums' hoA
                have hkS : (k : Int) ≤ (S : Int) := by omega
                have hkc : (k : Int) ≤ (cs : Int) := by omega
                have hSc : (S : Int) ≤ (cs : Int) := by omega
                have hN1 : Nums wA (some ⟨gb, 0, none⟩) (out.take k) := hNA.take k
                have hU1 : ∀ z ∈ out.take k, U z := fun z hz => hUo z (List.mem_of_mem_take hz)
                have hl1 : (out.take k).length = k := by rw [List.length_take]; omega
                clear hq d2
                replace hwA := Lib.hid hwA
                replace hS := Lib.hid hS
                go_upto_region 12 with (at_builtin; refine wpList_append_n rfl _ _ rfl BA _ [] rfl (World.ownsInts_nil _ _ _ _) (some ⟨gb, 0, none⟩) k cs (out.take k) rfl hN1 hU1 hl1 (by simp; omega) (by omega) ?_; intro v1 w6 ho1 g1)
                rw [List.nil_append] at ho1
                have g1n : wA.grownBy w6 none := g1
                have ce6 := (g1n.cell_far ⟨eb, off + i * 2 + 1, none⟩ hebA (by simp)).trans ceA
                have hB6 : BA ≤ w6.heap.size := by have := g1.size; omega
                have hoi1 := ho1.1
                rw [hl1] at hoi1
                go_upto_region 13 with (at_builtin; refine wpList_append_own_at _ rfl _ _ 24 rfl BA 23 i0 (.int .u32 0) 1 4 Try.underlying24 hi0 hz0 hz1 hz2 rfl (by decide) _ _ _ rfl (hoi1.alloc _) ⟨w6.heap.size, 0, none⟩ 1 1 [.int .u32 t] rfl rfl (cell_one_new _ _ _) (ints_oneCell .u32 [t]) (by unfold maxLen; omega) (by omega) (by simp; omega) ?_; intro v2 w7 hown2 hgrow2 _ _)
                have g27 := (World.grownBy_alloc w6 _ _).trans hgrow2
                have ho2 : w7.ownsInts BA 23 .u32 v2 (out.take k ++ [t]) := ho1.appended (by rw [hl1]; exact hown2) hut.wf
                have gA7 : wA.grownBy w7 none := g1n.andThen g27 (fun j hj => .inl (by have := (hoi1.lt j hj).1; omega))
                have hN7 : Nums w7 (some ⟨gb, 0, none⟩) out := own_nums' (hoA.kept gA7 (or_none _))
                have hB7 : BA ≤ w7.heap.size := by have := gA7.size; omega
                have hU7 : ∀ z ∈ out.drop k, U z := fun z hz => hUo z (List.mem_of_mem_drop hz)
                have hl7 : (out.drop k).length = S - k := by rw [List.length_drop, hS.out]
                have hl27 : (out.take k ++ [t]).length = k + 1 := by rw [List.length_append, hl1]; rfl
                go_upto_region 14 with (at_builtin; refine wpList_append_n rfl _ _ rfl BA _ _ rfl ho2 _ _ _ _ rfl (hN7.drop k) hU7 hl7 (by omega) hB7 ?_; intro v3 w8 ho3 g3)
                have gA8 : wA.grownBy w8 none := gA7.andThen g3 (fun j hj => .inl (by have := (ho2.1.lt j hj).1; omega))
                have ho8 : Hid (w8.ownsInts B 23 .u32 v3 (canon (grp l (i + 1) f))) := by
                  rw [hcan.out, ← List.append_assoc]
                  exact Lib.hid (own_mono ho3 (by omega))
                have hb8 : Hid (Below B w w8) := Lib.hid (hbA.grown gA8 hBA (fun _ h => by cases h))
                have hB8 : B ≤ w8.heap.size := by have := gA8.size; omega
                go_wp2
                first
                  | exact ⟨⟨i + 1, by go_num, by omega, ho8, hb8, hB8⟩, by simp [intOf]; omega⟩
                  | (refine ⟨?_, by simp [intOf]; omega⟩
                     repeat apply Exists.intro
                     refine ⟨?_, rfl⟩
                     exact ⟨i + 1, by go_num, by omega, ho8, hb8, hB8⟩)
          · have hkS2 : k = S := by omega
            subst hkS2
            go_wp2
            first | go_quiet (first | fail) | fail
            obtain ⟨w5, hw5⟩ : ∃ w1, w1 = wr.drewN nq := ⟨_, rfl⟩
            rw [← hw5]
            rw [hq.out, drewN_drewN] at hw5
            replace hw5 := Lib.hid hw5
            go_upto_region 9 with fail
            first | go_quiet (first | fail) | fail
            obtain ⟨w4, hw4⟩ : ∃ w1, w1 = w5.drewN nq := ⟨_, rfl⟩
            rw [← hw4]
            rw [hw5.out, drewN_drewN] at hw4
            replace hw4 := Lib.hid hw4
            have hcan : canon (grp l (i + 1) f) = out.take k ++ ([t] ++ out.drop k) := by rw [hgs.out, canon_snoc, hout.out, insI_at (k := k) (by omega) hless.out (fun h => by omega), if_neg (fun h => by have := h.1; omega)]
            replace hcan := Lib.hid hcan
            obtain ⟨wA, hwA⟩ : ∃ x, x = w4 := ⟨_, rfl⟩
            have hoA : wA.ownsInts B 23 .u32 (.slice ao k cs) out := by rw [hwA, hw4.out]; exact ho.out.kept (grown_drewN _ _ none) (or_none _)
            have hbA : Below B w wA := by rw [hwA, hw4.out]; exact hb.out.grown (grown_drewN _ _ none) hBs (fun _ h => by cases h)
            have hBA : B ≤ wA.heap.size := by rw [hwA, hw4.out]; exact hBs
            have ceA : wA.cell? ⟨eb, off + i * 2 + 1, none⟩ = some (.int .u32 t) := by rw [hwA, hw4.out]; exact ce2
            have hebA : eb < wA.heap.size := by rw [hwA, hw4.out]; exact World.block_lt_of_cell? _ _ ce2
            rw [← hwA]
            obtain ⟨BA, hBA2⟩ : ∃ x, wA.heap.size = x := ⟨_, rfl⟩
            have hUo : ∀ z ∈ out, U z := fun z hz => U.of (hoA.2 z hz)
            have hNA := own_nums' hoA
            have hkS : (k : Int) ≤ (k : Int) := by omega
            have hkc : (k : Int) ≤ (cs : Int) := by omega
            have hSc : (k : Int) ≤ (cs : Int) := by omega
            have hN1 : Nums wA ao (out.take k) := hNA.take k
            have hU1 : ∀ z ∈ out.take k, U z := fun z hz => hUo z (List.mem_of_mem_take hz)
            have hl1 : (out.take k).length = k := by rw [List.length_take]; omega
            clear hq d2
            replace hwA := Lib.hid hwA
            replace hS := Lib.hid hS
            go_upto_region 12 with (at_builtin; refine wpList_append_n rfl _ _ rfl BA _ [] rfl (World.ownsInts_nil _ _ _ _) ao k cs (out.take k) rfl hN1 hU1 hl1 (by simp; omega) (by omega) ?_; intro v1 w6 ho1 g1)
            rw [List.nil_append] at ho1
            have g1n : wA.grownBy w6 none := g1
            have ce6 := (g1n.cell_far ⟨eb, off + i * 2 + 1, none⟩ hebA (by simp)).trans ceA
            have hB6 : BA ≤ w6.heap.size := by have := g1.size; omega
            have hoi1 := ho1.1
            rw [hl1] at hoi1
            go_upto_region 13 with (at_builtin; refine wpList_append_own_at _ rfl _ _ 24 rfl BA 23 i0 (.int .u32 0) 1 4 Try.underlying24 hi0 hz0 hz1 hz2 rfl (by decide) _ _ _ rfl (hoi1.alloc _) ⟨w6.heap.size, 0, none⟩ 1 1 [.int .u32 t] rfl rfl (cell_one_new _ _ _) (ints_oneCell .u32 [t]) (by unfold maxLen; omega) (by omega) (by simp; omega) ?_; intro v2 w7 hown2 hgrow2 _ _)
            have g27 := (World.grownBy_alloc w6 _ _).trans hgrow2
            have ho2 : w7.ownsInts BA 23 .u32 v2 (out.take k ++ [t]) := ho1.appended (by rw [hl1]; exact hown2) hut.wf
            have gA7 : wA.grownBy w7 none := g1n.andThen g27 (fun j hj => .inl (by have := (hoi1.lt j hj).1; omega))
            have hN7 : Nums w7 ao out := own_nums' (hoA.kept gA7 (or_none _))
            have hB7 : BA ≤ w7.heap.size := by have := gA7.size; omega
            have hU7 : ∀ z ∈ out.drop k, U z := fun z hz => hUo z (List.mem_of_mem_drop hz)
            have hl7 : (out.drop k).length = k - k := by rw [List.length_drop, hS.out]
            have hl27 : (out.take k ++ [t]).length = k + 1 := by rw [List.length_append, hl1]; rfl
            rcases haof.out with ⟨rfl, hS0, hc0⟩ | ⟨g, rfl⟩
            · subst hS0
              subst hc0
              have hN7e : ∀ a, Nums w7 a (out.drop 0) := fun _ h => absurd (List.eq_nil_of_length_eq_zero (by rw [hl7])) h
              go_upto_region 14 with (at_builtin; refine wpList_append_n rfl _ _ rfl BA _ _ rfl ho2 _ _ _ _ rfl (hN7e _) hU7 (hl7.trans (by omega)) (by omega) hB7 ?_; intro v3 w8 ho3 g3)
              have gA8 : wA.grownBy w8 none := gA7.andThen g3 (fun j hj => .inl (by have := (ho2.1.lt j hj).1; omega))
              have ho8 : Hid (w8.ownsInts B 23 .u32 v3 (canon (grp l (i + 1) f))) := by
                rw [hcan.out, ← List.append_assoc]
                exact Lib.hid (own_mono ho3 (by omega))
              have hb8 : Hid (Below B w w8) := Lib.hid (hbA.grown gA8 hBA (fun _ h => by cases h))
              have hB8 : B ≤ w8.heap.size := by have := gA8.size; omega
              go_wp2
              first
                | exact ⟨⟨i + 1, by go_num, by omega, ho8, hb8, hB8⟩, by simp [intOf]; omega⟩
                | (refine ⟨?_, by simp [intOf]; omega⟩
                   repeat apply Exists.intro
                   refine ⟨?_, rfl⟩
                   exact ⟨i + 1, by go_num, by omega, ho8, hb8, hB8⟩)
            · have hN7e : ∀ a, Nums w7 a (out.drop k) := fun _ h => absurd (List.eq_nil_of_length_eq_zero (by rw [hl7]; omega)) h
              by_cases hkc2 : cs = k
              · subst hkc2
                go_upto_region 14 with (at_builtin; refine wpList_append_n rfl _ _ rfl BA _ _ rfl ho2 _ _ _ _ rfl (hN7e _) hU7 (hl7.trans (by omega)) (by omega) hB7 ?_; intro v3 w8 ho3 g3)
                have gA8 : wA.grownBy w8 none := gA7.andThen g3 (fun j hj => .inl (by have := (ho2.1.lt j hj).1; omega))
                have ho8 : Hid (w8.ownsInts B 23 .u32 v3 (canon (grp l (i + 1) f))) := by
                  rw [hcan.out, ← List.append_assoc]
                  exact Lib.hid (own_mono ho3 (by omega))
                have hb8 : Hid (Below B w w8) := Lib.hid (hbA.grown gA8 hBA (fun _ h => by cases h))
                have hB8 : B ≤ w8.heap.size := by have := gA8.size; omega
                go_wp2
                first
                  | exact ⟨⟨i + 1, by go_num, by omega, ho8, hb8, hB8⟩, by simp [intOf]; omega⟩
                  | (refine ⟨?_, by simp [intOf]; omega⟩
                     repeat apply Exists.intro
                     refine ⟨?_, rfl⟩
                     exact ⟨i + 1, by go_num, by omega, ho8, hb8, hB8⟩)
              · have hkc3 : ¬ (cs : Int) = (k : Int) := by omega
                have hkc4 : (k : Int) < (cs : Int) := by omega
                go_upto_region 14 with (at_builtin; refine wpList_append_n rfl _ _ rfl BA _ _ rfl ho2 _ _ _ _ rfl (hN7e _) hU7 (hl7.trans (by omega)) (by omega) hB7 ?_; intro v3 w8 ho3 g3)
                have gA8 : wA.grownBy w8 none := gA7.andThen g3 (fun j hj => .inl (by have := (ho2.1.lt j hj).1; omega))
                have ho8 : Hid (w8.ownsInts B 23 .u32 v3 (canon (grp l (i + 1) f))) := by
                  rw [hcan.out, ← List.append_assoc]
                  exact Lib.hid (own_mono ho3 (by omega))
                have hb8 : Hid (Below B w w8) := Lib.hid (hbA.grown gA8 hBA (fun _ h => by cases h))
                have hB8 : B ≤ w8.heap.size := by have := gA8.size; omega
                go_wp2
                first
                  | exact ⟨⟨i + 1, by go_num, by omega, ho8, hb8, hB8⟩, by simp [intOf]; omega⟩
                  | (refine ⟨?_, by simp [intOf]; omega⟩
                     repeat apply Exists.intro
                     refine ⟨?_, rfl⟩
                     exact ⟨i + 1, by go_num, by omega, ho8, hb8, hB8⟩)
      · have hne : (f != x) = true := by simpa using hfx
        have hg := hgo0 (fun e => hfx e.symm)
        have ho2 : Hid (wr.ownsInts B 23 .u32 u5 (canon (grp l (i + 1) x))) := by rw [hg, hout]; exact ho
        clear hgs0 hgo0
        replace hg := Lib.hid hg
        replace hout := Lib.hid hout
        go_wp2
        go_roundw
        case rel => exact ⟨i + 1, by go_num, by omega, ho2, hb, hBs⟩
        case measure => simp [intOf]; omega
    · have : i = n := by omega
      subst this
      have ho2 : Hid (wr.ownsInts B 23 .u32 u5 (nx l x)) := by rw [nx, hn]; exact ho
      go_wp2
      go_ret
      exact ⟨_, rfl, ho2.out, hb.out⟩
end Go.Proofs.Ytilknhackmccpaa
