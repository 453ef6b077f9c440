/- Contracts of order2, median, medianAdjacent, choosePivot, breakPatterns at uint32: what a sort wants of them (printed by srte.py). -/
import Derived.Test.YtilknhackmccpaaSrtD
import Derived.Sort.LotD1
import Derived.Laws.BitsAllLaws
set_option linter.unusedVariables false
set_option linter.unusedSimpArgs false
namespace Go.Proofs.Ytilknhackmccpaa
open Go.RowKit Go.Sort

/-- The counter of exchanges, in a block of its own. -/
def Cnt (w : World) (sb : Nat) (s : Int) : Prop := w.heap[sb]? = some (.cells #[.int .i64 s] 3)
theorem Cnt.lt {w : World} {sb : Nat} {s : Int} (h : Cnt w sb s) : sb < w.heap.size := (Array.getElem?_eq_some_iff.1 h).1
theorem Cnt.drewN {w : World} {sb : Nat} {s : Int} (h : Cnt w sb s) (q : Nat) : Cnt (w.drewN q) sb s := h
theorem Row.kept {w w' : World} {g N sb : Nat} {e : TypeId} {d : Array Int} (h : Row w g N e d) (hg : w.grownBy w' (some sb)) (hne : sb ≠ g) : Row w' g N e d := h.keep (hg.block g h.lt (fun e => hne (by cases e; rfl)))

set_option maxRecDepth 100000 in
set_option maxHeartbeats 1000000 in
theorem order2_u (g N n cap a b sb : Nat) (s : Int) (e : TypeId) (d : Array Int) (w : World) (H : Row w g N e d) (hn : d.size = n) (ha : a < n) (hb : b < n) (hsz : n < 2305843009213693952) (hs : Cnt w sb s) (hne : sb ≠ g) (s0 : 0 ≤ s) (s1 : s ≤ 1000) :
    Calls Try.prog 120 #[.slice (some ⟨g, 0, none⟩) n cap, .int .i64 a, .int .i64 b, .pointer (some ⟨sb, 0, none⟩)] w fun r w' =>
      ∃ (x y : Nat) (t : Int), r = .returned (.tuple #[.int .i64 x, .int .i64 y]) ∧ ((x = a ∧ y = b) ∨ (x = b ∧ y = a)) ∧ s ≤ t ∧ t ≤ s + 1 ∧ Cnt w' sb t ∧ w.grownBy w' (some sb) := by
  have R0 := Rw.refl H
  obtain ⟨G, hG, hcw, hfw⟩ := R0.fam hn
  have ca := hcw a ha
  have cb := hcw b hb
  have cs : w.cell? ⟨sb, 0, none⟩ = some (.int .i64 s) := by rw [cell_of_row w sb _ _ _ _ hs]; rfl
  have fs : w.frozen? ⟨sb, 0, none⟩ = false := by unfold Cnt at hs; simp [World.frozen?, hs]
  have ls := hs.lt
  replace hs := Lib.hid hs
  go_enter Try.func120, Try.ntmps120
  go_upto_region 1 with fail
  first | go_quiet (first | (go_at_call 95; refine Calls.quiet_of_same (less_u _ _ _))) | fail
  go_wp2
  · refine bodyPost_ret (v := .tuple #[.int .i64 b, .int .i64 a]) (by simp [results, Try.results120, go_sem]) rfl ⟨b, a, s + 1, rfl, .inr ⟨rfl, rfl⟩, by omega, Int.le_refl _, ?_, ?_⟩
    · have := hs.out
      unfold Cnt at this
      simp [Cnt, World.setCell, Array.getElem?_modify, this]
    · exact (grown_drewN w nq (some sb)).trans (grown_set _ sb 0 _)
  · refine bodyPost_ret (v := .tuple #[.int .i64 a, .int .i64 b]) (by simp [results, Try.results120, go_sem]) rfl ⟨a, b, s, rfl, .inl ⟨rfl, rfl⟩, Int.le_refl _, by omega, hs.out, grown_drewN w nq (some sb)⟩

set_option maxRecDepth 100000 in
set_option maxHeartbeats 1000000 in
theorem median_u (g N n cap a b c sb : Nat) (s : Int) (e : TypeId) (d : Array Int) (w : World) (H : Row w g N e d) (hn : d.size = n) (ha : a < n) (hb : b < n) (hc : c < n) (hsz : n < 2305843009213693952) (hs : Cnt w sb s) (hne : sb ≠ g) (s0 : 0 ≤ s) (s1 : s ≤ 900) :
    Calls Try.prog 115 #[.slice (some ⟨g, 0, none⟩) n cap, .int .i64 a, .int .i64 b, .int .i64 c, .pointer (some ⟨sb, 0, none⟩)] w fun r w' =>
      ∃ (m : Nat) (t : Int), r = .returned (.int .i64 m) ∧ (m = a ∨ m = b ∨ m = c) ∧ s ≤ t ∧ t ≤ s + 3 ∧ Cnt w' sb t ∧ w.grownBy w' (some sb) := by
  have h1 := order2_u g N n cap a b sb s e d w H hn ha hb hsz hs hne s0 (by omega)
  go_enter Try.func115, Try.ntmps115
  go_upto_region 2 with (go_at_call 120; refine h1.mono ?_; rintro r w1 ⟨x, y, t1, rfl, hxy, u1, u2, k1, g1⟩)
  have hx : x < n := by omega
  have hy : y < n := by omega
  have h2 := order2_u g N n cap y c sb t1 e d w1 (H.kept g1 hne) hn hy hc hsz k1 hne (by omega) (by omega)
  clear h1
  go_upto_region 3 with (go_at_call 120; refine h2.mono ?_; rintro r w2 ⟨y2, z, t2, rfl, hyz, u3, u4, k2, g2⟩)
  have hy2 : y2 < n := by omega
  have h3 := order2_u g N n cap x y2 sb t2 e d w2 ((H.kept g1 hne).kept g2 hne) hn hx hy2 hsz k2 hne (by omega) (by omega)
  clear h2
  go_wp2_with (go_at_call 120; refine h3.mono ?_; rintro r w3 ⟨x3, y3, t3, rfl, hxy3, u5, u6, k3, g3⟩)
  go_ret
  exact ⟨y3, t3, rfl, by omega, by omega, by omega, k3, (g1.trans g2).trans g3⟩

set_option maxHeartbeats 1000000 in
theorem medAdj_u (g N n cap a sb : Nat) (s : Int) (e : TypeId) (d : Array Int) (w : World) (H : Row w g N e d) (hn : d.size = n) (ha0 : 1 ≤ a) (ha : a + 1 < n) (hsz : n < 2305843009213693952) (hs : Cnt w sb s) (hne : sb ≠ g) (s0 : 0 ≤ s) (s1 : s ≤ 900) :
    Calls Try.prog 114 #[.slice (some ⟨g, 0, none⟩) n cap, .int .i64 a, .pointer (some ⟨sb, 0, none⟩)] w fun r w' =>
      ∃ (m : Nat) (t : Int), r = .returned (.int .i64 m) ∧ (a - 1 ≤ m ∧ m ≤ a + 1) ∧ s ≤ t ∧ t ≤ s + 3 ∧ Cnt w' sb t ∧ w.grownBy w' (some sb) := by
  have h1 := median_u g N n cap (a - 1) a (a + 1) sb s e d w H hn (by omega) (by omega) ha hsz hs hne s0 s1
  have e1 : (a : Int) - 1 = ((a - 1 : Nat) : Int) := by omega
  have e2 : (a : Int) + 1 = ((a + 1 : Nat) : Int) := by omega
  rw [← e1, ← e2] at h1
  clear e1 e2
  go_enter Try.func114, Try.ntmps114
  go_wp2_with (go_at_call 115; refine h1.mono ?_; rintro r w1 ⟨m, t, rfl, hm, u1, u2, k1, g1⟩)
  go_ret
  exact ⟨m, t, rfl, by omega, u1, u2, k1, g1⟩

set_option maxRecDepth 100000 in
set_option maxHeartbeats 4000000 in
theorem pivot_u (g N n cap a b : Nat) (e : TypeId) (d : Array Int) (w : World) (H : Row w g N e d) (hn : d.size = n) (hab : a + 12 < b) (hb : b ≤ n) (hsz : n < 2305843009213693952) :
    Calls Try.prog 92 #[.slice (some ⟨g, 0, none⟩) n cap, .int .i64 a, .int .i64 b] w fun r w' =>
      ∃ (p : Nat) (h : Int), r = .returned (.tuple #[.int .i64 p, .int .i64 h]) ∧ a ≤ p ∧ p < b ∧ (h = 0 ∨ h = 1 ∨ h = 2) ∧ RowKit.Below w.heap.size w w' := by
  obtain ⟨l, hl⟩ : ∃ l, b - a = l := ⟨_, rfl⟩
  have hli : (b : Int) - (a : Int) = (l : Int) := by omega
  obtain ⟨q, hq⟩ : ∃ q, l / 4 = q := ⟨_, rfl⟩
  have hqi : (l : Int).tdiv 4 = (q : Int) := by rw [Int.tdiv_eq_ediv_of_nonneg (by omega)]; omega
  have lg := H.lt
  have H1 := H.keep (w' := w.alloc (.cells #[.int .i64 0] 3)) (Below.heap_alloc _ _ _ lg)
  have K1 : Cnt (w.alloc (.cells #[.int .i64 0] 3)) w.heap.size 0 := heap_alloc_new _ _
  have B1 := below_alloc w (.cells #[.int .i64 0] 3)
  obtain ⟨sb, hsb⟩ : ∃ sb, sb = w.heap.size := ⟨_, rfl⟩
  obtain ⟨w1, hw1⟩ : ∃ w1, w1 = w.alloc (.cells #[.int .i64 0] 3) := ⟨_, rfl⟩
  have hne : sb ≠ g := by omega
  obtain ⟨i, hi⟩ : ∃ i, a + q = i := ⟨_, rfl⟩
  obtain ⟨j, hj⟩ : ∃ j, a + q * 2 = j := ⟨_, rfl⟩
  obtain ⟨k, hk⟩ : ∃ k, a + q * 3 = k := ⟨_, rfl⟩
  have hii : (a : Int) + (q : Int) = (i : Int) := by omega
  have hji : (a : Int) + (q : Int) * 2 = (j : Int) := by omega
  have hki : (a : Int) + (q : Int) * 3 = (k : Int) := by omega
  have hkb : k + 1 < b := by omega
  go_enter Try.func92, Try.ntmps92
  go_upto_region 6 with fail
  rw [← hw1, ← hsb]
  rw [← hw1, ← hsb] at K1
  rw [← hw1] at H1 B1
  have hsb' : w.heap.size ≤ sb := by omega
  have B1' : RowKit.Below w.heap.size w w1 := B1
  clear hw1 B1
  replace hsb := Lib.hid hsb
  have l8 : (8 : Int) ≤ (l : Int) := by omega
  go_upto_if 32 with fail
  go_cut [10, 11, 12] (fun _ vj _ wx => ∃ (m : Nat) (t : Int), vj = .int .i64 m ∧ a ≤ m ∧ m < b ∧ 0 ≤ t ∧ t ≤ 12 ∧ Cnt wx sb t ∧ RowKit.Below w.heap.size w wx)
  case first =>
    by_cases h50 : 50 ≤ l
    · have h50i : (50 : Int) ≤ (l : Int) := by omega
      have c1 := medAdj_u g N n cap i sb 0 e d w1 H1 hn (by omega) (by omega) hsz K1 hne (by decide) (by decide)
      go_upto_region 9 with (go_at_call 114; refine c1.mono ?_; rintro r w2 ⟨m1, t1, rfl, ⟨r1, r2⟩, u1, u2, k1, g1⟩)
      have H2 := H1.kept g1 hne
      have c2 := medAdj_u g N n cap j sb t1 e d w2 H2 hn (by omega) (by omega) hsz k1 hne (by omega) (by omega)
      clear c1
      go_upto_region 10 with (go_at_call 114; refine c2.mono ?_; rintro r w3 ⟨m2, t2, rfl, ⟨r3, r4⟩, u3, u4, k2, g2⟩)
      have H3 := H2.kept g2 hne
      have c3 := medAdj_u g N n cap k sb t2 e d w3 H3 hn (by omega) (by omega) hsz k2 hne (by omega) (by omega)
      clear c2
      go_upto_region 11 with (go_at_call 114; refine c3.mono ?_; rintro r w4 ⟨m3, t3, rfl, ⟨r5, r6⟩, u5, u6, k3, g3⟩)
      have H4 := H3.kept g3 hne
      have c4 := median_u g N n cap m1 m2 m3 sb t3 e d w4 H4 hn (by omega) (by omega) (by omega) hsz k3 hne (by omega) (by omega)
      clear c3
      go_wp2_with (go_at_call 115; refine c4.mono ?_; rintro r w5 ⟨m, t, rfl, hm, u7, u8, k4, g4⟩)
      go_meet
      exact ⟨m, t, rfl, by omega, by omega, by omega, by omega, k4, B1'.grown (((g1.trans g2).trans g3).trans g4) B1'.size (fun x h => by cases h; exact hsb')⟩
    · have h50i : ¬ (50 : Int) ≤ (l : Int) := by omega
      have c4 := median_u g N n cap i j k sb 0 e d w1 H1 hn (by omega) (by omega) (by omega) hsz K1 hne (by omega) (by omega)
      go_wp2_with (go_at_call 115; refine c4.mono ?_; rintro r w5 ⟨m, t, rfl, hm, u7, u8, k4, g4⟩)
      go_meet
      exact ⟨m, t, rfl, by omega, by omega, by omega, by omega, k4, B1'.grown g4 B1'.size (fun x h => by cases h; exact hsb')⟩
  case rest =>
  obtain ⟨m, t, rfl, m1, m2, t0, t1, K5, B5⟩ := hcut
  have cs : wc.cell? ⟨sb, 0, none⟩ = some (.int .i64 t) := by rw [cell_of_row wc sb _ _ _ _ K5]; rfl
  have ls := K5.lt
  by_cases h0 : t = 0
  · subst h0
    go_wp2
    go_ret2
    exact ⟨m, 1, rfl, m1, m2, by decide, B5⟩
  · by_cases h12 : t = 12
    · subst h12
      go_wp2
      go_ret2
      exact ⟨m, 2, rfl, m1, m2, by decide, B5⟩
    · go_wp2
      go_ret2
      exact ⟨m, 0, rfl, m1, m2, by decide, B5⟩
end Go.Proofs.Ytilknhackmccpaa
