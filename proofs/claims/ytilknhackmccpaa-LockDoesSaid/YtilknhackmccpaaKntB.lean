/- waits: whom each one waits for, by the edges; rising, each once. -/
import Derived.Test.YtilknhackmccpaaKntC
set_option linter.unusedVariables false
set_option linter.unusedSimpArgs false
namespace Go.Proofs.Ytilknhackmccpaa
open Go.RowKit Go.Sort Go.Maps Go.ChangeMaps Go.MapKept Go.ChangeShapes

theorem Edg.cells {B : Nat} {w w' : World} {a : Option Addr} {l : List (Int × Int)} (h : Edg w a l) (hb : Below B w w') (hB : w.heap.size ≤ B) {k : Nat} (hk : k < l.length) :
    ∃ eb off, a = some ⟨eb, off, none⟩ ∧ w'.cell? ⟨eb, off + k * 2, none⟩ = some (.int .u32 (l.getD k (0, 0)).1) ∧ w'.cell? ⟨eb, off + k * 2 + 1, none⟩ = some (.int .u32 (l.getD k (0, 0)).2) := by
  obtain ⟨eb, off, rfl, hlt, hc⟩ := h (by rintro rfl; simp at hk)
  obtain ⟨c1, c2⟩ := hc k hk
  have hl : eb < B := Nat.lt_of_lt_of_le hlt hB
  exact ⟨eb, off, rfl, (hb.cell hl).trans c1, (hb.cell hl).trans c2⟩

/-- Whom one waits for. -/
def nx (l : List (Int × Int)) (x : Int) : List Int := canon (grp l l.length x)
theorem grp_none {l : List (Int × Int)} (h : UE l) {x : Int} (hx : ¬ U x) (k : Nat) : grp l k x = [] := by
  simp only [grp, List.map_eq_nil_iff, List.filter_eq_nil_iff]
  intro p hp he
  have := (h p (List.mem_of_mem_take hp)).1
  exact hx ((show p.1 = x by simpa using he) ▸ this)

set_option maxRecDepth 100000 in
set_option maxHeartbeats 4000000 in
theorem waits_u (a : Option Addr) (n cap : Nat) (l : List (Int × Int)) (w : World) (hE : Edg w a l) (hU : UE l) (hn : l.length = n) (hn2 : n < 1048576) :
    Calls Try.prog 35 #[.slice a n cap] w fun e w' => e = .returned (.map (some w.heap.size)) ∧ (∃ m D, w'.ownsGroups Try.prog 23 (w.heap.size + 1) 23 .u32 w.heap.size m D ∧ m ≤ 2 * n ∧ Reads D (nx l)) ∧ Below w.heap.size w w' := by
  have hmm := @run_makeMap Try.prog
  obtain ⟨i0, hi, hz0, hz1, hz2⟩ := info_parts info_u
  go_enter Try.func35, Try.ntmps35
  go_wp2
  go_loopw [10] (fun i wr => ∃ (k : Nat) (D : DataW Unit), i = .int .i64 k ∧ k ≤ n ∧ wr.ownsGroups Try.prog 23 (w.heap.size + 1) 23 .u32 w.heap.size k D ∧ Reads D (grp l k) ∧ Below w.heap.size w wr ∧ w.heap.size + 1 ≤ wr.heap.size)
    (fun i _ => n - (intOf i).toNat)
  case atStart => exact ⟨0, _, rfl, Nat.zero_le _, World.ownsGroups_made _ _ _ _ _, ⟨⟨_, rfl⟩, fun x => rfl⟩, (Below.refl _ _).alloc (Nat.le_refl _) _, by simp⟩
  case round =>
    obtain ⟨k, D, rfl, hk, hown, hR, hnx, hws⟩ := hrel
    by_cases hlt : k < n
    · obtain ⟨eb, off, rfl, c1, c2⟩ := hE.cells hnx (Nat.le_refl _) (k := k) (by omega)
      obtain ⟨u1, u2⟩ := hU.at (i := k) (by omega)
      obtain ⟨f, hf⟩ : ∃ f, (l.getD k (0, 0)).1 = f := ⟨_, rfl⟩
      obtain ⟨t, ht⟩ : ∃ f, (l.getD k (0, 0)).2 = f := ⟨_, rfl⟩
      rw [hf] at c1 u1
      rw [ht] at c2 u2
      obtain ⟨v, look, hoi, hzl, _, hback⟩ := groups_at hown hR (by unfold maxLen; omega) u1
      obtain ⟨zs, hzs⟩ : ∃ zs, grp l k f = zs := ⟨_, rfl⟩
      rw [hzs] at hoi hzl
      have hvl := hoi.1.lt
      go_upto_region 5 with fail
      have g1 := World.grownBy_alloc wr (.cells #[.int .u32 f, .int .u32 t] 35) none
      have pb := heap_alloc_new wr (.cells #[.int .u32 f, .int .u32 t] 35)
      obtain ⟨B, hB⟩ : ∃ v, v = wr.heap.size := ⟨_, rfl⟩
      obtain ⟨w1, hw1⟩ : ∃ v, v = wr.alloc (.cells #[.int .u32 f, .int .u32 t] 35) := ⟨_, rfl⟩
      rw [← hw1] at g1 pb ⊢
      rw [← hB] at pb ⊢
      clear hw1
      have lB : B < w1.heap.size := (Array.getElem?_eq_some_iff.1 pb).1
      have lb : w.heap.size < wr.heap.size := by omega
      have y0 : w1.cell? ⟨B, 0, none⟩ = some (.int .u32 f) := by simp [cell_of_heap pb]
      have y1 : w1.cell? ⟨B, 1, none⟩ = some (.int .u32 t) := by simp [cell_of_heap pb]
      have hb1 : w1.heap[w.heap.size]? = wr.heap[w.heap.size]? := g1.block _ lb (by simp)
      have L0 := look w1.drew hb1
      have L1 := look (w1.alloc (.cells #[.int .u32 t] 23)).drew ((heap_alloc_old w1.drew _ (by exact Nat.lt_of_lt_of_le lb g1.size)).trans hb1)
      have g2 : wr.grownBy (w1.drew.alloc (.cells #[.int .u32 t] 23)) none := (g1.trans (grown_drewN w1 1 none)).trans (World.grownBy_alloc _ _ _)
      have hoi2 := hoi.kept g2 (by cases v.ownBlock <;> simp)
      obtain ⟨g, cap', w2, hrunA, hownA, hgrowA, hatA, hltA⟩ := run_append_lies (P := Try.prog) (w1.drew.alloc (.cells #[.int .u32 t] 23)) 24 24 (w.heap.size + 1) 23 i0 (.int .u32 0) 1 4 Try.underlying24 hi hz0 hz1 hz2 rfl (by decide)
        v zs.length _ hoi2.1 ⟨w1.heap.size, 0, none⟩ 1 1 [.int .u32 t] rfl (World.news_of_block (heap_alloc_new w1.drew _)) (ints_oneCell .u32 [t]) (by decide) (by unfold maxLen; omega) (by omega) (by have := g2.size; omega) _ rfl
      have hall := g2.but v.ownBlock |>.trans hgrowA
      have hoA : w2.ownsInts (w.heap.size + 1) 23 .u32 (.slice (some ⟨g, 0, none⟩) (zs.length + 1) cap') (zs ++ [t]) := hoi.appended hownA u2.wf
      obtain ⟨w3, hrunS, hown3, g3⟩ := hback w2 _ _ hall hoA (by simp; omega) (hatA.imp (fun h => h.symm) (fun h => ⟨g, rfl, by rw [h]; exact Nat.le_trans g1.size (by simp)⟩))
      have hBv : some B ≠ v.ownBlock := fun e => by have := (hvl B e.symm).2; omega
      have ga := (grown_drewN w1 1 none).trans (World.grownBy_alloc w1.drew (.cells #[.int .u32 t] 23) none)
      have z0 : w2.cell? ⟨B, 0, none⟩ = some (.int .u32 f) := (hgrowA.cell_far ⟨B, 0, none⟩ (Nat.lt_of_lt_of_le lB ga.size) hBv).trans ((ga.cell_far ⟨B, 0, none⟩ lB (by simp)).trans y0)
      have z1 : w2.cell? ⟨B, 1, none⟩ = some (.int .u32 t) := (hgrowA.cell_far ⟨B, 1, none⟩ (Nat.lt_of_lt_of_le lB ga.size) hBv).trans ((ga.cell_far ⟨B, 1, none⟩ lB (by simp)).trans y1)
      have zk := g3.cell_far ⟨B, 0, none⟩ (by exact Nat.lt_of_lt_of_le (Nat.lt_of_lt_of_le lB ga.size) hgrowA.size) (by simp; omega)
      have zk1 := g3.cell_far ⟨B, 1, none⟩ (by exact Nat.lt_of_lt_of_le (Nat.lt_of_lt_of_le lB ga.size) hgrowA.size) (by simp; omega)
      replace hB := Lib.hid hB
      go_region_held2 (fun w' => w'.cell? ⟨B, 0, none⟩ = some (.int .u32 f) ∧ w'.cell? ⟨B, 1, none⟩ = some (.int .u32 t))
        (first | exact ⟨y0, y1⟩ | exact ⟨z0, z1⟩ | exact ⟨zk.trans z0, zk1.trans z1⟩ | go_keep)
        (refine step_of_wp (by rfl) (wp_append_run _ (.tmp 20) (.tmp 23) 24 (by rfl) _ _ (by simp [Act.eval]) (by simp [Act.eval]) hrunA ?_))
      all_goals (
        go_wp2
        go_roundw
        case rel =>
          refine ⟨k + 1, _, by go_num, by omega, hown3, hR.put (G' := grp l (k + 1)) ?_ ?_, hnx.groups hoi hall g3 hnx.size (Nat.le_succ _) (Nat.le_refl _), Nat.le_trans hws (Nat.le_trans hall.size g3.size)⟩
          · rw [← hf, grp_same l (by omega), hf, ht, hzs]
            simp [dat, rowDatum]
          · intro y hy
            exact grp_other l (by omega) (by rw [hf]; exact hy)
        case measure => simp [intOf]; omega)
    · have hkn : k = n := by omega
      subst hkn
      obtain ⟨w1, left, cnt, hrunR, hG, g1, hs1, hcn, hlf⟩ := Rng.start hown hR
      obtain ⟨r0, hr0⟩ : ∃ r, r = wr.heap.size := ⟨_, rfl⟩
      rw [← hr0] at hrunR hG
      have hr0b : w.heap.size ≤ r0 := by omega
      replace hr0 := Lib.hid hr0
      have hown1 := hown.kept g1 (by simp) (fun _ _ _ x _ => by cases x.val.ownBlock <;> simp)
      have hnx1 := hnx.grown g1 hnx.size (fun j hj => by cases hj)
      go_wp2_with fail
      have hR1 : Reads D (fun x => if left x then grp l k x else canon (grp l k x)) := ⟨hR.1, fun x => by
        rw [hR.2 x]
        show dat _ = dat (if left x then _ else _)
        cases hx : left x
        · by_cases hu : U x
          · rw [hlf x hu hx]; rfl
          · rw [grp_none hU hu k]; rfl
        · rfl⟩
      clear hR hown hnx hlf hE hmm
      go_loopw [6] (fun _ wr2 => ∃ (left : Int → Bool) (cnt m : Nat) (D : DataW Unit), Rng wr2 w.heap.size r0 left cnt ∧ wr2.ownsGroups Try.prog 23 (w.heap.size + 1) 23 .u32 w.heap.size m D ∧ Reads D (fun x => if left x then grp l k x else canon (grp l k x)) ∧ m + cnt ≤ 2 * k ∧ Below w.heap.size w wr2)
        (fun _ wr2 => wr2.rangeLeft w.heap.size r0)
      case atStart => exact ⟨left, cnt, k, D, hG, hown1, hR1, by omega, hnx1⟩
      case round =>
        clear hG hown1 hR1 hnx1 D hcn cnt left
        obtain ⟨left, cnt, m, D, hG, hown, hR, hmc, hnx⟩ := hrel
        rcases hG.next with ⟨hc0, hall, hrunN⟩ | ⟨x, v0, wa, cnt', hu, hlx, hrunN, hin, hGa, hlt', hga, hsza, hent⟩
        · have hN := hrunN 0
          go_wp2
          go_ret
          refine ⟨rfl, ⟨m, D, hown, by omega, hR.1, fun x => ?_⟩, hnx⟩
          have := hR.2 x
          simp only [hall x] at this
          rw [this]
          show dat (canon (grp l k x)) = dat (canon (grp l l.length x))
          rw [hn]
        · have hga1 := groups_off hown hG.iter.2 hga hG.ne
          obtain ⟨v, look, hoi, hzl, hvn, hback⟩ := groups_at hga1 hR (by unfold maxLen; omega) hu
          obtain ⟨zs, hzs⟩ : ∃ zs, (if left x then grp l k x else canon (grp l k x)) = zs := ⟨_, rfl⟩
          have hzg : grp l k x = zs := by rw [← hzs, hlx]; rfl
          simp only [hzs] at hoi hzl hvn
          have hvl := hoi.1.lt
          have hbv : some w.heap.size ≠ v.ownBlock := fun e => by have := (hvl _ e.symm).1; omega
          have L0 := look wa rfl
          have hblt := hGa.blt
          have hzl2 : zs.length < 1152921504606846976 := by omega
          go_wp2_with (first
            | (go_at_call 59; refine (sort_own wa hoi hzl2).mono ?_; rintro r w2 ⟨rfl, zs', hp, hsd, hoi2, g2⟩; have L2 := look w2 (g2.block _ hblt hbv))
            | (go_at_call 60; refine (compact_own w2 hoi2 hsd).mono ?_; rintro r w3 ⟨v', rfl, hoi3, g3, hvb⟩; obtain ⟨w4, hrunS, hown4, g4⟩ := hback w3 v' _ (g2.trans g3) hoi3 (by have := canon_length zs'; have := hp.length_eq; omega) (.inl hvb)))
          have g23 := g2.trans g3
          have hGc := (hGa.kept g23 hbv (hGa.off hoi)).store hu (by
            obtain ⟨es, clock, q1, q2⟩ := hin
            exact ⟨es, clock, (g23.block _ hblt hbv).trans q1, q2⟩) hrunS
          have hcan : canon zs' = canon zs := canon_congr fun z => hp.mem_iff
          go_roundw
          case rel =>
            refine ⟨_, cnt', m + 1, _, hGc, hown4, hR.put (G' := fun y => if (left y && !(y == x)) then grp l k y else canon (grp l k y)) ?_ ?_, by omega, ?_⟩
            · rw [row_dat hoi3 (fun h => by rw [hvb]; exact hvn (by rw [hcan] at h; exact canon_eq_nil h)), hcan, ← hzg]
              simp
            · intro y hy
              have : (y == x) = false := by simpa using hy
              simp only [this, Bool.not_false, Bool.and_true]
            · exact ((hnx.grown hga hnx.size (fun j hj => by cases hj; omega)).grown g23 (by have := hnx.size; have := hga.size; omega) (fun j hj => by have := (hvl j hj).1; omega)).grown g4 (by have := hnx.size; have := hga.size; have := g23.size; omega) (fun j hj => by cases hj; exact Nat.le_refl _)
          case measure => rw [hGc.left_eq, hG.left_eq]; omega
end Go.Proofs.Ytilknhackmccpaa
