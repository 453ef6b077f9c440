/- Package lock: wait. -/
import Derived.Test.YtilknhackmccpaaLckH
set_option linter.unusedVariables false
set_option linter.unusedSimpArgs false
namespace Go.Proofs.Ytilknhackmccpaa
open Go.RowKit Go.Sort Go.Lib

/-- How many stand ahead in the line that hold the lock. -/
def ahead (have_ : List (Int × Int)) : List (Int × Int) → Nat
  | [] => 0
  | y :: r => if modeL have_ y.1 ≠ 0 then ahead have_ r + 1 else 0
theorem ahead_le (h l : List (Int × Int)) : ahead h l ≤ l.length := by
  induction l with
  | nil => exact Nat.le_refl _
  | cons y r ih => simp only [ahead]; split <;> simp <;> omega
theorem ahead_at {h l : List (Int × Int)} {i : Nat} (hi : i ≤ l.length) (hl : ∀ j, j < i → modeL h (l.getD j (0, 0)).1 ≠ 0) (hr : i < l.length → modeL h (l.getD i (0, 0)).1 = 0) : ahead h l = i := by
  induction l generalizing i with
  | nil => simp at hi; subst hi; rfl
  | cons y r ih =>
    rcases i with _ | i
    · have := hr (by simp)
      simp only [List.getD_cons_zero] at this
      simp [ahead, this]
    · have h0 := hl 0 (by omega)
      simp only [List.getD_cons_zero] at h0
      simp only [ahead, h0, ne_eq, not_false_eq_true, if_true]
      rw [ih (i := i) (by simpa using hi) (fun j hj => by simpa using hl (j + 1) (by omega)) (fun h => by simpa using hr (by simpa using h))]
/-- Where one is put into the line. -/
def place (h l : List (Int × Int)) (t : Int) : Nat := if modeL h t ≠ 0 then ahead h l else l.length
theorem place_le (h l : List (Int × Int)) (t : Int) : place h l t ≤ l.length := by
  unfold place
  split
  · exact ahead_le h l
  · exact Nat.le_refl _
theorem wait_end {w w1 w3 : World} {LB cc i : Nat} {a : Option Addr} {l : List (Int × Int)} {x : Int × Int} {va vb : Value} (b1 : RowKit.Below w.heap.size w w1) (b4 : RowKit.Below w1.heap.size w1 w3)
    (o3 : OwnL w3 w1.heap.size (.slice a (l.length + 1) cc) (insL l i x)) (L3 : LockB w3 LB va vb) (hLN : LB < w.heap.size) :
    ∃ v', Ending.returned (.tuple #[]) = .returned (.tuple #[]) ∧ OwnL (w3.setCell ⟨LB, 1, none⟩ (.slice a (l.length + 1) cc)) w.heap.size v' (insL l i x) ∧ LockB (w3.setCell ⟨LB, 1, none⟩ (.slice a (l.length + 1) cc)) LB va v' ∧ w.grownBy (w3.setCell ⟨LB, 1, none⟩ (.slice a (l.length + 1) cc)) (some LB) := by
  have hs := b1.size
  refine ⟨_, rfl, (o3.kept (grown_set w3 LB 1 _) (.inr fun e => ?_)).low hs, L3.set1 _, ((grew b1).but _).trans (((grew b4).but _).trans (grown_set w3 LB 1 _))⟩
  have := (o3.rowge LB e).1
  omega

set_option maxRecDepth 100000 in
set_option maxHeartbeats 8000000 in
theorem wait_u (LB : Nat) (va vb : Value) (h l : List (Int × Int)) (x : Int × Int) (w : World) (hL : LockB w LB va vb) (ha : Wants w va h) (hb : Wants w vb l) (hl : l.length < 900000) :
    Calls Try.prog 47 #[.pointer (some ⟨LB, 0, none⟩), .agg #[.int .u32 x.1, .int .u8 x.2]] w fun e w' => ∃ v', e = .returned (.tuple #[]) ∧ OwnL w' w.heap.size v' (insL l (place h l x.1) x) ∧ LockB w' LB va v' ∧ w.grownBy w' (some LB) := by
  obtain ⟨x1, x2⟩ := x
  have b1 := below_alloc w (.cells #[.int .u32 x1, .int .u8 x2] 77)
  have k1 := heap_alloc_new w (.cells #[.int .u32 x1, .int .u8 x2] 77)
  have hA1 := ha.keep b1 (Nat.le_refl _)
  have hB1 := hb.keep b1 (Nat.le_refl _)
  have hL1 : LockB (w.alloc (.cells #[.int .u32 x1, .int .u8 x2] 77)) LB va vb := hL.below b1 hL.lt
  obtain ⟨N, hN⟩ : ∃ N, w.heap.size = N := ⟨_, rfl⟩
  obtain ⟨w1, hw1⟩ : ∃ y, w.alloc (.cells #[.int .u32 x1, .int .u8 x2] 77) = y := ⟨_, rfl⟩
  have hs1 : w1.heap.size = N + 1 := by rw [← hw1, ← hN]; simp
  rw [hw1, hN] at k1
  rw [hw1] at hA1 hB1 hL1 b1
  have c0 : w1.cell? ⟨N, 0, none⟩ = some (.int .u32 x1) := by rw [cell_of_heap k1]; rfl
  have c1 : w1.cell? ⟨N, 1, none⟩ = some (.int .u8 x2) := by rw [cell_of_heap k1]; rfl
  have hLN : LB < N := by rw [← hN]; exact hL.lt
  have lLB : LB < w1.heap.size := by omega
  have lN : N < w1.heap.size := by omega
  have d0 := hL1.c0
  have d1 := hL1.c1
  clear hL ha hb
  obtain ⟨n, hn⟩ : ∃ n, l.length = n := ⟨_, rfl⟩
  obtain ⟨lb, cb, hvb⟩ : ∃ lb cb, vb = .slice lb n cb := by
    obtain ⟨a, cap, e, _⟩ := hB1
    exact ⟨a, cap, by rw [e, hn]⟩
  have hbx : Hid (vb = .slice lb n cb) := Lib.hid hvb
  subst hvb
  have hmode : Hid (∀ wx t, RowKit.Below w1.heap.size w1 wx → Calls Try.prog 44 #[va, .int .u32 t] wx fun e w' => e = .returned (.int .u8 (modeL h t)) ∧ RowKit.Below w1.heap.size w1 w') :=
    Lib.hid fun wx t hx => (mode_u va h t wx (hA1.keep hx (Nat.le_refl _))).mono fun e w' ⟨h1, h2⟩ => ⟨h1, hx.trans (h2.mono hx.size)⟩
  have hclone : Hid (∀ wx, RowKit.Below w1.heap.size w1 wx → Calls Try.prog 68 #[.slice lb n cb] wx fun e w' => ∃ v', e = .returned v' ∧ OwnL w' w1.heap.size v' l ∧ RowKit.Below w1.heap.size w1 w' ∧ RowKit.Below wx.heap.size wx w' ∧ (∀ g, v'.ownBlock = some g → wx.heap.size ≤ g)) :=
    Lib.hid fun wx hx => (clone_u _ l wx (hB1.keep hx (Nat.le_refl _)) (by omega)).mono fun e w' ⟨v', h1, h2, h3⟩ => ⟨v', h1, h2.low hx.size, hx.trans (h3.mono hx.size), h3, fun g hg => (h2.rowge g hg).1⟩
  have keepS : Hid (∀ w', RowKit.Below w1.heap.size w1 w' → w'.cell? ⟨LB, 0, none⟩ = some va ∧ w'.cell? ⟨N, 0, none⟩ = some (.int .u32 x1) ∧ Hid (RowKit.Below w1.heap.size w1 w')) :=
    Lib.hid fun w' h => ⟨(h.cell (p := ⟨LB, 0, none⟩) lLB).trans d0, (h.cell (p := ⟨N, 0, none⟩) lN).trans c0, Lib.hid h⟩
  obtain ⟨m, hm⟩ : ∃ m, modeL h x1 = m := ⟨_, rfl⟩
  have hpl := place_le h l x1
  rw [hn] at hpl
  obtain ⟨p, hp⟩ : ∃ p, place h l x1 = p := ⟨_, rfl⟩
  simp only at hL1 ⊢
  rw [hp] at hpl ⊢
  go_enter Try.func47, Try.ntmps47
  go_wp2
  go_region_held2 (fun w' => w'.cell? ⟨LB, 0, none⟩ = some va ∧ w'.cell? ⟨N, 0, none⟩ = some (.int .u32 x1) ∧ Hid (RowKit.Below w1.heap.size w1 w'))
    (first
      | exact keepS.out _ (RowKit.Below.refl _ _).drew
      | exact keepS.out _ b2
      | go_keep)
    (first
      | (go_at_call 44; go_split_ands; refine Calls.mono (hmode.out _ _ (Hid.out (by assumption))) ?_; rw [hm]; rintro e w2 ⟨rfl, b2⟩))
  have S2 : Hid (RowKit.Below w1.heap.size w1 w2) := Lib.hid b2
  clear b2
  obtain ⟨b0, hb0⟩ : ∃ b, (m != 0) = b := ⟨_, rfl⟩
  rw [hb0]
  replace hb0 := Lib.hid hb0
  go_upto_if 17 with fail
  go_cut [4] (fun v4 wx => v4 = .int .i64 (p : Int) ∧ Hid (RowKit.Below w1.heap.size w1 wx))
  case first =>
    have e1 := (S2.out.cell (p := ⟨LB, 1, none⟩) lLB).trans d1
    cases b0
    · have hm0 : m = 0 := by simpa using hb0.out
      subst hm0
      obtain rfl : p = n := by rw [← hp, place, hm, hn]; rfl
      clear hm hp
      go_wp2
      go_meet
      exact ⟨rfl, S2⟩
    · have hm0 : ¬ m = 0 := by simpa using hb0.out
      have hah : Hid (ahead h l = p) := by rw [← hp, place, hm, if_pos hm0]; exact Lib.hid rfl
      clear hm hp hm0
      have hF0 : Hid (∀ j, j < 0 → modeL h (l.getD j (0, 0)).1 ≠ 0) := Lib.hid (fun j hj => absurd hj (Nat.not_lt_zero _))
      have hnm : n ≤ 9223372036854775807 := by omega
      go_wp2
      go_loopw [4] (fun v4 wr => ∃ i : Nat, v4 = .int .i64 i ∧ i ≤ n ∧ Hid (RowKit.Below w1.heap.size w1 wr) ∧ Hid (∀ j, j < i → modeL h (l.getD j (0, 0)).1 ≠ 0)) (fun v4 _ => n - (intOf v4).toNat)
      case atStart => exact ⟨0, rfl, Nat.zero_le _, S2, hF0⟩
      case round =>
        obtain ⟨i, rfl, hi, Br, hF⟩ := hrel
        clear hF0 e1
        have e1 := (Br.out.cell (p := ⟨LB, 1, none⟩) lLB).trans d1
        have e0 := (keepS.out _ Br.out).1
        by_cases hin : i < n
        · have hii : (i : Int) < (n : Int) := by omega
          obtain ⟨eb, off, hlb, hlt, hcc⟩ : ∃ eb off, lb = some ⟨eb, off, none⟩ ∧ eb < w1.heap.size ∧ w1.cell? ⟨eb, off + i * 2, none⟩ = some (.int .u32 (l.getD i (0, 0)).1) := by
            obtain ⟨a, cap, e, _, _, hc⟩ := hB1
            obtain ⟨eb, off, h1, h2, h3⟩ := hc (by rintro rfl; simp at hn; omega)
            cases e
            exact ⟨eb, off, h1, h2.lt, (h3 i (by omega)).1⟩
          obtain ⟨y, hy⟩ : ∃ y, (l.getD i (0, 0)).1 = y := ⟨_, rfl⟩
          rw [hy] at hcc
          subst hlb
          have e3 := (Br.out.cell (p := ⟨eb, off + i * 2, none⟩) hlt).trans hcc
          obtain ⟨q, hq⟩ : ∃ q, modeL h y = q := ⟨_, rfl⟩
          have keepR : Hid (∀ w', RowKit.Below w1.heap.size w1 w' → w'.cell? ⟨LB, 0, none⟩ = some va ∧ w'.cell? ⟨LB, 1, none⟩ = some (.slice (some ⟨eb, off, none⟩) n cb) ∧ w'.cell? ⟨eb, off + i * 2, none⟩ = some (.int .u32 y) ∧ Hid (RowKit.Below w1.heap.size w1 w')) :=
            Lib.hid fun w' h => ⟨(h.cell (p := ⟨LB, 0, none⟩) lLB).trans d0, (h.cell (p := ⟨LB, 1, none⟩) lLB).trans d1, (h.cell (p := ⟨eb, off + i * 2, none⟩) hlt).trans hcc, Lib.hid h⟩
          have hy' := Lib.hid hy
          clear hy
          go_upto_region 4 with fail
          go_region_held2 (fun w' => w'.cell? ⟨LB, 0, none⟩ = some va ∧ w'.cell? ⟨LB, 1, none⟩ = some (.slice (some ⟨eb, off, none⟩) n cb) ∧ w'.cell? ⟨eb, off + i * 2, none⟩ = some (.int .u32 y) ∧ Hid (RowKit.Below w1.heap.size w1 w'))
            (first
              | exact keepR.out _ Br.out.drew
              | exact keepR.out _ b2
              | go_keep)
            (first
              | (go_at_call 44; go_split_ands; refine Calls.mono (hmode.out _ _ (Hid.out (by assumption))) ?_; rw [hq]; rintro e w2 ⟨rfl, b2⟩))
          by_cases hq0 : q = 0
          · subst hq0
            have hpi : p = i := by
              rw [← hah.out]
              exact ahead_at (by omega) hF.out (fun _ => by rw [hy'.out]; exact hq)
            subst hpi
            have B3 := Lib.hid b2
            clear hq
            go_wp2
            go_meet
            exact ⟨rfl, B3⟩
          · have hF2 : Hid (∀ j, j < i + 1 → modeL h (l.getD j (0, 0)).1 ≠ 0) := Lib.hid fun j hj => by
              by_cases hji : j = i
              · subst hji
                rw [hy'.out, hq]
                exact hq0
              · exact hF.out j (by omega)
            have B3 := Lib.hid b2
            clear hq
            go_wp2
            go_roundw
            case rel =>
              repeat apply Exists.intro
              exact ⟨(by go_num : Value.int .i64 ((i : Int) + 1) = .int .i64 ((i + 1 : Nat) : Int)), by omega, B3, hF2⟩
            case measure => simp [intOf]; omega
        · obtain rfl : i = n := by omega
          have hpi : p = i := by
            rw [← hah.out]
            exact ahead_at (by omega) hF.out (fun h => by omega)
          subst hpi
          have hdf : decide ((p : Int) < (p : Int)) = false := by simp
          go_upto_region 4 with fail
          first | go_quiet (first | fail) | fail
          go_wp2
          go_meet
          exact ⟨rfl, Lib.hid ⟨Br.out.os, Br.out.tape, Br.out.output, Br.out.size, Br.out.block⟩⟩
  case rest =>
  obtain ⟨rfl, B2⟩ := hcut
  have e0 := (keepS.out _ B2.out).1
  have e1 := (B2.out.cell (p := ⟨LB, 1, none⟩) lLB).trans d1
  have e2 := (keepS.out _ B2.out).2.1
  have e3 := (B2.out.cell (p := ⟨N, 1, none⟩) lN).trans c1
  have hx : w1.heap.size ≤ wc.heap.size := B2.out.size
  have hins : Hid (∀ (W : World) v2 vb', OwnL W w1.heap.size v2 l → RowKit.Below w1.heap.size w1 W → W.heap[vb']? = some (.cells #[.int .u32 x1, .int .u8 x2] 77) → (∀ g, v2.ownBlock = some g → vb' ≠ g) →
      Calls Try.prog 67 #[v2, .int .i64 p, .slice (some ⟨vb', 0, none⟩) 1 1] W fun e w' => ∃ a cc, e = .returned (.slice a (l.length + 1) cc) ∧ OwnL w' w1.heap.size (.slice a (l.length + 1) cc) (insL l p (x1, x2)) ∧ RowKit.Below w1.heap.size w1 w' ∧ LockB w' LB va (.slice lb n cb)) :=
    Lib.hid fun W v2 vb' o2 b2 hv hne => (ins_own w1.heap.size v2 l p (x1, x2) vb' W o2 (by omega) (by omega) b2.size hv hne).mono fun e w' ⟨v', h1, h2, h3⟩ => by
      obtain ⟨a, cc, hs⟩ := h2.shape
      rw [insL_length] at hs
      subst hs
      have b4 := b2.trans (below_of_grown h3 (fun g hg => (o2.rowge g hg).1) b2.size)
      exact ⟨a, cc, h1, h2, b4, hL1.below b4 lLB⟩
  have hnew : Hid ((wc.alloc (.cells #[.int .u32 x1, .int .u8 x2] 77)).heap[wc.heap.size]? = some (.cells #[.int .u32 x1, .int .u8 x2] 77)) := Lib.hid (heap_alloc_new wc _)
  clear hp hpl hm hb0 hmode S2 hn
  have q1 := ((below_alloc wc (.cells #[.int .u32 x1, .int .u8 x2] 77)).cell (p := ⟨LB, 1, none⟩) (by show LB < _; omega)).trans e1
  go_upto_region 6 with fail
  go_region_law (first
      | (go_simp; go_at_call 68; refine Calls.mono (hclone.out _ (by first | exact B2.out.drew | exact (B2.out.alloc hx _).drew)) ?_; rintro e w2 ⟨v2, rfl, o2, b3, b2, hv2⟩; have f0 := (b3.cell (p := ⟨N, 0, none⟩) lN).trans c0; have f1 := (b3.cell (p := ⟨N, 1, none⟩) lN).trans c1; have hs2 := b3.size)
      | (go_simp; go_at_call 67; refine Calls.mono (hins.out _ _ _ (by first | exact o2 | exact (o2.keep (below_alloc _ _) (Nat.le_refl _))) (by first | exact b3 | exact b3.alloc hs2 _) (by first | exact heap_alloc_new _ _ | exact (b2.block _ (by simp)).trans hnew.out) (by first | (intro g hg; have := (o2.rowge g hg).2; omega) | (intro g hg; have := hv2 g hg; simp at this; omega))) ?_; rintro e w3 ⟨a3, cc3, rfl, o3, b4, L3⟩; have z3 := L3.froz 1; have z4 := L3.c1))
  all_goals (
    go_end0
    exact wait_end (x := (x1, x2)) (l := l) b1 b4 o3 L3 (by omega))
end Go.Proofs.Ytilknhackmccpaa
