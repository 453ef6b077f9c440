/- The walk of ModelOwn. -/
import Derived.Test.YtdbpjbmalinlbaaModO
namespace Go.Proofs.Ytdbpjbmalinlbaa
open Go.RowKit

theorem six_set {w : World} {B k : Nat} {cur : Array Value} {ty : TypeId} (h : w.heap[B]? = some (.cells cur ty)) (a b c d e f : Value) :
    ∃ cur' : Array Value, ((((((w.setCell ⟨B, k, none⟩ a).setCell ⟨B, k + 1, none⟩ b).setCell ⟨B, k + 2, none⟩ c).setCell ⟨B, k + 3, none⟩ d).setCell ⟨B, k + 4, none⟩ e).setCell ⟨B, k + 5, none⟩ f).heap[B]? = some (.cells cur' ty) ∧ cur'.size = cur.size := by
  refine ⟨_, by simp [World.setCell, Array.getElem?_modify, h]; rfl, by simp⟩
theorem six_grown (w : World) (B k : Nat) (a b c d e f : Value) :
    w.grownBy ((((((w.setCell ⟨B, k, none⟩ a).setCell ⟨B, k + 1, none⟩ b).setCell ⟨B, k + 2, none⟩ c).setCell ⟨B, k + 3, none⟩ d).setCell ⟨B, k + 4, none⟩ e).setCell ⟨B, k + 5, none⟩ f) (some B) := by
  have X : Below B w ((((((w.setCell ⟨B, k, none⟩ a).setCell ⟨B, k + 1, none⟩ b).setCell ⟨B, k + 2, none⟩ c).setCell ⟨B, k + 3, none⟩ d).setCell ⟨B, k + 4, none⟩ e).setCell ⟨B, k + 5, none⟩ f) :=
    ((((((Below.refl B w).setCell (p := ⟨B, k, none⟩) (Nat.le_refl _) a).setCell (p := ⟨B, k + 1, none⟩) (Nat.le_refl _) b).setCell (p := ⟨B, k + 2, none⟩) (Nat.le_refl _) c).setCell (p := ⟨B, k + 3, none⟩) (Nat.le_refl _) d).setCell (p := ⟨B, k + 4, none⟩) (Nat.le_refl _) e).setCell (p := ⟨B, k + 5, none⟩) (Nat.le_refl _) f
  refine ⟨X.os, X.tape, X.output, X.size, fun i _ hne => ?_⟩
  have : B ≠ i := fun e => hne (by rw [e])
  simp [World.setCell, Array.getElem?_modify, this]
theorem cell_in {w : World} {B k : Nat} {cur : Array Value} {ty : TypeId} (h : w.heap[B]? = some (.cells cur ty)) (hk : k < cur.size) : ∃ v, w.cell? ⟨B, k, none⟩ = some v := by
  rw [cell_of_row w B k cur ty _ h]
  exact ⟨cur[k], by simp [hk]⟩

set_option maxRecDepth 100000 in
set_option maxHeartbeats 4000000 in
theorem modelOwn_walk (w : World) (s : List Cel) (sv : Value) (hs : CelsIn w sv s) (ops : List OpV) (lv : Value) (ho : OpsIn w lv ops) :
    Calls Try.prog 7 #[sv, lv] w fun e w' => e = .returned (.bool true) ∧ Below w.heap.size w w' := by
  obtain ⟨a, cap, rfl, hq1, hq2⟩ := id hs.1
  obtain ⟨⟨a2, cap2, rfl, hq3, hq4⟩, hq5⟩ := id ho
  clear hq1 hq2 hq3 hq4 hq5
  have HS := Lib.hid hs
  have HO := Lib.hid ho
  clear hs ho
  by_cases hl : (60 : Int) < (s.length : Int)
  · go_enter Try.func7, Try.ntmps7
    go_wp2_with (go_at_call 32; refine (modelKnown_any _).mono ?_; rintro e w1 ⟨rfl, B1⟩)
    go_ret
    exact ⟨rfl, B1⟩
  by_cases hl2 : (40 : Int) < (ops.length : Int)
  · go_enter Try.func7, Try.ntmps7
    go_wp2_with (go_at_call 32; refine (modelKnown_any _).mono ?_; rintro e w1 ⟨rfl, B1⟩)
    go_ret
    exact ⟨rfl, B1⟩
  have hl' : s.length ≤ 60 := by omega
  have hl2' : ops.length ≤ 40 := by omega
  have hfo := ofL_ok HS.out.2
  go_enter Try.func7, Try.ntmps7
  go_upto_region 3 with (go_at_call 32; refine (modelKnown_any _).mono ?_; rintro e w1 ⟨rfl, B1⟩)
  have hOf : ∀ wx, Below w.heap.size w wx → Calls Try.prog 33 #[.slice a s.length cap] wx fun e w' => e = .returned (.pointer (some ⟨wx.heap.size + 1, 0, none⟩)) ∧ WSt (wx.heap.size + 1) wx.heap.size s.length (ofL s) w' ∧ Below wx.heap.size wx w' :=
    fun wx Bx => of_w wx s (.slice a s.length cap) ((HS.out.1.keep fun b hb => Bx.block b hb).mono Bx.size) (fun c hc => (HS.out.2 c hc).1) (by omega)
  have hO1 := hOf w1 B1
  obtain ⟨N, hN⟩ : ∃ N, N = w1.heap.size := ⟨_, rfl⟩
  rw [← hN] at hO1
  have lN : w.heap.size ≤ N := by have := B1.size; omega
  clear hN
  go_upto_region 4 with (go_at_call 33; refine hO1.mono ?_; rintro e w2 ⟨rfl, Sa, B2⟩)
  have BB2 := B1.trans (B2.mono lN)
  have hO2 := hOf w2 BB2
  have l2 : N + 1 < w2.heap.size := Sa.ltA
  obtain ⟨M, hMe⟩ : ∃ M, M = w2.heap.size := ⟨_, rfl⟩
  rw [← hMe] at hO2 l2
  have hMw : w.heap.size ≤ M := by omega
  replace hMe := Lib.hid hMe
  clear hO1 B1 B2 hOf
  go_upto_region 7 with (go_at_call 33; refine hO2.mono ?_; rintro e w3 ⟨rfl, Sb, B3⟩)
  replace Sa := Sa.below (hMe.out ▸ B3)
  have BB3 := BB2.trans (B3.mono hMw)
  clear hO2 B3 BB2 hMe HS
  have hW1 := all_w Sa (by omega) hfo
  have l3 : M + 1 < w3.heap.size := Sb.ltA
  go_upto_region 8 with (go_at_call 34; refine hW1.mono ?_; rintro e w4 ⟨v1, l, rfl, hA, hll, ho1, B4⟩)
  have l34 := B4.size
  replace Sa := Sa.below B4
  replace Sb := Sb.below B4
  have BB4 := BB3.trans (B4.mono (by omega))
  clear hW1 B4 BB3
  have hW2 := all_w Sa (by omega) hfo
  go_upto_region 9 with (go_at_call 34; refine hW2.mono ?_; rintro e w5 ⟨v2, l', rfl, hA', _, ho2, B5⟩)
  rw [← hA.unique hA'] at ho2
  have h1lt : ∀ b1, v1.ownBlock = some b1 → M + 1 < b1 ∧ b1 < w4.heap.size := fun b1 h => ⟨by have := (owns_lt ho1 h).1; omega, (owns_lt ho1 h).2⟩
  have h2lt : ∀ b2, v2.ownBlock = some b2 → w4.heap.size ≤ b2 := fun b2 h => (owns_lt ho2 h).1
  clear hA'
  have l45 := B5.size
  replace Sa := Sa.below B5
  replace Sb := Sb.below B5
  replace ho1 := owns_below ho1 B5
  have BB5 := BB4.trans (B5.mono (by omega))
  clear BB4 hW2 B5
  obtain ⟨at2, ct2, rfl⟩ := owns_shape ho2
  have hT0 : ∀ T, at2 = some ⟨T, 0, none⟩ → ∃ cur : Array Value, w5.heap[T]? = some (.cells cur 49) ∧ l.length * 6 ≤ cur.size := by
    intro T e
    rcases ho2.2 with ⟨h, _⟩ | ⟨g, cp, cur, h, _, hb, h1, _, h3, _⟩
    · rw [e] at h; cases h
    · rw [e] at h
      cases h
      exact ⟨cur, hb, by rw [h3]; omega⟩
  have hat2 : 0 < l.length → ∃ T, at2 = some ⟨T, 0, none⟩ := fun h => owns_row ho2 h
  have hlm := owns_max ho2
  have hown2 : ∀ T, at2 = some ⟨T, 0, none⟩ → (Value.slice at2 l.length ct2).ownBlock = some T := fun T e => by rw [e]; rfl
  clear ho2
  have G0 : w5.grownBy w5 (Value.slice at2 l.length ct2).ownBlock := ⟨rfl, rfl, rfl, Nat.le_refl _, fun _ _ _ => rfl⟩
  go_wp2_with fail
  go_loopw [9] (fun i wr => ∃ j : Nat, j ≤ l.length ∧ i = .int .i64 (j : Int) ∧ Hid (w5.grownBy wr (Value.slice at2 l.length ct2).ownBlock) ∧ Hid (∀ T, at2 = some ⟨T, 0, none⟩ → ∃ cur : Array Value, wr.heap[T]? = some (.cells cur 49) ∧ l.length * 6 ≤ cur.size)) (fun i _ => l.length - (intOf i).toNat)
  case atStart => exact ⟨0, Nat.zero_le _, rfl, Lib.hid G0, Lib.hid hT0⟩
  case round =>
    clear G0 hT0
    obtain ⟨j, hj, rfl, G, hT⟩ := hrel
    by_cases hlt : j < l.length
    · obtain ⟨T, rfl⟩ := hat2 (by omega)
      obtain ⟨cur, hb, hc⟩ := hT.out T rfl
      have hl1 : (j : Int) < (l.length : Int) := by omega
      have lT : T < wr.heap.size := (Array.getElem?_eq_some_iff.1 hb).1
      obtain ⟨u0, x0⟩ := cell_in hb (show j * 6 < cur.size by omega)
      obtain ⟨u1, x1⟩ := cell_in hb (show j * 6 + 1 < cur.size by omega)
      obtain ⟨u2, x2⟩ := cell_in hb (show j * 6 + 2 < cur.size by omega)
      obtain ⟨u3, x3⟩ := cell_in hb (show j * 6 + 3 < cur.size by omega)
      obtain ⟨u4, x4⟩ := cell_in hb (show j * 6 + 4 < cur.size by omega)
      obtain ⟨u5, x5⟩ := cell_in hb (show j * 6 + 5 < cur.size by omega)
      have f0 := frozen_of_heap hb (j * 6)
      have f1 := frozen_of_heap hb (j * 6 + 1)
      have f2 := frozen_of_heap hb (j * 6 + 2)
      have f3 := frozen_of_heap hb (j * 6 + 3)
      have f4 := frozen_of_heap hb (j * 6 + 4)
      have f5 := frozen_of_heap hb (j * 6 + 5)
      replace hb := Lib.hid hb
      have X6 := six_grown wr T (j * 6) (.int .u8 0) (.int .u32 0) (.int .u32 0) (.int .u64 0) (.int .u64 0) (.bool false)
      have G6 := G.out.andThen X6 (fun _ h => .inr h)
      obtain ⟨cur', hb', hs'⟩ := six_set (k := j * 6) hb.out (.int .u8 0) (.int .u32 0) (.int .u32 0) (.int .u64 0) (.int .u64 0) (.bool false)
      replace hb' := Lib.hid hb'
      go_wp2_with fail
      go_roundw
      case rel => exact ⟨j + 1, by omega, by go_num, Lib.hid G6, Lib.hid (fun T1 e => by cases e; exact ⟨cur', hb'.out, by omega⟩)⟩
      case measure => simp [intOf]; omega
    · obtain rfl : j = l.length := by omega
      clear hT
      have hlow : ∀ x, x < w4.heap.size → some x ≠ (Value.slice at2 l.length ct2).ownBlock := fun x hx e => by have := h2lt x e.symm; omega
      have Sa6 := Sa.kept G.out (hlow _ (by have := Sa.ltA; omega)) (hlow _ (by omega))
      have Sb6 := Sb.kept G.out (hlow _ (by omega)) (hlow _ (by omega))
      have ho6 := owns_keep ho1 fun x hx => G.out.block x (owns_lt ho1 hx).2 (hlow x (h1lt x hx).2)
      have B6 : Below w.heap.size w wr := BB5.trans (below_grown G.out BB5.size (fun x hx => by have := h2lt x hx; omega))
      clear Sa Sb ho1 BB5 G hlow h2lt hat2 hown2
      have hm1 : s.length ≤ 100 := by omega
      replace Sb6 := Sb6.mono hm1
      go_wp2_with fail
      go_loopw [10] (fun i wx => ∃ (j : Nat) (g : Mp), j ≤ ops.length ∧ i = .int .i64 (j : Int) ∧ Hid (MpOk g) ∧ Hid (WSt (N + 1) N s.length (ofL s) wx) ∧ Hid (WSt (M + 1) M (100 + 100 * j) g wx) ∧ Hid (wx.ownsRow w3.heap.size 49 6 v1 l.length (celCells l)) ∧ Hid (Below w.heap.size w wx)) (fun i _ => ops.length - (intOf i).toNat)
      case atStart => exact ⟨0, ofL s, Nat.zero_le _, rfl, Lib.hid hfo, Lib.hid Sa6, Lib.hid Sb6, Lib.hid ho6, Lib.hid B6⟩
      case round =>
        clear Sa6 Sb6 ho6 B6
        obtain ⟨j, g, hj, rfl, hg, Sa, Sb, O, B⟩ := hrel
        by_cases hlt : j < ops.length
        · obtain ⟨o, hq⟩ : ∃ q, ops[j]? = some q := ⟨_, List.getElem?_eq_getElem hlt⟩
          have hoo := HO.out.2 o (List.mem_of_getElem? hq)
          obtain ⟨bb, off, rfl, hb, x0, x1, x2, x3, x4, x5, x6⟩ := ops_seven HO.out hq
          have hl1 : (j : Int) < (ops.length : Int) := by omega
          have hgs := hg.out.step hoo
          have hDb := doM_b Sb.out (by unfold maxLen; omega) hg.out o hoo
          have lMr : M + 1 < wr.heap.size := Sb.out.ltA
          replace x0 := (B.out.cell (p := ⟨bb, off + j * 7, none⟩) hb).trans x0
          replace x1 := (B.out.cell (p := ⟨bb, off + j * 7 + 1, none⟩) hb).trans x1
          replace x2 := (B.out.cell (p := ⟨bb, off + j * 7 + 2, none⟩) hb).trans x2
          replace x3 := (B.out.cell (p := ⟨bb, off + j * 7 + 3, none⟩) hb).trans x3
          replace x4 := (B.out.cell (p := ⟨bb, off + j * 7 + 4, none⟩) hb).trans x4
          replace x5 := (B.out.cell (p := ⟨bb, off + j * 7 + 5, none⟩) hb).trans x5
          replace x6 := (B.out.cell (p := ⟨bb, off + j * 7 + 6, none⟩) hb).trans x6
          clear hq hoo
          go_wp2_with (go_at_call 35; refine hDb.mono ?_; rintro e y1 ⟨rfl, Sb1, Gb1⟩)
          have Sa1 := Sa.out.kept Gb1 (by simp; omega) (by simp; omega)
          have O1 := owns_keep O.out fun x hx => Gb1.block x (owns_lt O.out hx).2 (by have := (h1lt x hx).1; simp; omega)
          have B1 : Below w.heap.size w y1 := B.out.trans (below_grown Gb1 B.out.size (fun x h => by cases h; exact hMw))
          go_roundw
          case rel => exact ⟨j + 1, stepM g o, by omega, by go_num, Lib.hid hgs, Lib.hid Sa1, Lib.hid (Sb1.mono (by omega)), Lib.hid O1, Lib.hid B1⟩
          case measure => simp [intOf]; omega
        · obtain rfl : j = ops.length := by omega
          have hWa := all_w Sa.out (by omega) hfo
          go_wp2_with (first
            | (go_at_call 34; (with_reducible refine hWa.mono ?_); rintro e z1 ⟨v3, lb, rfl, hA3, _, ho3, Z1⟩; have hll := hA.unique hA3; have hsc := samec_any l v3 v1 _ _ z1 (by rw [hll]; exact ho3) (owns_below O.out Z1))
            | (go_at_call 36; (with_reducible refine hsc.mono ?_); rintro e z3 ⟨rfl, Z3⟩))
          go_ret
          exact ⟨rfl, below_trans B.out (below_trans Z1 Z3)⟩
end Go.Proofs.Ytdbpjbmalinlbaa
