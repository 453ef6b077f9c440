/- The walk of RuleBounds. -/
import Derived.Test.YtdbpjbmalinlbaaRulZj
namespace Go.Proofs.Ytdbpjbmalinlbaa
open Go.RowKit

/-- A cell as RuleBounds hands it on. -/
def modc (c : Cel) : Cel := ⟨c.k, (c.v.1 % 4611686018427387905, c.v.2), c.is⟩
theorem modc_ok {c : Cel} (h : VlOk c.v) : VlOk (modc c).v ∧ (modc c).v.1 ≤ 4611686018427387904 := by
  obtain ⟨⟨h1, h2⟩, h3⟩ := h
  refine ⟨⟨⟨?_, ?_⟩, h3⟩, ?_⟩ <;> (show _ ≤ _) <;> simp only [modc] <;> omega
theorem seenAt_cells {w : World} {a : Option Addr} {n c : Nat} {vs : List Cel} (h : SeenAt w.heap.size w (.slice a n c) vs) {i : Nat} {q : Cel} (hi : vs[i]? = some q) :
    ∃ b off, a = some ⟨b, off, none⟩ ∧ b < w.heap.size ∧ w.cell? ⟨b, off + i * 6, none⟩ = some (.int .u8 q.k.1) ∧ w.cell? ⟨b, off + i * 6 + 1, none⟩ = some (.int .u32 q.k.2.1) ∧ w.cell? ⟨b, off + i * 6 + 2, none⟩ = some (.int .u32 q.k.2.2) ∧
      w.cell? ⟨b, off + i * 6 + 3, none⟩ = some (.int .u64 q.v.1) ∧ w.cell? ⟨b, off + i * 6 + 4, none⟩ = some (.int .u64 q.v.2) ∧ w.cell? ⟨b, off + i * 6 + 5, none⟩ = some (.bool q.is) := by
  obtain ⟨a', c', hv, _, h⟩ := h
  cases hv
  rcases h with rfl | ⟨b, off, ha, hb, h⟩
  · simp at hi
  · exact ⟨b, off, ha, hb, h i q hi 0 _ rfl, h i q hi 1 _ rfl, h i q hi 2 _ rfl, h i q hi 3 _ rfl, h i q hi 4 _ rfl, h i q hi 5 _ rfl⟩
theorem do_good {o : OpV} (ho : OpOk o) {cs : List Cel} (hv : ∀ c ∈ cs, c.v.1 ≤ 4611686018427387904) : goodL (doR ((runT o).run cs)).1 := by
  cases h : (runT o).run cs with
  | ok a s => exact (Fine.ok (V := Vb True) (Q := Lf True) (fine_run ho) (fun c hc _ => hv c hc) h).2 trivial
  | need k => exact goodL_nil
  | over c => exact goodL_nil

set_option maxRecDepth 100000 in
set_option maxHeartbeats 4000000 in
theorem ruleBounds_walk (w : World) (o : OpV) (ho : OpOk o) (s : List Cel) (sv : Value) (hs : SeenIn w sv s) :
    Calls Try.prog 5 #[.agg #[.int .u8 o.kind, .int .u32 o.who, .int .u32 o.whom, .int .u32 o.what, .int .u32 o.id, .int .u64 o.n, .int .u64 o.price], sv] w fun e w' => e = .returned (.bool true) ∧ Below w.heap.size w w' := by
  obtain ⟨a, cap, rfl, hcap, hcells⟩ := id hs.1
  obtain ⟨h1, h2, h3, h4, h5, h6, h7⟩ := id ho
  have HS := Lib.hid hs
  have HO := Lib.hid ho
  clear hs hcells ho
  obtain ⟨ic, hic, cy0, cy1, cy2⟩ := info_parts Try.infoCel
  by_cases hl : (40 : Int) < (s.length : Int)
  · go_enter Try.func5, Try.ntmps5
    go_wp2_with (go_at_call 25; refine (ruleKnown_any _).mono ?_; rintro e w1 ⟨rfl, B1⟩)
    go_ret
    exact ⟨rfl, below_trans (below_alloc _ _) B1⟩
  · have hl' : s.length ≤ 40 := by omega
    go_enter Try.func5, Try.ntmps5
    go_wp2_with (go_at_call 25; refine (ruleKnown_any _).mono ?_; rintro e w1 ⟨rfl, B1⟩)
    have L0 : LookSt w o w.heap.size (.slice none 0 0) (.slice none 0 0) [] [] (w.alloc (.cells #[.int .u8 o.kind, .int .u32 o.who, .int .u32 o.whom, .int .u32 o.what, .int .u32 o.id, .int .u64 o.n, .int .u64 o.price] 32)) :=
      ⟨below_alloc w _, heap_alloc_new w _, ⟨rfl, .inl ⟨rfl, rfl⟩⟩, ⟨rfl, .inl ⟨rfl, rfl⟩⟩, by simp [Value.ownBlock]⟩
    have L1 := L0.step B1
    clear L0 B1
    go_loopw [5, 6] (fun u i wr => ∃ k : Nat, k ≤ s.length ∧ i = .int .i64 (k : Int) ∧ Hid (LookSt w o w.heap.size (.slice none 0 0) u [] ((s.take k).map modc) wr)) (fun _ i _ => s.length - (intOf i).toNat)
    case atStart => exact ⟨0, Nat.zero_le _, rfl, Lib.hid L1⟩
    case round =>
      clear L1
      obtain ⟨k, hk, rfl, L⟩ := hrel
      replace L := L.out
      have hlo := L.lt
      have hlen : ((s.take k).map modc).length = k := by simp; omega
      by_cases hlt : k < s.length
      · obtain ⟨q, hq⟩ : ∃ q, s[k]? = some q := ⟨_, List.getElem?_eq_getElem hlt⟩
        have hok := modc_ok (HS.out.2 q (List.mem_of_getElem? hq))
        have hqv := HS.out.2 q (List.mem_of_getElem? hq)
        obtain ⟨⟨qv0, qv1⟩, qv2, qv3⟩ := hqv
        obtain ⟨b, off, rfl, hb, x0, x1, x2, x3, x4, x5⟩ := seenAt_cells HS.out.1 hq
        replace x0 := (L.below.cell (p := ⟨b, off + k * 6, none⟩) hb).trans x0
        replace x1 := (L.below.cell (p := ⟨b, off + k * 6 + 1, none⟩) hb).trans x1
        replace x2 := (L.below.cell (p := ⟨b, off + k * 6 + 2, none⟩) hb).trans x2
        replace x3 := (L.below.cell (p := ⟨b, off + k * 6 + 3, none⟩) hb).trans x3
        replace x4 := (L.below.cell (p := ⟨b, off + k * 6 + 4, none⟩) hb).trans x4
        replace x5 := (L.below.cell (p := ⟨b, off + k * 6 + 5, none⟩) hb).trans x5
        have hsn : (s.take (k + 1)).map modc = (s.take k).map modc ++ [modc q] := by rw [List.take_add_one, hq]; simp
        replace hsn := Lib.hid hsn
        replace hq := Lib.hid hq
        have hl1 : (k : Int) < (s.length : Int) := by omega
        go_upto_region 9 with fail
        have L2 := L.step (below_alloc wr (.cells #[.int .u8 q.k.1, .int .u32 q.k.2.1, .int .u32 q.k.2.2, .int .u64 (q.v.1 % 4611686018427387905), .int .u64 q.v.2, .bool q.is] 49))
        have cb := heap_alloc_new wr (.cells #[.int .u8 q.k.1, .int .u32 q.k.2.1, .int .u32 q.k.2.2, .int .u64 (q.v.1 % 4611686018427387905), .int .u64 q.v.2, .bool q.is] 49)
        obtain ⟨w2, hw2⟩ : ∃ v, v = wr.alloc (.cells #[.int .u8 q.k.1, .int .u32 q.k.2.1, .int .u32 q.k.2.2, .int .u64 (q.v.1 % 4611686018427387905), .int .u64 q.v.2, .bool q.is] 49) := ⟨_, rfl⟩
        rw [← hw2] at L2 cb ⊢
        clear hw2 x0 x1 x2 x3 x4 x5 L
        have lb := (Array.getElem?_eq_some_iff.1 cb).1
        have y0 : w2.cell? ⟨wr.heap.size, 0, none⟩ = some (.int .u8 q.k.1) := by simp [cell_of_heap cb]
        have y1 : w2.cell? ⟨wr.heap.size, 1, none⟩ = some (.int .u32 q.k.2.1) := by simp [cell_of_heap cb]
        have y2 : w2.cell? ⟨wr.heap.size, 2, none⟩ = some (.int .u32 q.k.2.2) := by simp [cell_of_heap cb]
        have y3 : w2.cell? ⟨wr.heap.size, 3, none⟩ = some (.int .u64 (q.v.1 % 4611686018427387905)) := by simp [cell_of_heap cb]
        have y4 : w2.cell? ⟨wr.heap.size, 4, none⟩ = some (.int .u64 q.v.2) := by simp [cell_of_heap cb]
        have y5 : w2.cell? ⟨wr.heap.size, 5, none⟩ = some (.bool q.is) := by simp [cell_of_heap cb]
        have hnew := Lib.hid (heap_alloc_new w2 (.cells #[.int .u8 q.k.1, .int .u32 q.k.2.1, .int .u32 q.k.2.2, .int .u64 (q.v.1 % 4611686018427387905), .int .u64 q.v.2, .bool q.is] 49))
        have hlo2 := L2.lt
        replace cb := Lib.hid cb
        have hseen := L2.seen
        rw [hlen] at hseen
        replace hseen := Lib.hid hseen
        replace hlen := Lib.hid hlen
        go_wp2_with (first
          | (refine wpList_append_lies _ (by rfl) _ _ _ (by rfl) (w.heap.size + 1) 49 ic _ 6 40 Try.underlying33 hic cy0 cy1 cy2 rfl (by omega) u5 k (celCells ((s.take k).map modc)) (by rfl) (hseen.out.alloc _)
                  ⟨w2.heap.size, 0, none⟩ 1 1 (celRow (modc q)) (by rfl) (by rfl) (World.news_of_block hnew.out) (by simp [Value.oneCell', celRow])
                  (by omega) (by unfold maxLen; omega) (by omega) (by simp; omega) (w2.heap.size + 1) (by simp) ?_
             intro gg gcap w6 hown hgrow hat hltg))
        have L6 := L2.pushCel hgrow hown (by rw [hlen.out]) hat rfl
        rw [← hsn.out] at L6
        go_roundw
        case rel => exact ⟨k + 1, by omega, by go_num, Lib.hid L6⟩
        case measure => simp [intOf]; omega
      · obtain rfl : k = s.length := by omega
        rw [List.take_length] at L
        obtain ⟨c0, c1, c2, c3, c4, c5, c6⟩ := L.cells
        have hown : SeenIn wr u5 (s.map modc) := ⟨seen_of_owns L.seen, fun c hc => by
          obtain ⟨q, hq, rfl⟩ := List.mem_map.1 hc
          exact (modc_ok (HS.out.2 q hq)).1⟩
        have hM : ∀ v ∈ s.map modc, v.v.1 ≤ 4611686018427387904 := fun c hc => by
          obtain ⟨q, hq, rfl⟩ := List.mem_map.1 hc
          exact (modc_ok (HS.out.2 q hq)).2
        have HKn := look_any o HO.out (s.map modc) u5 wr hown
        replace hM := Lib.hid hM
        clear hown
        go_upto_region 11 with (go_at_call 28; refine HKn.mono ?_; rintro e w2 ⟨B2, a7, c7, u8, ks, cs, rfl, hrow, hk, hr⟩)
        have L2 := L.step B2
        clear HKn L c0 c1 c2 c3 c4 c5 c6 hlo hlen
        obtain ⟨c0, c1, c2, c3, c4, c5, c6⟩ := L2.cells
        have hlo := L2.lt
        have hcv : ∀ c ∈ cs, VlOk c.v := fun c hc => (hk.2.2 c hc).1
        have hgood := do_good HO.out (fun c hc => (hk.2.2 c hc).2 _ (by decide) hM.out)
        have hD := do_any (t := runT o) (seen_of_owns hrow) (by have := hk.short HO.out; omega) HO.out hcv (run_any o)
        replace hk := Lib.hid hk
        replace hr := Lib.hid hr
        obtain ⟨D, hDD⟩ : ∃ D, D = doR ((runT o).run cs) := ⟨_, rfl⟩
        rw [← hDD] at hD hgood
        obtain ⟨l, r⟩ := D
        clear hDD hcv
        dsimp only at hD hgood
        replace hgood := Lib.hid hgood
        obtain ⟨a8, c8, rfl⟩ := owns_shape hrow
        clear hrow
        go_upto_region 12 with (go_at_call 29; refine hD.mono ?_; rintro e w3 ⟨B3, v, rfl, hput⟩)
        have L3 := (L2.step B3).step (below_alloc w3 (.cells #[.int .u16 r.err, .int .u64 r.a, .int .u64 r.b, .int .u64 r.c] 41))
        have hput2 := hput.alloc (.cells #[.int .u16 r.err, .int .u64 r.a, .int .u64 r.b, .int .u64 r.c] 41)
        obtain ⟨w4, hw4⟩ : ∃ v, v = w3.alloc (.cells #[.int .u16 r.err, .int .u64 r.a, .int .u64 r.b, .int .u64 r.c] 41) := ⟨_, rfl⟩
        rw [← hw4] at L3 hput2 ⊢
        clear hw4 L2 B2 B3 hput hD c0 c1 c2 c3 c4 c5 c6
        have hlm := owns_max hput2
        obtain ⟨al, cl, rfl⟩ := owns_shape hput2
        replace hput2 := Lib.hid hput2
        go_wp2_with fail
        go_loopw [13] (fun i wr => ∃ j : Nat, j ≤ l.length ∧ i = .int .i64 (j : Int) ∧ Hid (Below w4.heap.size w4 wr)) (fun i _ => l.length - (intOf i).toNat)
        case atStart => exact ⟨0, Nat.zero_le _, rfl, Lib.hid (Below.refl _ _)⟩
        case round =>
          obtain ⟨j, hj, rfl, B⟩ := hrel
          by_cases hjl : j < l.length
          · have K1 := hput2.out
            obtain ⟨g, rfl⟩ := owns_row K1 (by omega)
            obtain ⟨q, hq⟩ : ∃ q, l[j]? = some q := ⟨_, List.getElem?_eq_getElem hjl⟩
            obtain ⟨d0, d1, d2, d3, d4, d5, ld⟩ := put_cells (owns_below K1 B.out) hq
            have hgq := hgood.out q (List.mem_of_getElem? hq)
            have hl1 : (j : Int) < (l.length : Int) := by omega
            have Bn : Below w4.heap.size w4 (wr.alloc (.cells #[.int .u64 q.v.1, .int .u64 q.v.2] 47)) := below_trans B.out (below_alloc wr _)
            replace Bn := Lib.hid Bn
            clear K1 hq
            cases hg : q.gone
            · rw [hg] at d5
              simp only [goodP, hg, Bool.false_eq_true, if_false] at hgq
              obtain ⟨hg1, hg2⟩ := hgq
              have h4 : q.k.1 = 6 ∨ q.k.1 = 4 ∨ (q.k.1 = 3 ∧ ¬ q.v.1 = 0 ∧ q.v.1 ≤ 4611686018427387904) ∨ (¬ q.k.1 = 6 ∧ ¬ q.k.1 = 4 ∧ ¬ q.k.1 = 3 ∧ q.v.1 ≤ 4611686018427387904) := by
                by_cases e6 : q.k.1 = 6
                · exact .inl e6
                · by_cases e4 : q.k.1 = 4
                  · exact .inr (.inl e4)
                  · by_cases e3 : q.k.1 = 3
                    · exact .inr (.inr (.inl ⟨e3, hg2 e3, hg1 e6 e4⟩))
                    · exact .inr (.inr (.inr ⟨e6, e4, e3, hg1 e6 e4⟩))
              clear hg1 hg2
              rcases h4 with e | e | ⟨e, e1, e2⟩ | ⟨e, e1, e2, e3⟩
              all_goals (
                try rw [e] at d0
                try (have hz : (q.v.1 == 0) = false := by simp [e1])
                go_wp2_with fail
                go_roundw
                case rel => exact ⟨j + 1, by omega, by go_num, Bn⟩
                case measure => simp [intOf]; omega)
            · rw [hg] at d5
              simp only [goodP, hg, if_true] at hgq
              rw [hgq] at d3 d4 Bn
              go_wp2_with fail
              go_roundw
              case rel => exact ⟨j + 1, by omega, by go_num, Bn⟩
              case measure => simp [intOf]; omega
          · go_wp2_with fail
            go_ret
            exact ⟨rfl, (L3.step B.out).below⟩
end Go.Proofs.Ytdbpjbmalinlbaa
