/- The walk of the law's own look. -/
import Derived.Test.YtdbpjbmalinlbaaRulZi
import Derived.Deep.QuietTactic
import Derived.BigQuiet
namespace Go.Proofs.Ytdbpjbmalinlbaa
open Go.RowKit

set_option maxRecDepth 100000 in
set_option maxHeartbeats 4000000 in
theorem look_any (o : OpV) (ho : OpOk o) (vs : List Cel) (sv : Value) (w : World) (hs : SeenIn w sv vs) :
    Calls Try.prog 28 #[opV o, sv] w fun e w' => Below w.heap.size w w' ∧ ∃ a7 c7 u8 ks cs, e = .returned (.tuple #[.slice a7 ks.length c7, u8, .bool true]) ∧
      w'.ownsRow (w.heap.size + 1) 49 6 u8 cs.length (celCells cs) ∧ LookOk (runT o) vs ks cs ∧ ∀ k, (runT o).run cs ≠ .need k := by
  obtain ⟨av, cv, rfl, hcap, hcells⟩ := id hs.1
  have HS := Lib.hid hs
  have HC := Lib.hid hcells
  clear hs hcells
  obtain ⟨o0, o1, o2, o3, o4, on, op⟩ := id ho
  have HO := Lib.hid ho
  clear ho
  obtain ⟨ik, hik, ky0, ky1, ky2⟩ := info_parts Try.infoKey
  obtain ⟨ic, hic, cy0, cy1, cy2⟩ := info_parts Try.infoCel
  go_enter Try.func28, Try.ntmps28
  go_wp2_with fail
  have L0 : LookSt w o w.heap.size (.slice none 0 0) (.slice none 0 0) [] [] (w.alloc (.cells #[.int .u8 o.kind, .int .u32 o.who, .int .u32 o.whom, .int .u32 o.what, .int .u32 o.id, .int .u64 o.n, .int .u64 o.price] 32)) :=
    ⟨below_alloc w _, heap_alloc_new w _, ⟨rfl, .inl ⟨rfl, rfl⟩⟩, ⟨rfl, .inl ⟨rfl, rfl⟩⟩, by simp [Value.ownBlock]⟩
  go_loopw [7, 8, 9] (fun u7 u8 i wr => ∃ ks cs, i = .int .i64 (cs.length : Int) ∧ LookOk (runT o) vs ks cs ∧ Hid (LookSt w o w.heap.size u7 u8 ks cs wr)) (fun _ _ i _ => 40 - (intOf i).toNat)
  case atStart => exact ⟨[], [], rfl, lookOk_nil _ _, Lib.hid L0⟩
  case round =>
    clear L0
    obtain ⟨ks, cs, rfl, hk, L⟩ := hrel
    replace L := L.out
    have hc12 := hk.short HO.out
    have hkl := Lib.hid hk.1
    have hcv : ∀ c ∈ cs, VlOk c.v := fun c hc => (hk.2.2 c hc).1
    obtain ⟨c0, c1, c2, c3, c4, c5, c6⟩ := L.cells
    have hlo := L.lt
    have hl40 : (cs.length : Int) < 40 := by omega
    obtain ⟨a7, c7, rfl⟩ := owns_shape L.keys
    obtain ⟨a8, c8, rfl⟩ := owns_shape L.seen
    by_cases hn : ∃ k, (runT o).run cs = .need k
    · obtain ⟨k, hr⟩ := hn
      have HN := look_next HO.out L hcv (by omega) hr
      have HR := Lib.hid hr
      have HK := Lib.hid hk
      clear hr hk
      go_upto_region 7 with (go_at_call 31; refine HN.mono ?_; rintro e w1 ⟨rfl, B1⟩)
      clear HN
      have L1 := (L.step B1).step (below_alloc w1 (.cells #[.int .u8 k.1, .int .u32 k.2.1, .int .u32 k.2.2] 24))
      have kb := heap_alloc_new w1 (.cells #[.int .u8 k.1, .int .u32 k.2.1, .int .u32 k.2.2] 24)
      have kl : w1.heap.size < (w1.alloc (.cells #[.int .u8 k.1, .int .u32 k.2.1, .int .u32 k.2.2] 24)).heap.size := by simp
      obtain ⟨KB, hKB⟩ : ∃ b, b = w1.heap.size := ⟨_, rfl⟩
      rw [← hKB] at kb kl ⊢
      clear hKB L B1 c0 c1 c2 c3 c4 c5 c6 hlo
      obtain ⟨w2, hw2⟩ : ∃ v, v = w1.alloc (.cells #[.int .u8 k.1, .int .u32 k.2.1, .int .u32 k.2.2] 24) := ⟨_, rfl⟩
      rw [← hw2] at L1 kb kl ⊢
      clear hw2
      have k0 : w2.cell? ⟨KB, 0, none⟩ = some (.int .u8 k.1) := by simp [cell_of_heap kb]
      have k1 : w2.cell? ⟨KB, 1, none⟩ = some (.int .u32 k.2.1) := by simp [cell_of_heap kb]
      have k2 : w2.cell? ⟨KB, 2, none⟩ = some (.int .u32 k.2.2) := by simp [cell_of_heap kb]
      replace kb := Lib.hid kb
      go_wp2_with fail
      have cb := heap_alloc_new w2 (.cells #[.int .u8 k.1, .int .u32 k.2.1, .int .u32 k.2.2, .int .u64 0, .int .u64 0, .bool false] 49)
      have B2 := below_alloc w2 (.cells #[.int .u8 k.1, .int .u32 k.2.1, .int .u32 k.2.2, .int .u64 0, .int .u64 0, .bool false] 49)
      go_loopw [13] (fun i wi => ∃ (j : Nat) (c : Cel), j ≤ ks.length ∧ i = .int .i64 (j : Int) ∧ CelOk vs c ∧ Hid (Below w2.heap.size w2 wi) ∧ Hid (wi.heap[w2.heap.size]? = some (.cells #[.int .u8 c.k.1, .int .u32 c.k.2.1, .int .u32 c.k.2.2, .int .u64 c.v.1, .int .u64 c.v.2, .bool c.is] 49))) (fun i _ => ks.length - (intOf i).toNat)
      case atStart => exact ⟨0, ⟨k, (0, 0), false⟩, Nat.zero_le _, rfl, celOk_zero _ _, Lib.hid B2, Lib.hid cb⟩
      case round =>
        clear cb B2
        obtain ⟨j, c, hj, rfl, hok, B, cb⟩ := hrel
        have L2 := L1.step B.out
        have lb := (Array.getElem?_eq_some_iff.1 cb.out).1
        have q0 := (B.out.cell (p := ⟨KB, 0, none⟩) kl).trans k0
        have q1 := (B.out.cell (p := ⟨KB, 1, none⟩) kl).trans k1
        have q2 := (B.out.cell (p := ⟨KB, 2, none⟩) kl).trans k2
        by_cases hlt : j < ks.length
        · obtain ⟨g7, rfl⟩ := owns_row L2.keys (by omega)
          obtain ⟨g8, rfl⟩ := owns_row L2.seen (by have := hkl.out; omega)
          obtain ⟨kj, hkj⟩ : ∃ q, ks[j]? = some q := ⟨_, List.getElem?_eq_getElem hlt⟩
          obtain ⟨cj, hcj⟩ : ∃ q, cs[j]? = some q := ⟨_, List.getElem?_eq_getElem (by have := hkl.out; omega)⟩
          obtain ⟨d0, d1, d2, ld⟩ := key_cells L2.keys hkj
          have hl1 : (j : Int) < (ks.length : Int) := by omega
          have hl2 : (j : Int) < (cs.length : Int) := by have := hkl.out; omega
          replace hkj := Lib.hid hkj
          replace hcj := Lib.hid hcj
          have hcc : (kj.1 = k.1 ∧ kj.2.1 = k.2.1 ∧ kj.2.2 = k.2.2) ∨ ¬ kj.1 = k.1 ∨ (kj.1 = k.1 ∧ ¬ kj.2.1 = k.2.1) ∨ (kj.1 = k.1 ∧ kj.2.1 = k.2.1 ∧ ¬ kj.2.2 = k.2.2) := by omega
          rcases hcc with ⟨h0, h1, h2⟩ | h0 | ⟨h0, h1⟩ | ⟨h0, h1, h2⟩
          · go_upto_region 13 with fail
            go_quiet (fail)
            have L3 := L2.step (below_drewN (Below.refl _ _) nq)
            obtain ⟨e0, e1, e2, e3, e4, e5, le⟩ := cel_cells L3.seen hcj.out
            have cb3 : (wr.drewN nq).heap[w2.heap.size]? = some (.cells #[.int .u8 c.k.1, .int .u32 c.k.2.1, .int .u32 c.k.2.2, .int .u64 c.v.1, .int .u64 c.v.2, .bool c.is] 49) := cb.out
            have B3 := below_drewN B.out nq
            obtain ⟨w4, hw4⟩ : ∃ v, v = wr.drewN nq := ⟨_, rfl⟩
            rw [← hw4] at cb3 B3 e0 e1 e2 e3 e4 e5 le ⊢
            clear hw4 L3
            have lb3 : w2.heap.size < w4.heap.size := (Array.getElem?_eq_some_iff.1 cb3).1
            have y0 : w4.cell? ⟨w2.heap.size, 0, none⟩ = some (.int .u8 c.k.1) := by simp [cell_of_heap cb3]
            have y1 : w4.cell? ⟨w2.heap.size, 1, none⟩ = some (.int .u32 c.k.2.1) := by simp [cell_of_heap cb3]
            have y2 : w4.cell? ⟨w2.heap.size, 2, none⟩ = some (.int .u32 c.k.2.2) := by simp [cell_of_heap cb3]
            have y3 : w4.cell? ⟨w2.heap.size, 3, none⟩ = some (.int .u64 c.v.1) := by simp [cell_of_heap cb3]
            have y4 : w4.cell? ⟨w2.heap.size, 4, none⟩ = some (.int .u64 c.v.2) := by simp [cell_of_heap cb3]
            have y5 : w4.cell? ⟨w2.heap.size, 5, none⟩ = some (.bool c.is) := by simp [cell_of_heap cb3]
            have f0 := frozen_of_heap cb3 0
            have f1 := frozen_of_heap cb3 1
            have f2 := frozen_of_heap cb3 2
            have f3 := frozen_of_heap cb3 3
            have f4 := frozen_of_heap cb3 4
            have f5 := frozen_of_heap cb3 5
            replace cb3 := Lib.hid cb3
            have hokj := (HK.out).2.2 cj (List.mem_of_getElem? hcj.out)
            go_wp2_with fail
            go_roundw
            case rel =>
              refine ⟨j + 1, cj, by omega, by go_num, hokj, Lib.hid ?_, Lib.hid (fill6 cb3.out _ _ _ _ _ _)⟩
              exact (((((B3.setCell (p := ⟨w2.heap.size, 0, none⟩) (Nat.le_refl _) _).setCell (p := ⟨w2.heap.size, 1, none⟩) (Nat.le_refl _) _).setCell (p := ⟨w2.heap.size, 2, none⟩) (Nat.le_refl _) _).setCell (p := ⟨w2.heap.size, 3, none⟩) (Nat.le_refl _) _).setCell (p := ⟨w2.heap.size, 4, none⟩) (Nat.le_refl _) _).setCell (p := ⟨w2.heap.size, 5, none⟩) (Nat.le_refl _) _
            case measure => simp [intOf]; omega
          all_goals (
            go_upto_region 13 with fail
            go_quiet (fail)
            go_wp2_with fail
            go_roundw
            case rel => exact ⟨j + 1, c, by omega, by go_num, hok, Lib.hid (below_drewN B.out nq), Lib.hid cb.out⟩
            case measure => simp [intOf]; omega)
        · obtain rfl : j = ks.length := by omega
          have y0 : wr.cell? ⟨w2.heap.size, 0, none⟩ = some (.int .u8 c.k.1) := by simp [cell_of_heap cb.out]
          have y1 : wr.cell? ⟨w2.heap.size, 1, none⟩ = some (.int .u32 c.k.2.1) := by simp [cell_of_heap cb.out]
          have y2 : wr.cell? ⟨w2.heap.size, 2, none⟩ = some (.int .u32 c.k.2.2) := by simp [cell_of_heap cb.out]
          have y3 : wr.cell? ⟨w2.heap.size, 3, none⟩ = some (.int .u64 c.v.1) := by simp [cell_of_heap cb.out]
          have y4 : wr.cell? ⟨w2.heap.size, 4, none⟩ = some (.int .u64 c.v.2) := by simp [cell_of_heap cb.out]
          have y5 : wr.cell? ⟨w2.heap.size, 5, none⟩ = some (.bool c.is) := by simp [cell_of_heap cb.out]
          go_upto_region 15 with fail
          go_cut [55] (fun s55 wx => ∃ b : Bool, s55 = .bool b ∧ Hid (b = true → (cs.length : Int) < (vs.length : Int)) ∧ wx = wr)
          case first =>
            have hcc : (c.k.1 = k.1 ∧ c.k.2.1 = k.2.1 ∧ c.k.2.2 = k.2.2 ∧ c.v.1 = 0 ∧ c.v.2 = 0) ∨ ¬ c.k.1 = k.1 ∨ (c.k.1 = k.1 ∧ ¬ c.k.2.1 = k.2.1) ∨ (c.k.1 = k.1 ∧ c.k.2.1 = k.2.1 ∧ ¬ c.k.2.2 = k.2.2) ∨ (c.k.1 = k.1 ∧ c.k.2.1 = k.2.1 ∧ c.k.2.2 = k.2.2 ∧ ¬ c.v.1 = 0) ∨ (c.k.1 = k.1 ∧ c.k.2.1 = k.2.1 ∧ c.k.2.2 = k.2.2 ∧ c.v.1 = 0 ∧ ¬ c.v.2 = 0) := by omega
            rcases hcc with ⟨h0, h1, h2, h3, h4⟩ | h0 | ⟨h0, h1⟩ | ⟨h0, h1, h2⟩ | ⟨h0, h1, h2, h3⟩ | ⟨h0, h1, h2, h3, h4⟩
            · cases his : c.is
              · rw [his] at y5
                by_cases hv : (cs.length : Int) < (vs.length : Int)
                · go_wp2_with fail
                  go_meet
                  exact ⟨true, rfl, Lib.hid (fun _ => hv), rfl⟩
                · go_wp2_with fail
                  go_meet
                  exact ⟨false, rfl, Lib.hid (fun h => by cases h), rfl⟩
              · rw [his] at y5
                go_wp2_with fail
                go_meet
                exact ⟨false, rfl, Lib.hid (fun h => by cases h), rfl⟩
            all_goals (
              go_wp2_with fail
              go_meet
              exact ⟨false, rfl, Lib.hid (fun h => by cases h), rfl⟩)
          case rest =>
          obtain ⟨b, rfl, hb, rfl⟩ := hcut
          go_upto_if 55 with fail
          go_cut [] (fun wx => ∃ c, CelOk vs c ∧ Hid (Below w2.heap.size w2 wx) ∧ Hid (wx.heap[w2.heap.size]? = some (.cells #[.int .u8 c.k.1, .int .u32 c.k.2.1, .int .u32 c.k.2.2, .int .u64 c.v.1, .int .u64 c.v.2, .bool c.is] 49)))
          case first =>
            cases b
            · go_wp2_with fail
              go_meet
              exact ⟨c, hok, B, cb⟩
            · have hlt2 := hb.out rfl
              obtain ⟨vi, hvi⟩ : ∃ q, vs[cs.length]? = some q := ⟨_, List.getElem?_eq_getElem (by omega)⟩
              have hmem := List.mem_of_getElem? hvi
              rcases HC.out with h0 | ⟨bv, off, rfl, hbv, hcl⟩
              · rw [h0] at hvi; simp at hvi
              · have x3 := (L2.below.cell (p := ⟨bv, off + cs.length * 6 + 3, none⟩) hbv).trans (hcl cs.length vi hvi 3 _ rfl)
                have x4 := (L2.below.cell (p := ⟨bv, off + cs.length * 6 + 4, none⟩) hbv).trans (hcl cs.length vi hvi 4 _ rfl)
                have x5 := (L2.below.cell (p := ⟨bv, off + cs.length * 6 + 5, none⟩) hbv).trans (hcl cs.length vi hvi 5 _ rfl)
                have f3 := frozen_of_heap cb.out 3
                have f4 := frozen_of_heap cb.out 4
                have f5 := frozen_of_heap cb.out 5
                have hne : ¬ bv = w2.heap.size := by have := L1.lt; omega
                replace hcl := Lib.hid hcl
                clear hvi
                go_wp2_with fail
                go_meet
                refine ⟨⟨c.k, vi.v, vi.is⟩, ⟨HS.out.2 vi hmem, fun M _ h => h vi hmem⟩, Lib.hid ?_, Lib.hid (fill1 (fill2 cb.out _ _) _)⟩
                exact ((B.out.setCell (p := ⟨w2.heap.size, 3, none⟩) (Nat.le_refl _) _).setCell (p := ⟨w2.heap.size, 4, none⟩) (Nat.le_refl _) _).setCell (p := ⟨w2.heap.size, 5, none⟩) (Nat.le_refl _) _
          case rest =>
          clear y0 y1 y2 y3 y4 y5 q0 q1 q2 L2 lb hok B cb hb
          obtain ⟨c', hok, B, cb⟩ := hcut
          have L4 := L1.step B.out
          have lb := (Array.getElem?_eq_some_iff.1 cb.out).1
          have q0 := (B.out.cell (p := ⟨KB, 0, none⟩) kl).trans k0
          have q1 := (B.out.cell (p := ⟨KB, 1, none⟩) kl).trans k1
          have q2 := (B.out.cell (p := ⟨KB, 2, none⟩) kl).trans k2
          have hnewk := Lib.hid (heap_alloc_new wc (.cells #[.int .u8 k.1, .int .u32 k.2.1, .int .u32 k.2.2] 24))
          have hlo4 := L4.lt
          have hkl2 : ks.length ≤ 12 := by have := hkl.out; omega
          have hlk := fun b hb => (owns_lt (b := b) L1.keys hb).2
          go_upto_region 19 with (first
            | (refine wpList_append_lies _ (by rfl) _ _ _ (by rfl) (w.heap.size + 1) 24 ik _ 3 12 Try.underlying34 hik ky0 ky1 ky2 rfl (by omega) (.slice a7 ks.length c7) ks.length (keysCells ks) (by rfl) (L4.keys.alloc _)
                    ⟨wc.heap.size, 0, none⟩ 1 1 (keyRow k) (by rfl) (by rfl) (World.news_of_block hnewk.out) (by simp [Value.oneCell', keyRow])
                    (by omega) (by unfold maxLen; omega) (by omega) (by simp; omega) (wc.heap.size + 1) (by simp) ?_
               intro gg gcap w5 hown hgrow hat hltg))
          have L5 := L4.pushKey hgrow hown rfl hat rfl
          have cb5 := (grown_heap hgrow lb (fun e => by have := hlk _ e; omega)).trans cb.out
          have lb5 : w2.heap.size < w5.heap.size := (Array.getElem?_eq_some_iff.1 cb5).1
          have y0 : w5.cell? ⟨w2.heap.size, 0, none⟩ = some (.int .u8 c'.k.1) := by simp [cell_of_heap cb5]
          have y1 : w5.cell? ⟨w2.heap.size, 1, none⟩ = some (.int .u32 c'.k.2.1) := by simp [cell_of_heap cb5]
          have y2 : w5.cell? ⟨w2.heap.size, 2, none⟩ = some (.int .u32 c'.k.2.2) := by simp [cell_of_heap cb5]
          have y3 : w5.cell? ⟨w2.heap.size, 3, none⟩ = some (.int .u64 c'.v.1) := by simp [cell_of_heap cb5]
          have y4 : w5.cell? ⟨w2.heap.size, 4, none⟩ = some (.int .u64 c'.v.2) := by simp [cell_of_heap cb5]
          have y5 : w5.cell? ⟨w2.heap.size, 5, none⟩ = some (.bool c'.is) := by simp [cell_of_heap cb5]
          have hnewc := Lib.hid (heap_alloc_new w5 (.cells #[.int .u8 c'.k.1, .int .u32 c'.k.2.1, .int .u32 c'.k.2.2, .int .u64 c'.v.1, .int .u64 c'.v.2, .bool c'.is] 49))
          have hlo5 := L5.lt
          clear hown hgrow hat hltg cb5 q0 q1 q2
          go_wp2_with (first
            | (refine wpList_append_lies _ (by rfl) _ _ _ (by rfl) (w.heap.size + 1) 49 ic _ 6 40 Try.underlying33 hic cy0 cy1 cy2 rfl (by omega) (.slice a8 cs.length c8) cs.length (celCells cs) (by rfl) (L5.seen.alloc _)
                    ⟨w5.heap.size, 0, none⟩ 1 1 (celRow c') (by rfl) (by rfl) (World.news_of_block hnewc.out) (by simp [Value.oneCell', celRow])
                    (by omega) (by unfold maxLen; omega) (by omega) (by simp; omega) (w5.heap.size + 1) (by simp) ?_
               intro gg2 gcap2 w6 hown2 hgrow2 hat2 hltg2))
          go_roundw
          case rel => exact ⟨ks ++ [k], cs ++ [c'], by (rw [List.length_append]; go_num), HK.out.snoc HR.out hok, Lib.hid (L5.pushCel hgrow2 hown2 rfl hat2 rfl)⟩
          case measure => simp [intOf]; omega
    · have hr : ∀ k, (runT o).run cs ≠ .need k := fun k h => hn ⟨k, h⟩
      have HN := look_stop HO.out L hcv (by omega) hr
      have HR := Lib.hid hr
      have HK := Lib.hid hk
      clear hr hk hn
      go_wp2_with (go_at_call 31; refine HN.mono ?_; rintro e w1 ⟨⟨k, rfl⟩, B1⟩)
      have L1 := (L.step B1).step (below_alloc w1 (.cells #[.int .u8 k.1, .int .u32 k.2.1, .int .u32 k.2.2] 24))
      exact bodyPost_ret (v := .tuple #[.slice a7 ks.length c7, .slice a8 cs.length c8, .bool true]) (by simp [results, Try.results28, go_sem]) rfl ⟨L1.below, a7, c7, _, ks, cs, rfl, L1.seen, HK.out, HR.out⟩
end Go.Proofs.Ytdbpjbmalinlbaa
