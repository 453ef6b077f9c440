/- The closure that calls itself: its walk. -/
import Derived.Test.YtilknhackmccpaaKntD
set_option linter.unusedVariables false
set_option linter.unusedSimpArgs false
namespace Go.Proofs.Ytilknhackmccpaa
open Go.RowKit Go.Sort Go.Maps Go.ChangeMaps Go.MapKept Go.ChangeShapes

theorem far_cell {w w' : World} {S B : Nat} {v : Value} (hv : w.cell? ⟨B, 0, none⟩ = some v) (hg : w.grownBy w' (some S)) (hS : ∃ es clock, w.heap[S]? = some (.map es clock)) : w'.cell? ⟨B, 0, none⟩ = some v := by
  obtain ⟨es, clock, hS⟩ := hS
  obtain ⟨cs, ty, fr, hh⟩ := cell_block hv
  refine (hg.cell_far ⟨B, 0, none⟩ (Array.getElem?_eq_some_iff.1 hh).1 ?_).trans hv
  intro e
  simp at e
  subst e
  rw [hh] at hS
  cases hS
def BackTill (V : List Int) (f : Int → List Int) (tg : Int) (B3 B5 B6 B7 M N : Nat) : Prop :=
  ∀ (n : Int) (T : List Int) (S k : Nat) (w : World), unseen V T < N → U n → Knot w f tg B3 B5 B6 B7 M → Seen w S k T → w.cell? ⟨B6, 0, none⟩ = some (.map (some S)) → B7 < S → k + unseen V T < 1073741824 →
    Calls Try.prog 36 #[.int .u32 n, .pointer (some ⟨B5, 0, none⟩), .pointer (some ⟨B3, 0, none⟩), .pointer (some ⟨B6, 0, none⟩), .pointer (some ⟨B7, 0, none⟩)] w fun e w' =>
      ∃ (r : Bool) (T' : List Int) (k' : Nat), e = .returned (.bool r) ∧ Seen w' S k' T' ∧ k' + unseen V T' ≤ k + unseen V T ∧ w.grownBy w' (some S) ∧ (∀ x, x ∈ T → x ∈ T') ∧ (r = true → Rch f tg T n) ∧ (r = false → tg ∉ f n ∧ (∀ z ∈ f n, z ∈ T') ∧ Shut f tg T T')

set_option maxRecDepth 100000 in
set_option maxHeartbeats 4000000 in
theorem back_step (V : List Int) (f : Int → List Int) (tg : Int) (B3 B5 B6 B7 M : Nat) (hV : ∀ n z, z ∈ f n → z ∈ V ∧ U z) (N : Nat) (IH : BackTill V f tg B3 B5 B6 B7 M N) : BackTill V f tg B3 B5 B6 B7 M (N + 1) := by
  intro n T S k w hun hu HK hS c6 hSM hk
  have hSr : ∀ R, some S = some R → B5 < R ∧ R ≠ B7 := fun R e => by cases e; have := HK.lt5; omega
  obtain ⟨m, D, hown, hm, hR⟩ := HK.own
  obtain ⟨v, look, hoi, hzl, _, _⟩ := groups_at hown hR (by unfold maxLen; omega) hu
  obtain ⟨zs, hzs⟩ : ∃ zs, f n = zs := ⟨_, rfl⟩
  have hVz : ∀ z ∈ zs, z ∈ V ∧ U z := fun z hz => hV n z (hzs ▸ hz)
  rw [hzs] at hoi hzl
  have hcon := contains_own w hoi tg
  obtain ⟨a', cap', rfl, hcell⟩ := own_form hoi
  obtain ⟨L, hL⟩ : ∃ L, zs.length = L := ⟨_, rfl⟩
  rw [hL] at hcon hcell hzl look
  have L0 := look w rfl
  have c3 := HK.c3
  have c5 := HK.c5
  obtain ⟨cb, hcb⟩ : ∃ cb, (zs.any fun y => tg == y) = cb := ⟨_, rfl⟩
  rw [hcb] at hcon
  have hIH := Lib.hid IH
  have hHK := Lib.hid HK
  clear IH HK hR hown look hoi
  cases cb
  · have htg : tg ∉ zs := fun h => by
      have := List.any_eq_false.1 hcb tg h
      simp at this
    clear hcb
    go_enter Try.func36, Try.ntmps36
    go_wp2_with (go_at_call 37; refine hcon.mono ?_; intro e w' h; rw [h.1, h.2]; clear h w' e)
    go_loopw [18, 8] (fun vi _ wr => ∃ (j : Nat) (Tj : List Int) (kj : Nat), vi = .int .i64 j ∧ j ≤ L ∧ Seen wr S kj Tj ∧ kj + unseen V Tj ≤ k + unseen V T ∧ w.grownBy wr (some S) ∧ Hid ((∀ x, x ∈ T → x ∈ Tj) ∧ (∀ i, i < j → zs.getD i 0 ∈ Tj) ∧ Shut f tg T Tj)) (fun vi _ _ => L - (intOf vi).toNat)
    case atStart => exact ⟨0, T, k, rfl, Nat.zero_le _, hS, Nat.le_refl _, World.grownBy.refl _ _, Lib.hid ⟨fun _ h => h, fun i hi => absurd hi (Nat.not_lt_zero _), fun y hy => .inl hy⟩⟩
    case round =>
      obtain ⟨j, Tj, kj, rfl, hj, hSj, hkj, hgj, hH⟩ := hrel
      by_cases hlt : j < L
      · obtain ⟨g, rfl, _, hgl, ⟨gcs, gty, gfr, hgc⟩, hcj⟩ := hcell j hlt
        obtain ⟨x, hx⟩ : ∃ x, zs.getD j 0 = x := ⟨_, rfl⟩
        have hxz : x ∈ zs := by
          rw [← hx]
          have : zs.getD j 0 = zs[j]'(by omega) := by simp [List.getD_eq_getElem?_getD, List.getElem?_eq_getElem (show j < zs.length by omega)]
          rw [this]
          exact List.getElem_mem _
        obtain ⟨hxV, hux⟩ := hVz x hxz
        rw [hx] at hcj
        have hgS : some g ≠ some S := fun e => by
          obtain ⟨es, clock, h1⟩ := hS.map
          simp at e
          subst e
          rw [hgc] at h1
          cases h1
        have cj := (hgj.cell_far ⟨g, j, none⟩ hgl hgS).trans hcj
        have d6 := far_cell c6 hgj hS.map
        have lk := hSj.look hux
        by_cases hin : x ∈ Tj
        · rw [if_pos hin] at lk
          go_wp2
          go_roundw
          case rel =>
            refine ⟨j + 1, Tj, kj, by go_num, by omega, hSj, hkj, hgj, Lib.hid ⟨hH.out.1, fun i hi => ?_, hH.out.2.2⟩⟩
            rcases Nat.lt_or_ge i j with h | h
            · exact hH.out.2.1 i h
            · have : i = j := by omega
              rw [this, hx]
              exact hin
          case measure => simp [intOf]; omega
        · rw [if_neg hin] at lk
          have hus := unseen_lt hxV hin
          have hTT := unseen_mono (V := V) hH.out.1
          obtain ⟨w1, r1, hS1, g1⟩ := hSj.mark (by unfold maxLen; omega) hux
          have d7 := far_cell (far_cell hHK.out.c7 hgj hS.map) g1 hSj.map
          have e6 := far_cell d6 g1 hSj.map
          have hcall := hIH.out x (x :: Tj) S (kj + 1) w1 (by omega) hux ((hHK.out.kept hgj hSr).kept g1 hSr) hS1 e6 hSM (by omega)
          go_wp2_with (go_at_call 36; refine hcall.mono ?_; rintro e w2 ⟨r, T2, k2, rfl, hS2, hk2, g2, hT2, hrt, hrf⟩)
          · have hrT : r = true := by assumption
            go_ret
            exact ⟨true, T2, k2, rfl, hS2, by omega, hgj.trans (g1.trans g2), fun y hy => hT2 _ (by simp [hH.out.1 y hy]), fun _ => .step (hzs ▸ hxz) (fun h => hin (hH.out.1 _ h)) ((hrt hrT).mono (fun y hy => by simp [hH.out.1 y hy])), fun h => by cases h⟩
          · have hrF : r = false := by assumption
            obtain ⟨q1, q2, q3⟩ := hrf hrF
            refine ⟨⟨j + 1, T2, k2, by go_num, by omega, hS2, by omega, hgj.trans (g1.trans g2), Lib.hid ⟨fun y hy => hT2 _ (by simp [hH.out.1 y hy]), fun i hi => ?_, fun y hy => ?_⟩⟩, by simp [intOf]; omega⟩
            · rcases Nat.lt_or_ge i j with h | h
              · exact hT2 _ (List.mem_cons_of_mem _ (hH.out.2.1 i h))
              · have : i = j := by omega
                rw [this, hx]
                exact hT2 _ (by simp)
            · rcases q3 y hy with h | h
              · rcases List.mem_cons.1 h with rfl | h
                · exact .inr ⟨q1, q2⟩
                · rcases hH.out.2.2 y h with h | ⟨h1, h2⟩
                  · exact .inl h
                  · exact .inr ⟨h1, fun z hz => hT2 _ (by simp [h2 z hz])⟩
              · exact .inr h
      · have : j = L := by omega
        subst this
        go_wp2
        go_ret
        refine ⟨false, Tj, kj, rfl, hSj, hkj, hgj, hH.out.1, fun h => (by cases h), fun _ => ⟨by rw [hzs]; exact htg, fun z hz => ?_, hH.out.2.2⟩⟩
        rw [hzs] at hz
        obtain ⟨i, hi, e⟩ := List.mem_iff_getElem.1 hz
        have := hH.out.2.1 i (by omega)
        rw [List.getD_eq_getElem?_getD, List.getElem?_eq_getElem hi] at this
        simpa [e] using this
  · go_enter Try.func36, Try.ntmps36
    go_wp2_with (go_at_call 37; refine hcon.mono ?_; intro e w' h; rw [h.1, h.2]; clear h w' e)
    go_ret
    refine ⟨true, T, k, rfl, hS, Nat.le_refl _, World.grownBy.refl _ _, fun _ h => h, fun _ => .here ?_, fun h => by cases h⟩
    rw [hzs]
    obtain ⟨y, hy, e⟩ := List.any_eq_true.1 hcb
    rw [show tg = y by simpa using e]
    exact hy
theorem back_u (V : List Int) (f : Int → List Int) (tg : Int) (B3 B5 B6 B7 M : Nat) (hV : ∀ n z, z ∈ f n → z ∈ V ∧ U z) : ∀ N, BackTill V f tg B3 B5 B6 B7 M N
  | 0 => fun _ _ _ _ _ h => absurd h (Nat.not_lt_zero _)
  | N + 1 => back_step V f tg B3 B5 B6 B7 M hV N (back_u V f tg B3 B5 B6 B7 M hV N)
end Go.Proofs.Ytilknhackmccpaa
