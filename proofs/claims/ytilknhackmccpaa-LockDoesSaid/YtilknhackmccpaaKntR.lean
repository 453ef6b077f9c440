/- The law KnotMore: its walk. -/
import Derived.Test.YtilknhackmccpaaKntQ
set_option linter.unusedVariables false
set_option linter.unusedSimpArgs false
namespace Go.Proofs.Ytilknhackmccpaa
open Go.RowKit Go.Sort Go.Maps Go.ChangeMaps Go.MapKept Go.ChangeShapes

theorem Edg.dr {w : World} {a : Option Addr} {l : List (Int × Int)} (h : Edg w a l) (q : Nat) : Edg (w.drewN q) a l := fun hne => by
  obtain ⟨eb, off, h1, h2, h3⟩ := h hne
  exact ⟨eb, off, h1, h2, h3⟩
theorem Nums.dr {w : World} {a : Option Addr} {l : List Int} (h : Nums w a l) (q : Nat) : Nums (w.drewN q) a l := fun hne => by
  obtain ⟨eb, off, h1, h2, h3⟩ := h hne
  exact ⟨eb, off, h1, h2, h3⟩
theorem or_none (x : Option Nat) : x = none ∨ x ≠ none := by cases x <;> simp
set_option maxRecDepth 100000 in
set_option maxHeartbeats 4000000 in
theorem more_walk (w : World) (l : List (Int × Int)) (v : Value) (hv : EdgesIn w v l) (lm : List (Int × Int)) (vm : Value) (hvm : EdgesIn w vm lm) (tg : Int) (t1 : 0 ≤ tg) (t2 : tg ≤ 4294967295) :
    Calls Try.prog 7 #[v, vm, .int .u32 tg] w fun e w' => e = .returned (.bool true) ∧ Below w.heap.size w w' := by
  obtain ⟨a, cap, rfl, hE, hU⟩ := hv
  obtain ⟨am, capm, rfl, hEm, hUm⟩ := hvm
  obtain ⟨n, hn⟩ : ∃ n, l.length = n := ⟨_, rfl⟩
  obtain ⟨nm, hnm⟩ : ∃ n, lm.length = n := ⟨_, rfl⟩
  rw [hn, hnm]
  have htg : U tg := ⟨t1, t2⟩
  have hK := known_u w
  by_cases h30 : 30 < n
  · have h30i : (30 : Int) < (n : Int) := by omega
    go_enter Try.func7, Try.ntmps7
    go_wp2_with (go_at_call 14; refine hK.mono ?_; rintro e w1 ⟨rfl, b1⟩)
    go_ret
    exact ⟨rfl, b1⟩
  by_cases h10 : 10 < nm
  · have h30i : ¬ (30 : Int) < (n : Int) := by omega
    have h10i : (10 : Int) < (nm : Int) := by omega
    go_enter Try.func7, Try.ntmps7
    go_wp2_with (go_at_call 14; refine hK.mono ?_; rintro e w1 ⟨rfl, b1⟩)
    go_ret
    exact ⟨rfl, b1⟩
  have h30i : ¬ (30 : Int) < (n : Int) := by omega
  have h10i : ¬ (10 : Int) < (nm : Int) := by omega
  obtain ⟨i0, hi0, hz0, hz1, hz2⟩ := info_parts info_e
  go_enter Try.func7, Try.ntmps7
  go_upto_region 3 with (go_at_call 14; refine hK.mono ?_; rintro e w1 ⟨rfl, b1⟩)
  have hE1 := hE.keep b1 (Nat.le_refl _)
  have hC := cycle_u a n cap l tg w1 hE1 hU hn (by omega) htg
  clear hK
  go_upto_region 4 with (go_at_call 15; refine hC.mono ?_; rintro e w2 ⟨vr, rfl, ho, b2⟩)
  have hE2 := hE1.keep b2 (Nat.le_refl _)
  have bb : Below w.heap.size w w2 := b1.trans (b2.mono b1.size)
  have hEm2 := hEm.keep bb (Nat.le_refl _)
  have hlen := cyc_length hU (tg := tg)
  have hmore := cyc_more hU hUm (tg := tg)
  have htw := cyc_twice l tg
  have hrev := cyc_rev l tg
  obtain ⟨r, hr⟩ : ∃ r, cyc l tg = r := ⟨_, rfl⟩
  rw [hr] at ho hlen hmore htw hrev
  obtain ⟨ar, cr, rfl, hNr⟩ := own_nums ho
  obtain ⟨L, hL⟩ : ∃ L, r.length = L := ⟨_, rfl⟩
  rw [hL] at hlen ⊢
  obtain ⟨B, hB⟩ : ∃ B, w2.heap.size = B := ⟨_, rfl⟩
  have hO0 : OwnE w2 B (.slice none 0 0) [] := OwnE.nil _ _
  clear hC ho hE1 b1 b2 hr
  replace hmore := Lib.hid hmore
  replace htw := Lib.hid htw
  replace hrev := Lib.hid hrev
  go_upto_region 6 with (at_builtin; refine wpList_append_e rfl _ _ rfl B _ [] rfl hO0 a n cap l rfl hE2 hn (fun e => hn ▸ hE2.none0 e) (by simp; omega) (by omega) ?_; intro v1 w3 hO1 g1)
  have b3 : Below B w2 w3 := (Below.refl B w2).grown g1 (by omega) (fun j hj => by cases hj)
  have hB3 : B ≤ w3.heap.size := by have := g1.size; omega
  have hE3 := hE2.keep b3 (by omega)
  rw [List.nil_append] at hO1
  go_upto_region 7 with (at_builtin; refine wpList_append_e rfl _ _ rfl B _ l rfl hO1 a n cap l rfl hE3 hn (fun e => hn ▸ hE3.none0 e) (by omega) hB3 ?_; intro v2 w4 hO2 g2)
  have b4 : Below B w2 w4 := b3.grown g2 hB3 (fun j hj => (World.ownsRow.lt hO1 j hj).1)
  have hB4 : B ≤ w4.heap.size := by have := g2.size; omega
  have hE4 := hE2.keep b4 (by omega)
  obtain ⟨av, cv, rfl, hEv⟩ := hO2.edg
  have hlv : (l ++ l).length = n + n := by simp [hn]
  rw [hlv] at hO2 ⊢
  obtain ⟨n2, hn2⟩ : ∃ m, n + n = m := ⟨_, rfl⟩
  rw [hn2] at hlv hO2 ⊢
  have b4h := Lib.hid b4
  have hO2h := Lib.hid hO2
  have hEvh := Lib.hid hEv
  obtain ⟨B4, hB4'⟩ : ∃ B, w4.heap.size = B := ⟨_, rfl⟩
  have hT0 : Hid (OwnE w4 B4 (.slice none 0 0) ((l.drop n).reverse)) := Lib.hid (by rw [← hn, List.drop_length]; exact OwnE.nil _ _)
  clear hO0 hO1 g1 b3 hB3 hE3 g2 b4 hO2 hEv
  go_wp2
  go_loopw [9, 10] (fun v9 v10 wr => ∃ (m : Nat) (z : Int), v10 = .int .i64 z ∧ z + 1 = (m : Int) ∧ m ≤ n ∧ Hid (Below B4 w4 wr) ∧ B4 ≤ wr.heap.size ∧ Hid (OwnE wr B4 v9 ((l.drop m).reverse))) (fun _ v10 _ => (intOf v10 + 1).toNat)
  case atStart => exact ⟨n, _, rfl, by omega, Nat.le_refl _, Lib.hid (Below.refl _ _), by omega, hT0⟩
  case round =>
    clear hT0
    obtain ⟨m, z, rfl, hz, hm, hb, hBs, hT⟩ := hrel
    rcases m with _ | m
    · obtain rfl : z = -1 := by omega
      have hT' := hT.out
      rw [List.drop_zero] at hT'
      obtain ⟨at1, ct, rfl, hET⟩ := hT'.edg
      have hTn : l.reverse.length = n := by simp [hn]
      have gz : w4.grownBy wr none := by
        have b := hb.out
        exact ⟨b.os, b.tape, b.output, b.size, fun i hi _ => b.block i (by omega)⟩
      have hOa : OwnE wr B (.slice av n2 cv) (l ++ l) := hO2h.out.below gz (or_none _)
      have hEa : Edg wr av (l ++ l) := hEvh.out.keep hb.out (by omega)
      have hC1 := cycle_u av n2 cv (l ++ l) tg wr hEa (hU.app hU) hlv (by omega) htg
      rw [htw.out] at hC1
      have hUT : UE l.reverse := fun p hp => hU p (List.mem_reverse.1 hp)
      have hC2 : ∀ W, Edg W at1 l.reverse → Calls Try.prog 15 #[.slice at1 n ct, .int .u32 tg] W fun e w' => ∃ v, e = .returned v ∧ w'.ownsInts W.heap.size 23 .u32 v r ∧ Below W.heap.size W w' := fun W hW => by
        have := cycle_u at1 n ct l.reverse tg W hW hUT hTn (by omega) htg
        rw [hrev.out] at this
        exact this
      have hC3 : ∀ W ax cx, Edg W ax ((l ++ l) ++ lm) → Calls Try.prog 15 #[.slice ax (n2 + nm) cx, .int .u32 tg] W fun e w' => ∃ v, e = .returned v ∧ w'.ownsInts W.heap.size 23 .u32 v (cyc ((l ++ l) ++ lm) tg) ∧ Below W.heap.size W w' := fun W ax cx hW =>
        cycle_u ax (n2 + nm) cx ((l ++ l) ++ lm) tg W hW ((hU.app hU).app hUm) (by simp [hn, hnm]; omega) (by omega) htg
      have hNr4 : Nums w4 ar r := hNr.keep b4h.out (by omega)
      have hNrr : Nums wr ar r := hNr4.keep hb.out (by omega)
      have bwr : Below w.heap.size w wr := (bb.trans (b4h.out.mono (by have := bb.size; omega))).trans (hb.out.mono (by have := bb.size; have := b4h.out.size; omega))
      have hS0 : ∀ W v9 c9 n9, Nums W v9 r → r.length = n9 → Nums W ar r → Calls Try.prog 19 #[.slice v9 n9 c9, .slice ar L cr] W fun e w' => e = .returned (.bool true) ∧ ∃ q, w' = W.drewN q := fun W v9 c9 n9 h1 h2 h3 => by
        have := same_u v9 ar n9 c9 L cr r r W h1 h3 h2 hL (by omega) (by omega)
        rw [decide_eq_true rfl] at this
        exact this
      have hEm4 : Edg wr am lm := hEm2.keep ((b4h.out.trans (hb.out.mono (by have := b4h.out.size; omega)))) (by omega)
      rw [hTn]
      replace hC2 := Lib.hid hC2
      replace hC3 := Lib.hid hC3
      replace hS0 := Lib.hid hS0
      replace hlv := Lib.hid hlv
      replace hL := Lib.hid hL
      replace hn := Lib.hid hn
      replace hnm := Lib.hid hnm
      replace hTn := Lib.hid hTn
      clear hz hO2h hEvh hT hT' hE hE2 hE4 hNr hEm hEm2 hi0 hz0 hz1 hz2 hU hUm hUT
      go_upto_region 12 with (first
        | (go_at_call 15; refine hC1.mono ?_; clear hC1; rintro e w9 ⟨v9, rfl, ho9, b9⟩; obtain ⟨a9, c9, hv9, hN9⟩ := own_nums ho9; subst hv9; have hS1 := hS0.out w9 a9 c9 r.length hN9 rfl (hNrr.keep b9 (Nat.le_refl _)))
        | (go_at_call 19; refine hS1.mono ?_; clear hS1; rintro e w10 ⟨rfl, q1, rfl⟩; have hD1 := hC2.out (w9.drewN q1) ((hET.keep b9 (Nat.le_refl _)).dr q1))
        | (go_at_call 15; refine hD1.mono ?_; clear hD1; rintro e w11 ⟨v11, rfl, ho11, b11⟩; obtain ⟨a11, c11, hv11, hN11⟩ := own_nums ho11; subst hv11; have hS2 := hS0.out w11 a11 c11 r.length hN11 rfl (((hNrr.keep b9 (Nat.le_refl _)).dr q1).keep b11 (Nat.le_refl _)))
        | (go_at_call 19; refine hS2.mono ?_; clear hS2; rintro e w12 ⟨rfl, q2, rfl⟩))
      have gW : wr.grownBy (w11.drewN q2) none := (((grew b9).trans (grown_drewN w9 q1 none)).trans (grew b11)).trans (grown_drewN w11 q2 none)
      have hOW : OwnE (w11.drewN q2) B (.slice av n2 cv) (l ++ l) := hOa.below gW (or_none _)
      have hEmW : Edg (w11.drewN q2) am lm := ((((hEm4.keep b9 (Nat.le_refl _)).dr q1).keep b11 (Nat.le_refl _)).dr q2)
      have bW : Below w.heap.size w (w11.drewN q2) := bwr.grown gW bwr.size (fun _ h => by cases h)
      have hwB : w.heap.size ≤ B := by have := bb.size; omega
      have hBW : B ≤ (w11.drewN q2).heap.size := by have := gW.size; have := hb.out.size; have := b4h.out.size; omega
      have hll : (l ++ l).length = n2 := hlv.out
      obtain ⟨W, hW⟩ : ∃ W, w11.drewN q2 = W := ⟨_, rfl⟩
      rw [hW] at hOW hEmW bW hBW ⊢
      clear hW gW ho9 ho11 hN9 hN11 b9 b11 hNrr hNr4 bwr
      have hnm0 := hEmW.none0
      rw [hnm.out] at hnm0
      go_upto_region 13 with (at_builtin; refine wpList_append_e rfl _ _ rfl B _ (l ++ l) rfl hOW am nm capm lm rfl hEmW hnm.out hnm0 (by omega) hBW ?_; intro v13 w13 hO13 g13)
      have b13 : Below w.heap.size w w13 := bW.grown g13 (Nat.le_trans hwB hBW) (fun j hj => Nat.le_trans hwB (World.ownsRow.lt hOW j hj).1)
      obtain ⟨ax, cx, rfl, hEx⟩ := hO13.edg
      have hlx : ((l ++ l) ++ lm).length = n2 + nm := by rw [List.length_append, hll, hnm.out]
      rw [hlx]
      rcases Nat.eq_zero_or_pos L with h0 | h0
      · subst h0
        go_wp2
        go_ret
        exact ⟨rfl, b13⟩
      · have h0i : ((L : Int) == 0) = false := by simp; omega
        have hD3 := hC3.out w13 ax cx hEx
        have hne : cyc ((l ++ l) ++ lm) tg ≠ [] := hmore.out (by rintro rfl; have := hL.out; simp at this; omega)
        obtain ⟨r3, hr3⟩ : ∃ r, cyc ((l ++ l) ++ lm) tg = r := ⟨_, rfl⟩
        rw [hr3] at hD3 hne
        have hr30 : (0 : Int) < (r3.length : Int) := by have := List.length_pos_iff.2 hne; omega
        clear hr3 hne hEx hO13 hlx hll
        go_wp2_with (go_at_call 15; refine hD3.mono ?_; rintro e w14 ⟨v14, rfl, ho14, b14⟩; obtain ⟨a14, c14, hv14, hN14⟩ := own_nums ho14; subst hv14)
        go_ret
        refine ⟨?_, b13.trans (b14.mono b13.size)⟩
        show Ending.returned (.bool (decide (0 < r3.length))) = _
        rw [decide_eq_true (by omega)]
    · obtain rfl : z = (m : Int) := by omega
      have hmn : (m : Int) < (n : Int) := by omega
      have hm0 : (0 : Int) ≤ (m : Int) := by omega
      obtain ⟨eb, off, rfl, hce⟩ := (hE4.keep hb.out (by omega)).at (k := m) (by omega)
      obtain ⟨ce1, ce2⟩ := hce m (by omega)
      obtain ⟨x, hx⟩ : ∃ x, (l.getD m (0, 0)).1 = x := ⟨_, rfl⟩
      obtain ⟨y, hy⟩ : ∃ x, (l.getD m (0, 0)).2 = x := ⟨_, rfl⟩
      have hdrop : (l.drop m).reverse = (l.drop (m + 1)).reverse ++ [(x, y)] := by
        rw [List.drop_eq_getElem_cons (show m < l.length by omega), List.reverse_cons]
        have : l[m]'(by omega) = (x, y) := by
          rw [← hx, ← hy]
          simp [List.getD_eq_getElem?_getD, List.getElem?_eq_getElem (show m < l.length by omega)]
        rw [this]
      obtain ⟨T1, hT1⟩ : ∃ T, (l.drop (m + 1)).reverse = T := ⟨_, rfl⟩
      have hTl : T1.length ≤ n := by rw [← hT1, List.length_reverse, List.length_drop]; omega
      rw [hT1] at hdrop hT
      rw [hx] at ce1
      rw [hy] at ce2
      clear hce hx hy hz
      replace hdrop := Lib.hid hdrop
      replace hT1 := Lib.hid hT1
      have hoi := hT.out
      unfold OwnE at hoi
      obtain ⟨Tl, hTl2⟩ : ∃ x, T1.length = x := ⟨_, rfl⟩
      rw [hTl2] at hoi hTl
      go_wp2_with (first
        | (at_builtin; refine wpList_append_own_at _ rfl _ _ 22 rfl B4 35 i0 (.agg #[.int .u32 0, .int .u32 0]) 2 8 Try.underlying22 hi0 hz0 hz1 hz2 rfl (by decide) _ _ _ rfl (hoi.alloc _) ⟨wr.heap.size, 0, none⟩ 1 1 [.int .u32 x, .int .u32 y] rfl rfl (World.news_of_block (heap_alloc_new wr _)) (by intro u hu; simp at hu; rcases hu with rfl | rfl <;> rfl) (by unfold maxLen; omega) (by omega) (by simp; omega) ?_; intro v' w8 hown' hgrow _ _))
      have hall := (World.grownBy_alloc wr _ _).trans hgrow
      have hO8 : OwnE w8 B4 v' (T1 ++ [(x, y)]) := by
        unfold OwnE
        rw [eCells_append, List.length_append, hTl2]
        exact hown'
      have hb8 : Below B4 w4 w8 := hb.out.grown hall hBs (fun jj hjj => (hoi.lt jj hjj).1)
      have hBs8 := Nat.le_trans hBs hall.size
      rw [← hdrop.out] at hO8
      exact ⟨⟨m, _, rfl, by omega, by omega, Lib.hid hb8, hBs8, Lib.hid hO8⟩, by simp [intOf]⟩
end Go.Proofs.Ytilknhackmccpaa
