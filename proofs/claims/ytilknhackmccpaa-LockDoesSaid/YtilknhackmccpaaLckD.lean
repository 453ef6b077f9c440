/- Package lock: slices.DeleteFunc at wants; without. -/
import Derived.Test.YtilknhackmccpaaLckC
set_option linter.unusedVariables false
set_option linter.unusedSimpArgs false
namespace Go.Proofs.Ytilknhackmccpaa
open Go.RowKit Go.Sort Go.Lib

/-- All but those of t. -/
def notL (l : List (Int × Int)) (t : Int) : List (Int × Int) := l.filter fun p => !(p.1 == t)
theorem of_call (t : Int) (B : Nat) (W : World) (x : Int × Int) (hB : B < W.heap.size) (hc : W.cell? ⟨B, 0, none⟩ = some (.int .u32 t)) :
    Calls Try.prog 80 #[.agg #[.int .u32 x.1, .int .u8 x.2], .pointer (some ⟨B, 0, none⟩)] W fun e w' => e = .returned (.bool (x.1 == t)) ∧ RowKit.Below W.heap.size W w' :=
  of_pred t B W hB hc W x (RowKit.Below.refl _ _)
theorem notL_take {l : List (Int × Int)} {t : Int} {j : Nat} (hj : j < l.length) : notL (l.take (j + 1)) t = notL (l.take j) t ++ (if (l.getD j (0, 0)).1 == t then [] else [l.getD j (0, 0)]) := by
  have e : l.getD j (0, 0) = l[j] := by simp [List.getD_eq_getElem?_getD, List.getElem?_eq_getElem hj]
  rw [e, notL, List.take_succ_eq_append_getElem hj, List.filter_append]
  simp only [List.filter_cons, List.filter_nil, notL]
  cases (l[j].1 == t) <;> simp
theorem notL_none {l : List (Int × Int)} {t : Int} (h : ∀ p ∈ l, p.1 ≠ t) : notL l t = l := by
  rw [notL, List.filter_eq_self]
  intro p hp
  simpa using h p hp

set_option maxRecDepth 100000 in
set_option maxHeartbeats 4000000 in
theorem delf_u (g N cap : Nat) (l : List (Int × Int)) (t : Int) (B n : Nat) (w : World) (hR : RW w g N l) (hn : l.length = n) (hcap : n ≤ cap) (hN : N ≤ maxLen) (hB : B < w.heap.size) (hcell : w.cell? ⟨B, 0, none⟩ = some (.int .u32 t)) (hBg : B ≠ g) :
    Calls Try.prog 71 #[.slice (some ⟨g, 0, none⟩) n cap, .func (.func 80) #[] #[.pointer (some ⟨B, 0, none⟩)]] w fun e w' =>
      e = .returned (.slice (some ⟨g, 0, none⟩) (notL l t).length cap) ∧ RW w' g N (notL l t) ∧ w.grownBy w' (some g) := by
  have hI := idx_u _ l t B w (hR.wants hN cap (by omega)) hB hcell
  rw [hn] at hI
  have hnb : n ≤ 9223372036854775807 := by
    have : l.length ≤ N := by obtain ⟨_, _, _, h3, _⟩ := hR; exact h3
    unfold maxLen at hN
    omega
  rcases modeL_idx l t with ⟨k, h1, h2, _, h4, h5⟩ | ⟨h2, _, h4⟩
  · rw [h2] at hI
    have hki : ((k : Int) == -1) = false := beq_eq_false_iff_ne.2 (by omega)
    have hT0 : l.take k = notL (l.take (k + 1)) t := by
      rw [notL_take h1, h4]
      simp only [beq_self_eq_true, if_true, List.append_nil]
      refine (notL_none fun p hp => ?_).symm
      obtain ⟨j, hj, e⟩ := List.mem_iff_getElem.1 hp
      rw [List.length_take] at hj
      have := h5 j (by omega)
      rw [List.getElem_take] at e
      rw [List.getD_eq_getElem?_getD, List.getElem?_eq_getElem (by omega)] at this
      rw [← e]
      exact this
    replace hT0 := Lib.hid hT0
    clear h2 h4 h5
    go_enter Try.func71, Try.ntmps71
    go_wp2_with (go_at_call 62; refine hI.mono ?_; rintro e w2 ⟨rfl, b2⟩)
    have g2 := grew b2
    have hR2 := hR.kept g2 (by simp)
    have hc2 := (b2.cell (p := ⟨B, 0, none⟩) hB).trans hcell
    have hBw2 := Nat.lt_of_lt_of_le hB b2.size
    have hF0 : Hid (RW w2 g N l ∧ w.grownBy w2 (some g) ∧ l.length = n ∧ l.take k = notL (l.take (k + 1)) t ∧ l.drop (k + 1) = l.drop (k + 1)) := Lib.hid ⟨hR2, g2.but _, hn, hT0.out, rfl⟩
    clear hI b2
    go_loopw [5, 6] (fun v5 v6 wr => ∃ (i j : Nat) (d : List (Int × Int)), v5 = .int .i64 i ∧ v6 = .int .i64 j ∧ i < j ∧ j ≤ n ∧ Hid (RW wr g N d ∧ w.grownBy wr (some g) ∧ d.length = n ∧ d.take i = notL (l.take j) t ∧ d.drop j = l.drop j)) (fun _ v6 _ => n - (intOf v6).toNat)
    case atStart => exact ⟨k, k + 1, l, rfl, by go_num, by omega, by omega, hF0⟩
    case round =>
      clear hF0 g2 hR2 hc2 hBw2
      obtain ⟨i, j, d, rfl, rfl, hij, hj, hF⟩ := hrel
      have hRd := hF.out.1
      have hg := hF.out.2.1
      have hdn := hF.out.2.2.1
      have hcB := (hg.cell_far ⟨B, 0, none⟩ hB (by simpa using hBg)).trans hcell
      have hBr := Nat.lt_of_lt_of_le hB hg.size
      by_cases hjn : j < n
      · have hjni : (j : Int) < (n : Int) := by omega
        have hgd : d.getD j (0, 0) = l.getD j (0, 0) := by
          have h : (d.drop j)[0]? = (l.drop j)[0]? := by rw [hF.out.2.2.2.2]
          rw [List.getElem?_drop, List.getElem?_drop, Nat.add_zero] at h
          rw [List.getD_eq_getElem?_getD, List.getD_eq_getElem?_getD, h]
        obtain ⟨cj1, cj2⟩ := hRd.cells (i := j) (by omega)
        rw [hgd] at cj1 cj2
        have hnt := notL_take (l := l) (t := t) (j := j) (by omega)
        obtain ⟨x, hx⟩ : ∃ x, l.getD j (0, 0) = x := ⟨_, rfl⟩
        rw [hx] at cj1 cj2 hnt hgd
        obtain ⟨xa, xb⟩ := x
        simp only at cj1 cj2
        have k3 := heap_alloc_new wr (.cells #[.int .u32 xa, .int .u8 xb] 77)
        have b3 := below_alloc wr (.cells #[.int .u32 xa, .int .u8 xb] 77)
        obtain ⟨X, hX⟩ : ∃ X, wr.heap.size = X := ⟨_, rfl⟩
        obtain ⟨w3, hw3⟩ : ∃ y, wr.alloc (.cells #[.int .u32 xa, .int .u8 xb] 77) = y := ⟨_, rfl⟩
        rw [hw3] at k3 b3
        rw [hX] at k3
        have hcall := of_call t B w3 (xa, xb) (Nat.lt_of_lt_of_le hBr b3.size) ((b3.cell (p := ⟨B, 0, none⟩) hBr).trans hcB)
        have e0 : w3.cell? ⟨X, 0, none⟩ = some (.int .u32 xa) := by rw [cell_of_heap k3]; rfl
        have e1 : w3.cell? ⟨X, 1, none⟩ = some (.int .u8 xb) := by rw [cell_of_heap k3]; rfl
        have hXl : X < w3.heap.size := (Array.getElem?_eq_some_iff.1 k3).1
        have hR3 := hRd.kept (grew b3) (by simp)
        have g3 := hg.trans ((grew b3).but (some g))
        simp only at hcall
        replace hF := Lib.hid hF.out
        replace hx := Lib.hid hx
        replace hgd := Lib.hid hgd
        replace hdn := Lib.hid hdn
        by_cases hxt : xa = t
        · have hb : (xa == t) = true := by simpa using hxt
          rw [hb] at hcall hnt
          simp only [if_true, List.append_nil] at hnt
          replace hnt := Lib.hid hnt
          replace hxt := Lib.hid hxt
          have hdr : d.drop (j + 1) = l.drop (j + 1) := by
            have := congrArg (List.drop 1) hF.out.2.2.2.2
            simpa [List.drop_drop] using this
          replace hdr := Lib.hid hdr
          go_wp2_with (go_at_call 80; refine hcall.mono ?_; rintro e w4 ⟨rfl, b4⟩)
          have hF4 : Hid (RW w4 g N d ∧ w.grownBy w4 (some g) ∧ d.length = n ∧ d.take i = notL (l.take (j + 1)) t ∧ d.drop (j + 1) = l.drop (j + 1)) := Lib.hid ⟨hR3.kept (grew b4) (by simp), g3.trans ((grew b4).but _), hdn.out, hF.out.2.2.2.1.trans hnt.out.symm, hdr.out⟩
          first
            | exact ⟨⟨i, j + 1, d, rfl, by go_num, by omega, by omega, hF4⟩, by simp [intOf]; omega⟩
            | (refine ⟨?_, by simp [intOf]; omega⟩
               repeat apply Exists.intro
               refine ⟨?_, rfl⟩
               exact ⟨i, j + 1, d, rfl, by go_num, by omega, by omega, hF4⟩)
        · have hb : (xa == t) = false := by simpa using hxt
          rw [hb] at hcall hnt
          simp only [Bool.false_eq_true, if_false] at hnt
          replace hnt := Lib.hid hnt
          replace hxt := Lib.hid hxt
          have hdr : (d.set i (xa, xb)).drop (j + 1) = l.drop (j + 1) := by
            rw [List.drop_set_of_lt (by omega)]
            have := congrArg (List.drop 1) hF.out.2.2.2.2
            simpa [List.drop_drop] using this
          have htk : (d.set i (xa, xb)).take (i + 1) = notL (l.take (j + 1)) t := by
            rw [hnt.out, ← hF.out.2.2.2.1, List.take_succ_eq_append_getElem (by simp; have := hdn.out; omega), List.take_set_of_le (Nat.le_refl _)]
            simp
          replace hdr := Lib.hid hdr
          replace htk := Lib.hid htk
          go_wp2_with (go_at_call 80; refine hcall.mono ?_; rintro e w4 ⟨rfl, b4⟩; have f0 := (b4.cell (p := ⟨X, 0, none⟩) hXl).trans e0; have f1 := (b4.cell (p := ⟨X, 1, none⟩) hXl).trans e1; have hR4 := hR3.kept (grew b4) (by simp); obtain ⟨ci1, ci2⟩ := hR4.cells (i := i) (by have := hdn.out; omega); have z1 := hR4.froz (i * 2); have z2 := hR4.froz (i * 2 + 1))
          have g4 := g3.trans ((grew b4).but (some g))
          have hRs := hR4.set (i := i) (by have := hdn.out; omega) (xa, xb)
          have g5 := (g4.trans (grown_set w4 g (i * 2) (.int .u32 xa))).trans (grown_set _ g (i * 2 + 1) (.int .u8 xb))
          exact ⟨⟨i + 1, j + 1, d.set i (xa, xb), by go_num, by go_num, by omega, by omega, Lib.hid ⟨hRs, g5, by rw [List.length_set]; exact hdn.out, htk.out, hdr.out⟩⟩, by simp [intOf]; omega⟩
      · have : j = n := by omega
        subst this
        have hfin : d.take i = notL l t := by
          have := hF.out.2.2.2.1
          rw [← hn, List.take_length] at this
          exact this
        obtain ⟨m, hm⟩ : ∃ m, j - i = m := ⟨_, rfl⟩
        obtain ⟨wc, hcl, hRc, gc⟩ := run_clear_w hRd i (j - i) (cap - i) (by omega)
        have hlen : (notL l t).length = i := by rw [← hfin, List.length_take]; omega
        replace hlen := Lib.hid hlen
        rw [hfin] at hRc
        have gT := hg.trans gc
        replace hRc := Lib.hid hRc
        replace gT := Lib.hid gT
        have hij1 : (i : Int) ≤ (j : Int) := by omega
        have hic : (i : Int) ≤ (cap : Int) := by omega
        have hjc : (j : Int) ≤ (cap : Int) := by omega
        clear hF hRd hR hn hdn hm hfin
        go_wp2
        go_ret
        exact ⟨by rw [hlen.out]; rfl, hRc.out, gT.out⟩
  · rw [h2] at hI
    have hnl := Lib.hid (notL_none h4)
    rw [hnl.out]
    clear h2 h4
    go_enter Try.func71, Try.ntmps71
    go_wp2_with (go_at_call 62; refine hI.mono ?_; rintro e w2 ⟨rfl, b2⟩)
    go_ret
    exact ⟨by rw [hn]; rfl, hR.kept (grew b2) (by simp), (grew b2).but _⟩
end Go.Proofs.Ytilknhackmccpaa
