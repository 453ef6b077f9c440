/- slices.IndexFunc over the closure; slices.Max; Victim. -/
import Derived.Test.YtilknhackmccpaaKntD
set_option linter.unusedVariables false
set_option linter.unusedSimpArgs false
namespace Go.Proofs.Ytilknhackmccpaa
open Go.RowKit Go.Sort Go.Maps Go.ChangeMaps Go.MapKept Go.ChangeShapes

/-- Whether z can be the way's next one. -/
def Good (f : Int → List Int) (tg : Int) (ws : List Int) (z : Int) : Prop := z ∉ ws ∧ Rch f tg (z :: ws) z

set_option maxRecDepth 100000 in
set_option maxHeartbeats 4000000 in
theorem indexf_u (V : List Int) (f : Int → List Int) (tg : Int) (B3 B5 B6 B7 B8 M base bg : Nat) (hV : ∀ n z, z ∈ f n → z ∈ V ∧ U z) (ws zs : List Int) (s0 wv v : Value) (w : World) (HK : Knot w f tg B3 B5 B6 B7 M)
    (h6 : Box1 w B6 s0 66) (h8 : Box1 w B8 wv 24) (hw : w.ownsInts base 23 .u32 wv ws) (h78 : B7 < B8) (h67 : B5 < B6 ∧ B6 < B7) (hb : B7 < base) (hl : ws.length + V.length < 1000000000)
    (hz : w.ownsInts bg 23 .u32 v zs) (hz6 : v.ownBlock ≠ some B6) (hzl : zs.length < 4294967296) :
    Calls Try.prog 38 #[v, .func (.func 39) #[] #[.pointer (some ⟨B6, 0, none⟩), .pointer (some ⟨B8, 0, none⟩), .pointer (some ⟨B7, 0, none⟩)]] w fun e w' =>
      (∃ s', Box1 w' B6 s' 66) ∧ w.grownBy w' (some B6) ∧ ((∃ k : Nat, e = .returned (.int .i64 k) ∧ k < zs.length ∧ Good f tg ws (zs.getD k 0) ∧ ∀ i, i < k → ¬ Good f tg ws (zs.getD i 0)) ∨ (e = .returned (.int .i64 (-1)) ∧ ∀ i, i < zs.length → ¬ Good f tg ws (zs.getD i 0))) := by
  obtain ⟨a', cap', rfl, hcell⟩ := own_form hz
  obtain ⟨L, hL⟩ : ∃ L, zs.length = L := ⟨_, rfl⟩
  rw [hL] at hcell hzl hz6
  have hUz : ∀ i, i < L → U (zs.getD i 0) := fun i hi => by
    have : zs.getD i 0 = zs[i]'(by omega) := by simp [List.getD_eq_getElem?_getD, List.getElem?_eq_getElem (show i < zs.length by omega)]
    rw [this]
    exact U.of (hz.2 _ (List.getElem_mem _))
  have hHK := Lib.hid HK
  clear HK hz
  rw [hL]
  go_enter Try.func38, Try.ntmps38
  go_wp2
  go_loopw [8] (fun vi wr => ∃ (j : Nat) (s1 : Value), vi = .int .i64 j ∧ j ≤ L ∧ Box1 wr B6 s1 66 ∧ w.grownBy wr (some B6) ∧ Hid (∀ i, i < j → ¬ Good f tg ws (zs.getD i 0))) (fun vi _ => L - (intOf vi).toNat)
  case atStart => exact ⟨0, s0, rfl, Nat.zero_le _, h6, World.grownBy.refl _ _, Lib.hid fun i hi => absurd hi (Nat.not_lt_zero _)⟩
  case round =>
    obtain ⟨j, s1, rfl, hj, h6r, gr, hN⟩ := hrel
    by_cases hlt : j < L
    · obtain ⟨g, rfl, _, hgl, _, hcj⟩ := hcell j hlt
      obtain ⟨x, hx⟩ : ∃ x, zs.getD j 0 = x := ⟨_, rfl⟩
      have hux := hUz j hlt
      rw [hx] at hcj hux
      have cj := (gr.cell_far ⟨g, j, none⟩ hgl (by simpa [Value.ownBlock] using hz6)).trans hcj
      have hKr := hHK.out.kept gr (fun R e => by cases e; omega)
      have h8r := h8.kept gr (by simp; omega)
      have hwr := hw.kept gr (.inr fun e => by have := (hw.1.lt B6 e).1; omega)
      have hcall := pred_u V f tg B3 B5 B6 B7 B8 M base hV x ws s1 wv wr hux hKr h6r h8r hwr h78 h67 hb hl
      clear hKr h8r hwr
      go_wp2_with (go_at_call 39; refine hcall.mono ?_; rintro e w2 ⟨r, s2, rfl, hr, h62, g2⟩; replace hr := Lib.hid hr)
      · have hrT : r = true := by assumption
        go_ret
        refine ⟨⟨_, h62⟩, gr.trans g2, .inl ⟨j, rfl, hlt, by rw [hx]; exact hr.out.1 hrT, hN.out⟩⟩
      · have hrF : r = false := by assumption
        refine ⟨⟨j + 1, s2, by go_num, by omega, h62, gr.trans g2, Lib.hid fun i hi => ?_⟩, by simp [intOf]; omega⟩
        rcases Nat.lt_or_ge i j with h | h
        · exact hN.out i h
        · have : i = j := by omega
          rw [this, hx]
          intro hg
          have := hr.out.2 hg
          rw [hrF] at this
          cases this
    · have hjL : j = L := by omega
      subst hjL
      go_wp2
      go_ret
      exact ⟨⟨_, h6r⟩, gr, .inr ⟨rfl, hN.out⟩⟩

/-- The greatest. -/
def maxL : List Int → Int
  | [] => 0
  | x :: r => r.foldl max x
theorem max_fold : ∀ (l : List Int) (m : Int), m ≤ l.foldl max m ∧ (∀ z ∈ l, z ≤ l.foldl max m) ∧ (l.foldl max m = m ∨ l.foldl max m ∈ l)
  | [], m => ⟨Int.le_refl _, by simp, .inl rfl⟩
  | x :: r, m => by
    obtain ⟨h1, h2, h3⟩ := max_fold r (max m x)
    simp only [List.foldl_cons]
    refine ⟨by omega, fun z hz => ?_, ?_⟩
    · rcases List.mem_cons.1 hz with rfl | hz
      · omega
      · exact h2 z hz
    · rcases h3 with h3 | h3
      · rcases Int.le_total m x with h | h
        · rw [h3, Int.max_eq_right h]; exact .inr (by simp)
        · rw [h3, Int.max_eq_left h]; exact .inl rfl
      · exact .inr (by simp [h3])
theorem maxL_mem {l : List Int} (h : l ≠ []) : maxL l ∈ l := by
  rcases l with _ | ⟨x, r⟩
  · exact absurd rfl h
  · simp only [maxL]
    rcases (max_fold r x).2.2 with e | e
    · rw [e]; simp
    · simp [e]
theorem maxL_ge {l : List Int} {z : Int} (h : z ∈ l) : z ≤ maxL l := by
  rcases l with _ | ⟨x, r⟩
  · simp at h
  · simp only [maxL]
    rcases List.mem_cons.1 h with rfl | h
    · exact (max_fold r z).1
    · exact (max_fold r x).2.1 z h

/-- Numbers that lie behind an address. -/
def Nums (w : World) (a : Option Addr) (l : List Int) : Prop :=
  l ≠ [] → ∃ eb off, a = some ⟨eb, off, none⟩ ∧ eb < w.heap.size ∧ ∀ i, i < l.length → w.cell? ⟨eb, off + i, none⟩ = some (.int .u32 (l.getD i 0))
theorem own_nums {w : World} {base : Nat} {v : Value} {zs : List Int} (h : w.ownsInts base 23 .u32 v zs) : ∃ a cap, v = .slice a zs.length cap ∧ Nums w a zs := by
  rcases own_cases h with ⟨rfl, rfl⟩ | ⟨g, cap, rfl, hb, hn, hc, hR⟩
  · exact ⟨none, 0, rfl, fun h => absurd rfl h⟩
  · refine ⟨_, cap, rfl, fun _ => ⟨g, 0, rfl, hR.lt, fun i hi => ?_⟩⟩
    rw [Nat.zero_add, hR.cell (by simpa using hi), getElem!_pos zs.toArray i (by simpa using hi)]
    simp [List.getD_eq_getElem?_getD, List.getElem?_eq_getElem hi]

set_option maxRecDepth 100000 in
set_option maxHeartbeats 1000000 in
theorem max_u (a : Option Addr) (n cap : Nat) (l : List Int) (w : World) (hN : Nums w a l) (hn : l.length = n) (h0 : 0 < n) (hsz : n < 4294967296) (hU : ∀ z ∈ l, U z) :
    Calls Try.prog 43 #[.slice a n cap] w fun e w' => e = .returned (.int .u32 (maxL l)) ∧ w' = w := by
  obtain ⟨eb, off, rfl, _, hc⟩ := hN (by rintro rfl; simp at hn; omega)
  have c0 := hc 0 (by omega)
  obtain ⟨x, r, rfl⟩ : ∃ x r, l = x :: r := by
    rcases l with _ | ⟨x, r⟩
    · simp at hn; omega
    · exact ⟨x, r, rfl⟩
  have e0 : (x :: r).getD 0 0 = x := rfl
  rw [e0] at c0
  simp only [Nat.add_zero] at c0
  have h1i : ¬ (n : Int) < 1 := by omega
  go_enter Try.func43, Try.ntmps43
  go_wp2
  go_loopw [4, 3] (fun vi vm wr => ∃ j : Nat, vi = .int .i64 j ∧ 1 ≤ j ∧ j ≤ n ∧ vm = .int .u32 ((r.take (j - 1)).foldl max x) ∧ wr = w) (fun vi _ _ => n - (intOf vi).toNat)
  case atStart => exact ⟨1, rfl, Nat.le_refl _, h0, rfl, rfl⟩
  case round =>
    obtain ⟨j, rfl, hj1, hj, rfl, rfl⟩ := hrel
    by_cases hlt : j < n
    · have cj := hc j (by omega)
      obtain ⟨y, hy⟩ : ∃ y, (x :: r).getD j 0 = y := ⟨_, rfl⟩
      obtain ⟨m, hm⟩ : ∃ m, (r.take (j - 1)).foldl max x = m := ⟨_, rfl⟩
      rw [hy] at cj
      rw [hm]
      go_wp2
      go_roundw
      case rel =>
        refine ⟨j + 1, by go_num, by omega, by omega, ?_, by first | rfl | trivial⟩
        have hy' : r[j - 1]? = some y := by
          have h1 : (x :: r)[j]? = some y := by
            rw [List.getElem?_eq_getElem (show j < (x :: r).length by omega), ← hy]
            simp [List.getD_eq_getElem?_getD, List.getElem?_eq_getElem (show j < (x :: r).length by omega)]
          obtain ⟨i, rfl⟩ : ∃ i, j = i + 1 := ⟨j - 1, by omega⟩
          simpa using h1
        have e1 : (r.take (j + 1 - 1)).foldl max x = max m y := by
          obtain ⟨i, rfl⟩ : ∃ i, j = i + 1 := ⟨j - 1, by omega⟩
          simp only [Nat.add_sub_cancel] at hy' hm ⊢
          rw [List.take_add_one, hy', Option.toList_some, List.foldl_append, hm]
          rfl
        rw [e1]
        have h2 : ∀ h : j < (x :: r).length, (x :: r)[j] = y := fun h => by
          rw [← hy]
          simp [List.getD_eq_getElem?_getD, List.getElem?_eq_getElem h]
        rw [h2 (by omega)]
      case measure => simp [intOf]; omega
    · have : j = n := by omega
      subst this
      go_wp2
      go_ret
      have e2 : (r.take (j - 1)) = r := List.take_of_length_le (by simp at hn; omega)
      refine ⟨?_, by first | rfl | trivial⟩
      show Ending.returned (.int .u32 ((r.take (j - 1)).foldl max x)) = _
      rw [e2]
      rfl
/-- Victim. -/
theorem victim_u (a : Option Addr) (n cap : Nat) (l : List Int) (w : World) (hN : Nums w a l) (hn : l.length = n) (hsz : n < 4294967296) (hU : ∀ z ∈ l, U z) :
    Calls Try.prog 17 #[.slice a n cap] w fun e w' => e = .returned (.tuple #[.int .u32 (maxL l), .bool (decide (l ≠ []))]) ∧ w' = w := by
  by_cases h0 : n = 0
  · have hl : l = [] := List.eq_nil_of_length_eq_zero (by omega)
    subst hl
    subst h0
    go_enter Try.func17, Try.ntmps17
    go_wp2
    go_ret2
    exact ⟨rfl, rfl⟩
  · have h0i : ((n : Int) == 0) = false := by simp; omega
    have hl : l ≠ [] := by rintro rfl; simp at hn; omega
    have hM := max_u a n cap l w hN hn (by omega) hsz hU
    have hd : decide (l ≠ []) = true := by simpa using hl
    rw [hd]
    go_enter Try.func17, Try.ntmps17
    go_wp2_with (go_at_call 43; refine hM.mono ?_; intro e w' h; rw [h.1, h.2]; clear h w' e)
    go_ret2
    exact ⟨rfl, rfl⟩
end Go.Proofs.Ytilknhackmccpaa
