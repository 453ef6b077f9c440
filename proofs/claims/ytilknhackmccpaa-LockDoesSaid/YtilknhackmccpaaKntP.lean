/- Slices of edges of the call's own; the law KnotVictims: its walk. -/
import Derived.Test.YtilknhackmccpaaKntO
set_option linter.unusedVariables false
set_option linter.unusedSimpArgs false
namespace Go.Proofs.Ytilknhackmccpaa
open Go.RowKit Go.Sort Go.Maps Go.ChangeMaps Go.MapKept Go.ChangeShapes

theorem info_e : (Try.prog.info? 35).map (fun i => (i.zero, i.size, i.bytes)) = some (some (.agg #[.int .u32 0, .int .u32 0]), 2, 8) := by kernel_rfl
def eCells (l : List (Int × Int)) : List Value := l.flatMap fun p => [.int .u32 p.1, .int .u32 p.2]
theorem eCells_append (a b : List (Int × Int)) : eCells (a ++ b) = eCells a ++ eCells b := by simp [eCells]
theorem eCells_length (l : List (Int × Int)) : (eCells l).length = l.length * 2 := by
  induction l with
  | nil => rfl
  | cons p r ih => simp only [eCells, List.flatMap_cons, List.length_append, List.length_cons, List.length_nil] at ih ⊢; omega
theorem eCells_at : ∀ (l : List (Int × Int)) (i : Nat), i < l.length → (eCells l)[i * 2]? = some (.int .u32 (l.getD i (0, 0)).1) ∧ (eCells l)[i * 2 + 1]? = some (.int .u32 (l.getD i (0, 0)).2)
  | [], i, h => by simp at h
  | p :: r, 0, _ => ⟨rfl, rfl⟩
  | p :: r, i + 1, h => by
    have := eCells_at r i (by simpa using h)
    have e1 : (i + 1) * 2 = i * 2 + 2 := by omega
    rw [e1]
    simpa [eCells] using this
theorem eCells_one (l : List (Int × Int)) : ∀ u ∈ eCells l, u.oneCell' = true := by
  intro u hu
  simp only [eCells, List.mem_flatMap, List.mem_cons, List.not_mem_nil, or_false] at hu
  obtain ⟨p, _, rfl | rfl⟩ := hu <;> rfl
/-- A slice of edges of the call's own. -/
def OwnE (w : World) (base : Nat) (v : Value) (l : List (Int × Int)) : Prop := w.ownsRow base 35 2 v l.length (eCells l)
theorem OwnE.edg {w : World} {base : Nat} {v : Value} {l : List (Int × Int)} (h : OwnE w base v l) : ∃ a cap, v = .slice a l.length cap ∧ Edg w a l := by
  rcases h.2 with ⟨rfl, h0⟩ | ⟨g, cap, cur, rfl, hb, hg, hn, hc, hs, ht⟩
  · have : l = [] := List.eq_nil_of_length_eq_zero h0
    subst this
    exact ⟨none, 0, rfl, fun h => absurd rfl h⟩
  · refine ⟨_, cap, rfl, edg_block hg fun i hi => ?_⟩
    obtain ⟨h1, h2⟩ := eCells_at l i hi
    rw [← ht] at h1 h2
    rw [List.getElem?_take_of_lt (by omega)] at h1 h2
    exact ⟨by rw [← Array.getElem?_toList]; exact h1, by rw [← Array.getElem?_toList]; exact h2⟩
theorem OwnE.nil (w : World) (base : Nat) : OwnE w base (.slice none 0 0) [] := World.ownsRow_nil _ _ _ _
/-- Edges without those of x. -/
def rid (x : Int) (l : List (Int × Int)) : List (Int × Int) := l.filter fun p => p.1 != x && p.2 != x
theorem rid_ring {l : List (Int × Int)} {tg : Int} (hne : cyc l tg ≠ []) : cyc (rid (maxL (cyc l tg)) l) tg ≠ cyc l tg := by
  intro e
  have h2 := cyc_ring (l := rid (maxL (cyc l tg)) l) (tg := tg) (by rw [e]; exact hne)
  rw [e] at h2
  obtain ⟨i, hi, hx⟩ := List.mem_iff_getElem.1 (maxL_mem hne)
  have h3 := h2.next hi
  have h4 : (cyc l tg).getD i 0 = maxL (cyc l tg) := by rw [List.getD_eq_getElem?_getD, List.getElem?_eq_getElem hi]; exact hx
  rw [h4] at h3
  have h5 := (List.mem_filter.1 h3).2
  simp at h5
theorem rid_take {x : Int} {l : List (Int × Int)} {k : Nat} (hk : k < l.length) : rid x (l.take (k + 1)) = rid x (l.take k) ++ (if (l.getD k (0, 0)).1 != x && (l.getD k (0, 0)).2 != x then [l.getD k (0, 0)] else []) := by
  have : l.getD k (0, 0) = l[k] := by simp [List.getD_eq_getElem?_getD, List.getElem?_eq_getElem hk]
  rw [this, rid, rid, List.take_succ_eq_append_getElem hk, List.filter_append]
  simp only [List.filter_cons, List.filter_nil]

set_option maxRecDepth 100000 in
set_option maxHeartbeats 4000000 in
theorem victims_walk (w : World) (l : List (Int × Int)) (v : Value) (hv : EdgesIn w v l) (tg : Int) (t1 : 0 ≤ tg) (t2 : tg ≤ 4294967295) :
    Calls Try.prog 6 #[v, .int .u32 tg] w fun e w' => e = .returned (.bool true) ∧ Below w.heap.size w w' := by
  obtain ⟨a, cap, rfl, hE, hU⟩ := hv
  obtain ⟨n, hn⟩ : ∃ n, l.length = n := ⟨_, rfl⟩
  rw [hn]
  have htg : U tg := ⟨t1, t2⟩
  by_cases h40 : 40 < n
  · have h40i : (40 : Int) < (n : Int) := by omega
    have hK := known_u w
    go_enter Try.func6, Try.ntmps6
    go_wp2_with (go_at_call 14; refine hK.mono ?_; rintro e w1 ⟨rfl, b1⟩)
    go_ret
    exact ⟨rfl, b1⟩
  · have h40i : ¬ (40 : Int) < (n : Int) := by omega
    have hK := known_u w
    obtain ⟨i0, hi0, hz0, hz1, hz2⟩ := info_parts info_e
    go_enter Try.func6, Try.ntmps6
    go_upto_region 3 with (go_at_call 14; refine hK.mono ?_; rintro e w1 ⟨rfl, b1⟩)
    have hE1 := hE.keep b1 (Nat.le_refl _)
    have hC := cycle_u a n cap l tg w1 hE1 hU hn (by omega) htg
    clear hK
    go_upto_region 4 with (go_at_call 15; refine hC.mono ?_; rintro e w2 ⟨vr, rfl, ho, b2⟩)
    have hE2 := hE1.keep b2 (Nat.le_refl _)
    have bb : Below w.heap.size w w2 := b1.trans (b2.mono b1.size)
    have hlen := cyc_length hU (tg := tg)
    have hring := cyc_ring (l := l) (tg := tg)
    have hUr := cyc_U hU htg
    obtain ⟨r, hr⟩ : ∃ r, cyc l tg = r := ⟨_, rfl⟩
    rw [hr] at ho hlen hring hUr
    obtain ⟨ar, cr, rfl, hNr⟩ := own_nums ho
    obtain ⟨L, hL⟩ : ∃ L, r.length = L := ⟨_, rfl⟩
    rw [hL] at hlen ⊢
    have hV := victim_u ar L cr r w2 hNr hL (by omega) hUr
    obtain ⟨mx, hmx⟩ : ∃ m, maxL r = m := ⟨_, rfl⟩
    obtain ⟨isv, his⟩ : ∃ b, decide (r ≠ []) = b := ⟨_, rfl⟩
    rw [hmx, his] at hV
    have hisL : isv = decide ((0 : Int) < (L : Int)) := by
      rw [← his]
      have : r ≠ [] ↔ (0 : Int) < (L : Int) := by rw [← hL, ← List.length_pos_iff]; omega
      by_cases h : r ≠ []
      · rw [decide_eq_true h, decide_eq_true (this.1 h)]
      · rw [decide_eq_false h, decide_eq_false (fun h' => h (this.2 h'))]
    have hr0 := Lib.hid hr
    replace hisL := Lib.hid hisL
    replace his := Lib.hid his
    clear hC ho hE1 b1 b2 hr
    go_upto_region 5 with (go_at_call 17; refine hV.mono ?_; intro e w' h; rw [h.1, h.2]; clear h w' e)
    clear hV
    go_wp2
    go_loopw [8, 9] (fun v8 v9 wr => ∃ (i : Nat) (inb : Bool), v8 = .bool inb ∧ v9 = .int .i64 i ∧ i ≤ L ∧ wr = w2 ∧ Hid (inb = true ↔ mx ∈ r.take i)) (fun _ v9 _ => L - (intOf v9).toNat)
    case atStart => exact ⟨0, false, rfl, rfl, Nat.zero_le _, rfl, Lib.hid (by simp)⟩
    case round =>
      obtain ⟨i, inb, rfl, rfl, hi, rfl, hin⟩ := hrel
      by_cases hlt : i < L
      · have hlti : (i : Int) < (L : Int) := by omega
        obtain ⟨eb, off, rfl, hc⟩ := hNr.at (i := i) (by omega)
        obtain ⟨y, hy⟩ : ∃ x, r.getD i 0 = x := ⟨_, rfl⟩
        have c1 := hc i (by omega)
        rw [hy] at c1
        have hyr : y ∈ r := by
          rw [← hy, List.getD_eq_getElem?_getD, List.getElem?_eq_getElem (show i < r.length by omega)]
          exact List.getElem_mem _
        have hle : ¬ mx < y := by
          have := maxL_ge hyr
          omega
        have hta := Lib.hid (take_any (s := r) (by omega) hin.out)
        rw [hy] at hta
        obtain ⟨nb, hnb⟩ : ∃ b, (inb || (y == mx)) = b := ⟨_, rfl⟩
        rw [hnb] at hta
        clear hc
        replace hyr := Lib.hid hyr
        cases inb
        all_goals (
          simp only [Bool.false_or, Bool.true_or] at hnb
          subst hnb
          go_wp2
          first
            | exact ⟨⟨i + 1, _, rfl, by go_num, by omega, by first | rfl | trivial, by first | exact hta | exact Lib.hid (by simpa using hta.out)⟩, by simp [intOf]; omega⟩
            | (go_roundw
               case rel => exact ⟨i + 1, _, rfl, by go_num, by omega, by first | rfl | trivial, by first | exact hta | exact Lib.hid (by simpa using hta.out)⟩
               case measure => simp [intOf]; omega))
      · have hiL : L = i := by omega
        subst hiL
        have hinb : inb = isv := by
          have h1 := hin.out
          rw [← hL, List.take_length] at h1
          rw [← his.out]
          by_cases h : r ≠ []
          · rw [decide_eq_true h]
            exact h1.2 (by rw [← hmx]; exact maxL_mem h)
          · rw [decide_eq_false h]
            have h' : r = [] := Classical.byContradiction h
            cases inb
            · rfl
            · have := h1.1 rfl
              rw [h'] at this
              simp at this
        rw [hinb]
        clear hinb
        have bL := Lib.hid bb
        clear hin hi hlt
        obtain ⟨B, hB⟩ : ∃ B, wr.heap.size = B := ⟨_, rfl⟩
        obtain ⟨wz, hwz⟩ : ∃ x, x = wr := ⟨_, rfl⟩
        have hEz : Edg wz a l := by rw [hwz]; exact hE2
        have hNz : Nums wz ar r := by rw [hwz]; exact hNr
        have hBz : wz.heap.size = B := by rw [hwz]; exact hB
        have bz : Hid (Below w.heap.size w wz) := Lib.hid (by rw [hwz]; exact bb)
        have hO0 : Hid (OwnE wz B (.slice none 0 0) (rid mx (l.take 0))) := Lib.hid (OwnE.nil _ _)
        rw [← hwz]
        clear hE2 hNr bb bL hB hwz
        go_wp2
        go_loopw [10, 11] (fun v10 v11 wr => ∃ k : Nat, v11 = .int .i64 k ∧ k ≤ n ∧ Hid (Below B wz wr) ∧ B ≤ wr.heap.size ∧ Hid (OwnE wr B v10 (rid mx (l.take k)))) (fun _ v11 _ => n - (intOf v11).toNat)
        case atStart => exact ⟨0, rfl, Nat.zero_le _, Lib.hid (Below.refl _ _), by omega, hO0⟩
        case round =>
          clear hO0
          obtain ⟨k, rfl, hk, hb, hBs, hO⟩ := hrel
          by_cases hkn : k < n
          · have hkni : (k : Int) < (n : Int) := by omega
            obtain ⟨eb, off, rfl, hce⟩ := (hEz.keep hb.out (by omega)).at (k := k) (by omega)
            obtain ⟨ce1, ce2⟩ := hce k (by omega)
            obtain ⟨x, hx⟩ : ∃ x, (l.getD k (0, 0)).1 = x := ⟨_, rfl⟩
            obtain ⟨y, hy⟩ : ∃ x, (l.getD k (0, 0)).2 = x := ⟨_, rfl⟩
            have hpair : l.getD k (0, 0) = (x, y) := by rw [← hx, ← hy]
            have hrt := rid_take (x := mx) (l := l) (k := k) (by omega)
            rw [hpair] at hrt
            rw [hx] at ce1
            rw [hy] at ce2
            clear hce hx hy hpair
            have hrl : (rid mx (l.take k)).length ≤ k := Nat.le_trans (List.length_filter_le _ _) (by rw [List.length_take]; omega)
            obtain ⟨R1, hR1⟩ : ∃ R, rid mx (l.take k) = R := ⟨_, rfl⟩
            rw [hR1] at hrt hO hrl
            by_cases hfx : x = mx
            · have hrt2 : rid mx (l.take (k + 1)) = R1 := by rw [hrt, hfx]; simp
              have hO2 := hO
              rw [← hrt2] at hO2
              clear hrt
              replace hrt2 := Lib.hid hrt2
              go_wp2
              go_roundw
              case rel => exact ⟨k + 1, by go_num, by omega, hb, hBs, hO2⟩
              case measure => simp [intOf]; omega
            · by_cases hfy : y = mx
              · have hrt2 : rid mx (l.take (k + 1)) = R1 := by rw [hrt, hfy]; simp
                have hO2 := hO
                rw [← hrt2] at hO2
                clear hrt
                replace hrt2 := Lib.hid hrt2
                have hne1 : (x != mx) = true := by simpa using hfx
                go_wp2
                go_roundw
                case rel => exact ⟨k + 1, by go_num, by omega, hb, hBs, hO2⟩
                case measure => simp [intOf]; omega
              · have hne1 : (x != mx) = true := by simpa using hfx
                have hne2 : (y != mx) = true := by simpa using hfy
                have hrt2 : rid mx (l.take (k + 1)) = R1 ++ [(x, y)] := by rw [hrt, hne1, hne2]; simp
                clear hrt
                replace hrt2 := Lib.hid hrt2
                have hoi := hO.out
                unfold OwnE at hoi
                obtain ⟨R1l, hRl⟩ : ∃ x, R1.length = x := ⟨_, rfl⟩
                rw [hRl] at hoi hrl
                go_wp2_with (first
                  | (at_builtin; refine wpList_append_own_at _ rfl _ _ 22 rfl B 35 i0 (.agg #[.int .u32 0, .int .u32 0]) 2 8 Try.underlying22 hi0 hz0 hz1 hz2 rfl (by decide) _ _ _ rfl (hoi.alloc _) ⟨wr.heap.size, 0, none⟩ 1 1 [.int .u32 x, .int .u32 y] rfl rfl (World.news_of_block (heap_alloc_new wr _)) (by intro u hu; simp at hu; rcases hu with rfl | rfl <;> rfl) (by unfold maxLen; omega) (by omega) (by simp; omega) ?_; intro v' w8 hown' hgrow _ _))
                have hall := (World.grownBy_alloc wr _ _).trans hgrow
                have hO8 : OwnE w8 B v' (R1 ++ [(x, y)]) := by
                  unfold OwnE
                  rw [eCells_append, List.length_append, hRl]
                  exact hown'
                have hb8 : Below B wz w8 := hb.out.grown hall hBs (fun jj hjj => (hoi.lt jj hjj).1)
                have hBs8 := Nat.le_trans hBs hall.size
                rw [← hrt2.out] at hO8
                first
                  | exact ⟨⟨k + 1, by go_num, by omega, Lib.hid hb8, hBs8, Lib.hid hO8⟩, by simp [intOf]; omega⟩
                  | (refine ⟨?_, by simp [intOf]; omega⟩
                     repeat apply Exists.intro
                     refine ⟨?_, rfl⟩
                     exact ⟨k + 1, by go_num, by omega, Lib.hid hb8, hBs8, Lib.hid hO8⟩)
          · have : k = n := by omega
            subst this
            rw [← hn, List.take_length] at hO
            obtain ⟨ax, cx, rfl, hEx⟩ := hO.out.edg
            obtain ⟨R, hR⟩ : ∃ R, (rid mx l).length = R := ⟨_, rfl⟩
            have hRn : R ≤ k := by rw [← hR, ← hn]; exact List.length_filter_le _ _
            have hUr2 : UE (rid mx l) := fun p hp => hU p (List.mem_filter.1 hp).1
            have hC2 := cycle_u ax R cx (rid mx l) tg wr hEx hUr2 hR (by omega) htg
            have hne2 := rid_ring (l := l) (tg := tg)
            rw [hr0.out, hmx] at hne2
            obtain ⟨r2, hr2⟩ : ∃ r, cyc (rid mx l) tg = r := ⟨_, rfl⟩
            have hl2 := cyc_length hUr2 (tg := tg)
            rw [hr2] at hC2 hne2 hl2
            rw [hR] at hl2 ⊢
            replace hne2 := Lib.hid hne2
            replace hr2 := Lib.hid hr2
            clear hO hEx hk
            have hbW : Below w.heap.size w wr := bz.out.trans (hb.out.mono (by have := bz.out.size; omega))
            rcases Nat.eq_zero_or_pos L with h0 | h0
            · have e1 : isv = false := by rw [hisL.out, decide_eq_false (by omega)]
              subst e1
              subst h0
              go_wp2_with (go_at_call 15; refine hC2.mono ?_; rintro e w9 ⟨v9, rfl, ho9, b9⟩; obtain ⟨a9, c9, hv9, hN9⟩ := own_nums ho9; subst hv9)
              go_ret
              exact ⟨rfl, hbW.trans (b9.mono hbW.size)⟩
            · have e1 : isv = true := by rw [hisL.out, decide_eq_true (by omega)]
              subst e1
              have h0i : (0 : Int) < (L : Int) := by omega
              have hrne : r ≠ [] := by rintro rfl; simp at hL; omega
              have hd : decide (r2 = r) = false := decide_eq_false (hne2.out hrne)
              go_upto_region 19 with (go_at_call 15; refine hC2.mono ?_; rintro e w9 ⟨v9, rfl, ho9, b9⟩)
              obtain ⟨a9, c9, rfl, hN9⟩ := own_nums ho9
              obtain ⟨L9, hL9⟩ : ∃ x, r2.length = x := ⟨_, rfl⟩
              rw [hL9] at hl2 ⊢
              have hNr9 : Nums w9 ar r := (hNz.keep hb.out (by omega)).keep b9 (Nat.le_refl _)
              have hS := same_u a9 ar L9 c9 L cr r2 r w9 hN9 hNr9 hL9 hL (by omega) (by omega)
              rw [hd] at hS
              have hbW9 := hbW.trans (b9.mono hbW.size)
              go_wp2_with (go_at_call 19; refine hS.mono ?_; rintro e w10 ⟨rfl, q, rfl⟩)
              have hbT : Below w.heap.size w (w9.drewN q) := hbW9.grown (grown_drewN w9 q none) hbW9.size (fun _ h => by cases h)
              replace hbT := Lib.hid hbT
              go_ret
              exact ⟨rfl, hbT.out⟩
end Go.Proofs.Ytilknhackmccpaa
