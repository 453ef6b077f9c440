/- mancipleref14.reaches: those from which one is reached without those of a list. -/
import Derived.Test.YtilknhackmccpaaKntT
set_option linter.unusedVariables false
set_option linter.unusedSimpArgs false
namespace Go.Proofs.Ytilknhackmccpaa
open Go.RowKit Go.Sort Go.Maps Go.ChangeMaps Go.MapKept Go.ChangeShapes

/-- From x one comes to tg, without those of W. -/
inductive Bk (l : List (Int × Int)) (tg : Int) (W : List Int) : Int → Prop
  | here : Bk l tg W tg
  | step {x y : Int} : (x, y) ∈ l → x ∉ W → Bk l tg W y → Bk l tg W x
structure RFar (l : List (Int × Int)) (tg : Int) (W : List Int) (s : List Int) (i : Nat) : Prop where
  back : ∀ x ∈ s, Bk l tg W x
  head : s[0]? = some tg
  shut : ∀ j p, j < i → p ∈ l → p.2 = s.getD j 0 → p.1 ∉ W → p.1 ∈ s
structure RFar2 (l : List (Int × Int)) (tg : Int) (W : List Int) (s : List Int) (i : Nat) (y : Int) (k : Nat) : Prop where
  back : ∀ x ∈ s, Bk l tg W x
  head : s[0]? = some tg
  lt : i < s.length
  at_ : s.getD i 0 = y
  shut : ∀ j p, j < i → p ∈ l → p.2 = s.getD j 0 → p.1 ∉ W → p.1 ∈ s
  edges : ∀ p ∈ l.take k, p.2 = y → p.1 ∉ W → p.1 ∈ s
section
variable {l : List (Int × Int)} {tg : Int} {W s : List Int} {i k : Nat} {y : Int}
theorem RFar.end (h : RFar l tg W s s.length) (x : Int) : x ∈ s ↔ Bk l tg W x := by
  refine ⟨h.back x, fun hx => ?_⟩
  induction hx with
  | here => exact List.mem_of_getElem? h.head
  | step h1 h2 _ ih =>
    obtain ⟨j, hj, e⟩ := List.mem_iff_getElem.1 ih
    exact h.shut j _ hj h1 (by rw [List.getD_eq_getElem?_getD, List.getElem?_eq_getElem hj]; exact e.symm) h2
theorem RFar.in (h : RFar l tg W s i) (hi : i < s.length) : RFar2 l tg W s i (s.getD i 0) 0 := ⟨h.back, h.head, hi, rfl, h.shut, by simp⟩
theorem RFar2.out (h : RFar2 l tg W s i y k) (hk : l.length = k) : RFar l tg W s (i + 1) := by
  subst hk
  have he := h.edges
  rw [List.take_length] at he
  refine ⟨h.back, h.head, fun j p hj hp e hw => ?_⟩
  rcases Nat.lt_or_ge j i with h1 | h1
  · exact h.shut j p h1 hp e hw
  · have : j = i := by omega
    subst this
    exact he p hp (e.trans h.at_) hw
theorem RFar2.skip (h : RFar2 l tg W s i y k) (hk : k < l.length) {f t : Int} (hp : l.getD k (0, 0) = (f, t)) (hx : t ≠ y ∨ f ∈ s ∨ f ∈ W) : RFar2 l tg W s i y (k + 1) := by
  refine ⟨h.back, h.head, h.lt, h.at_, h.shut, fun p hp' e hw => ?_⟩
  rcases (mem_take_succ hk).1 hp' with h1 | h1
  · exact h.edges p h1 e hw
  · rw [hp] at h1
    subst h1
    rcases hx with h2 | h2 | h2
    · exact absurd e h2
    · exact h2
    · exact absurd h2 hw
theorem RFar2.add (h : RFar2 l tg W s i y k) (hk : k < l.length) {f : Int} (hp : l.getD k (0, 0) = (f, y)) (hw : f ∉ W) : RFar2 l tg W (s ++ [f]) i y (k + 1) := by
  have hl := h.lt
  have hget : ∀ j, j < s.length → (s ++ [f]).getD j 0 = s.getD j 0 := fun j hj => by
    simp [List.getD_eq_getElem?_getD, List.getElem?_append_left hj]
  have hpl : (f, y) ∈ l := by
    rw [← hp]
    have : l.getD k (0, 0) = l[k] := by simp [List.getD_eq_getElem?_getD, List.getElem?_eq_getElem hk]
    rw [this]
    exact List.getElem_mem _
  have hy : Bk l tg W y := by
    rw [← h.at_]
    refine h.back _ ?_
    rw [List.getD_eq_getElem?_getD, List.getElem?_eq_getElem hl]
    exact List.getElem_mem _
  refine ⟨fun x hx => ?_, by rw [List.getElem?_append_left (by omega)]; exact h.head, by simp; omega, by rw [hget i hl]; exact h.at_, fun j p hj hp' e hw' => ?_, fun p hp' e hw' => ?_⟩
  · rcases List.mem_append.1 hx with hx | hx
    · exact h.back x hx
    · obtain rfl := List.mem_singleton.1 hx
      exact .step hpl hw hy
  · rw [hget j (by omega)] at e
    exact List.mem_append_left _ (h.shut j p hj hp' e hw')
  · rcases (mem_take_succ hk).1 hp' with h1 | h1
    · exact List.mem_append_left _ (h.edges p h1 e hw')
    · rw [hp] at h1
      subst h1
      simp
end

theorem Nums.heap {w w' : World} {a : Option Addr} {l : List Int} (h : Nums w a l) (he : w'.heap = w.heap) : Nums w' a l := fun hne => by
  obtain ⟨eb, off, h1, h2, h3⟩ := h hne
  exact ⟨eb, off, h1, by rw [he]; exact h2, fun i hi => by rw [← h3 i hi]; simp [World.cell?, he]⟩
/-- Whether x is in the list that lies behind v. -/
structure HasB (w : World) (v : Value) (x : Int) (b : Bool) : Prop where
  is : ∃ a n cap l, v = .slice a n cap ∧ Nums w a l ∧ l.length = n ∧ n < 4294967296 ∧ decide (x ∈ l) = b
theorem has_b {w : World} {v : Value} {x : Int} {b : Bool} (h : HasB w v x b) : Calls Try.prog 41 #[v, .int .u32 x] w fun e w' => e = .returned (.bool b) ∧ w' = w := by
  obtain ⟨a, n, cap, l, rfl, h1, h2, h3, rfl⟩ := h.is
  exact has_u a n cap l x w h1 h2 h3
set_option maxRecDepth 100000 in
set_option maxHeartbeats 4000000 in
theorem reaches_u (a : Option Addr) (n cap : Nat) (l : List (Int × Int)) (tg : Int) (aw : Option Addr) (nw cw : Nat) (lw : List Int) (w : World) (hE : Edg w a l) (hU : UE l) (hn : l.length = n) (hn2 : n < 100000) (htg : U tg) (hNw : Nums w aw lw) (hnw : lw.length = nw) (hnw2 : nw < 100000000) :
    Calls Try.prog 42 #[.slice a n cap, .int .u32 tg, .slice aw nw cw] w fun e w' => ∃ v s, e = .returned v ∧ w'.ownsInts w.heap.size 23 .u32 v s ∧ s.length ≤ n + 1 ∧ (∀ x, x ∈ s ↔ Bk l tg lw x) ∧ Below w.heap.size w w' := by
  obtain ⟨V, hV⟩ : ∃ V, canon (l.map (·.1)) = V := ⟨_, rfl⟩
  have hVl : V.length ≤ n := by
    rw [← hV, ← hn]
    exact Nat.le_trans (canon_length _) (by simp)
  have hVe : ∀ k, k < n → (l.getD k (0, 0)).1 ∈ V := fun k hk => by
    rw [← hV]
    refine mem_canon.2 (List.mem_map.2 ⟨_, ?_, rfl⟩)
    have : l.getD k (0, 0) = l[k]'(by omega) := by simp [List.getD_eq_getElem?_getD, List.getElem?_eq_getElem (show k < l.length by omega)]
    rw [this]
    exact List.getElem_mem _
  obtain ⟨i0, hi0, hz0, hz1, hz2⟩ := info_parts info_u
  have k5 := heap_alloc_new w (.cells #[.int .u32 tg] 23)
  have b5 := below_alloc w (.cells #[.int .u32 tg] 23)
  obtain ⟨B, hB⟩ : ∃ B, w.heap.size = B := ⟨_, rfl⟩
  obtain ⟨w3, hw3⟩ : ∃ x, w.alloc (.cells #[.int .u32 tg] 23) = x := ⟨_, rfl⟩
  rw [hw3, hB] at k5 b5
  rw [hB]
  have ho0 : Hid (w3.ownsInts B 23 .u32 (.slice (some ⟨B, 0, none⟩) 1 1) [tg]) := Lib.hid (by
    refine own_of_row (zs := [tg]) (cap := 1) ⟨#[.int .u32 tg], k5, rfl, by simp, fun i hi => ?_⟩ (Nat.le_refl _) (by decide) (by simpa using htg)
    have : i = 0 := by simpa using hi
    subst this
    rfl)
  have hF0 : Hid (RFar l tg lw [tg] 0) := Lib.hid ⟨by simp; exact .here, rfl, fun j p hj => absurd hj (Nat.not_lt_zero _)⟩
  have hUn : unseen V [tg] ≤ V.length := List.length_filter_le _ _
  replace hV := Lib.hid hV
  replace hVe := Lib.hid hVe
  replace b5 := Lib.hid b5
  have hBs : B ≤ w3.heap.size := by have := b5.out.size; omega
  clear k5
  go_enter Try.func42, Try.ntmps42
  go_wp2
  go_loopw [7, 8] (fun v7 v8 wr => ∃ (s : List Int) (i : Nat), v8 = .int .i64 i ∧ i ≤ s.length ∧ Hid (wr.ownsInts B 23 .u32 v7 s) ∧ Hid (Below B w wr) ∧ B ≤ wr.heap.size ∧ s.length + unseen V s ≤ V.length + 1 ∧ Hid (RFar l tg lw s i))
    (fun _ v8 _ => V.length + 1 - (intOf v8).toNat)
  case atStart => exact ⟨[tg], 0, rfl, Nat.zero_le _, ho0, b5, hBs, by simp; omega, hF0⟩
  case round =>
    clear ho0 b5 hBs hF0 hUn
    obtain ⟨s, i, rfl, hi, ho, hb, hBs, hsV, hF⟩ := hrel
    obtain ⟨as1, cs1, rfl, hcell⟩ := own_form ho.out
    obtain ⟨S, hS⟩ : ∃ S, s.length = S := ⟨_, rfl⟩
    rw [hS] at hcell hi hsV ho ⊢
    by_cases hlt : i < S
    · obtain ⟨x, hx⟩ : ∃ x, s.getD i 0 = x := ⟨_, rfl⟩
      have hF2 : Hid (RFar2 l tg lw s i x 0) := Lib.hid (by
        have := hF.out.in (by omega)
        rw [hx] at this
        exact this)
      have hlti : (i : Int) < (S : Int) := by omega
      have hsV' : s.length + unseen V s ≤ V.length + 1 := by omega
      clear hF
      go_wp2
      go_loopw [7, 9] (fun v7 v9 wr => ∃ (s : List Int) (k : Nat), v9 = .int .i64 k ∧ k ≤ n ∧ Hid (wr.ownsInts B 23 .u32 v7 s) ∧ Hid (Below B w wr) ∧ B ≤ wr.heap.size ∧ s.length + unseen V s ≤ V.length + 1 ∧ Hid (RFar2 l tg lw s i x k))
        (fun _ v9 _ => n - (intOf v9).toNat)
      case atStart => exact ⟨s, 0, rfl, Nat.zero_le _, ho, hb, hBs, hsV', hF2⟩
      case round =>
        clear hF2 ho hb hBs hsV' hsV hcell hx hS hi hlt hlti
        obtain ⟨s, k, rfl, hk, ho, hb, hBs, hsV, hF⟩ := hrel
        obtain ⟨as2, cs2, rfl, hcell⟩ := own_form ho.out
        obtain ⟨S2, hS⟩ : ∃ S, s.length = S := ⟨_, rfl⟩
        rw [hS] at hcell hsV ho ⊢
        have hiS : i < S2 := by rw [← hS]; exact hF.out.lt
        have hiSi : (i : Int) < (S2 : Int) := by omega
        have hx := hF.out.at_
        by_cases hkn : k < n
        · have hkni : (k : Int) < (n : Int) := by omega
          obtain ⟨eb, off, rfl, hce⟩ := (hE.keep hb.out (by omega)).at (k := k) (by omega)
          obtain ⟨g, rfl, hgB, hgl, _, cgi⟩ := hcell i hiS
          obtain ⟨ce1, ce2⟩ := hce k (by omega)
          have hve := hVe.out k hkn
          have huf := (hU.at (i := k) (by omega)).1
          obtain ⟨fr, hfr⟩ : ∃ x, (l.getD k (0, 0)).1 = x := ⟨_, rfl⟩
          obtain ⟨t, ht⟩ : ∃ x, (l.getD k (0, 0)).2 = x := ⟨_, rfl⟩
          have hpair : l.getD k (0, 0) = (fr, t) := by rw [← hfr, ← ht]
          rw [hx] at cgi
          rw [hfr] at ce1 hve huf
          rw [ht] at ce2
          clear hcell hce hfr ht
          replace hx := Lib.hid hx
          replace hpair := Lib.hid hpair
          have hNs := own_nums' ho.out
          have hNwr : Nums wr aw lw := hNw.keep hb.out (by omega)
          have hSV2 : S2 ≤ n + 1 := by omega
          replace hNs := Lib.hid hNs
          replace hNwr := Lib.hid hNwr
          by_cases htx : t = x
          · have hb1 : (t == x) = true := by simpa using htx
            by_cases hfs : fr ∈ s
            · have hF3 := Lib.hid (hF.out.skip (by omega) hpair.out (.inr (.inl hfs)))
              have hQ1 : ∀ W' : World, W'.heap = wr.heap → HasB W' (.slice (some ⟨g, 0, none⟩) S2 cs2) fr true := fun W' hW' => ⟨⟨_, _, _, s, rfl, hNs.out.heap hW', hS, by omega, decide_eq_true hfs⟩⟩
              replace hfs := Lib.hid hfs
              replace htx := Lib.hid htx
              go_wp2
              first | go_quiet (first | (go_at_call 41; refine Calls.quiet_of_same (has_b (hQ1 _ rfl)))) | fail
              obtain ⟨w5, hw5⟩ : ∃ w1, w1 = wr.drewN nq := ⟨_, rfl⟩
              rw [← hw5]
              have ho5 : Hid (w5.ownsInts B 23 .u32 (.slice (some ⟨g, 0, none⟩) S2 cs2) s) := by rw [hw5]; exact Lib.hid (ho.out.kept (grown_drewN wr nq none) (or_none _))
              have hb5 : Hid (Below B w w5) := by rw [hw5]; exact Lib.hid (hb.out.grown (grown_drewN wr nq none) hBs (fun _ h => by cases h))
              have hBs5 : B ≤ w5.heap.size := by rw [hw5]; exact hBs
              have d1 : w5.cell? ⟨eb, off + k * 2, none⟩ = some (.int .u32 fr) := by rw [hw5]; exact ce1
              clear hw5
              go_wp2
              first
                | exact ⟨⟨s, k + 1, by go_num, by omega, ho5, hb5, hBs5, by omega, hF3⟩, by simp [intOf]; omega⟩
                | (refine ⟨?_, by simp [intOf]; omega⟩
                   repeat apply Exists.intro
                   refine ⟨?_, rfl⟩
                   exact ⟨s, k + 1, by go_num, by omega, ho5, hb5, hBs5, by omega, hF3⟩)
            · have hQ1 : ∀ W' : World, W'.heap = wr.heap → HasB W' (.slice (some ⟨g, 0, none⟩) S2 cs2) fr false := fun W' hW' => ⟨⟨_, _, _, s, rfl, hNs.out.heap hW', hS, by omega, decide_eq_false hfs⟩⟩
              by_cases hfw : fr ∈ lw
              · have hF3 := Lib.hid (hF.out.skip (by omega) hpair.out (.inr (.inr hfw)))
                have hQ2 : ∀ W' : World, W'.heap = wr.heap → HasB W' (.slice aw nw cw) fr true := fun W' hW' => ⟨⟨_, _, _, lw, rfl, hNwr.out.heap hW', hnw, by omega, decide_eq_true hfw⟩⟩
                replace hfs := Lib.hid hfs
                replace hfw := Lib.hid hfw
                replace htx := Lib.hid htx
                go_wp2
                first | go_quiet (first | (go_at_call 41; first | refine Calls.quiet_of_same (has_b (hQ1 _ rfl)) | refine Calls.quiet_of_same (has_b (hQ2 _ rfl)))) | fail
                obtain ⟨w5, hw5⟩ : ∃ w1, w1 = wr.drewN nq := ⟨_, rfl⟩
                rw [← hw5]
                have ho5 : Hid (w5.ownsInts B 23 .u32 (.slice (some ⟨g, 0, none⟩) S2 cs2) s) := by rw [hw5]; exact Lib.hid (ho.out.kept (grown_drewN wr nq none) (or_none _))
                have hb5 : Hid (Below B w w5) := by rw [hw5]; exact Lib.hid (hb.out.grown (grown_drewN wr nq none) hBs (fun _ h => by cases h))
                have hBs5 : B ≤ w5.heap.size := by rw [hw5]; exact hBs
                have d1 : w5.cell? ⟨eb, off + k * 2, none⟩ = some (.int .u32 fr) := by rw [hw5]; exact ce1
                clear hw5
                go_wp2
                first
                  | exact ⟨⟨s, k + 1, by go_num, by omega, ho5, hb5, hBs5, by omega, hF3⟩, by simp [intOf]; omega⟩
                  | (refine ⟨?_, by simp [intOf]; omega⟩
                     repeat apply Exists.intro
                     refine ⟨?_, rfl⟩
                     exact ⟨s, k + 1, by go_num, by omega, ho5, hb5, hBs5, by omega, hF3⟩)
              · have hQ2 : ∀ W' : World, W'.heap = wr.heap → HasB W' (.slice aw nw cw) fr false := fun W' hW' => ⟨⟨_, _, _, lw, rfl, hNwr.out.heap hW', hnw, by omega, decide_eq_false hfw⟩⟩
                have hF3 := Lib.hid (hF.out.add (by omega) (hpair.out.trans (by rw [htx])) hfw)
                have hus : unseen V (s ++ [fr]) + 1 ≤ unseen V s := by
                  have h1 := unseen_lt hve hfs
                  have h2 : unseen V (s ++ [fr]) ≤ unseen V (fr :: s) := unseen_mono fun x hx => by
                    rcases List.mem_cons.1 hx with e | e <;> simp [e]
                  omega
                replace hfs := Lib.hid hfs
                replace hfw := Lib.hid hfw
                replace htx := Lib.hid htx
                go_wp2
                first | go_quiet (first | (go_at_call 41; first | refine Calls.quiet_of_same (has_b (hQ1 _ rfl)) | refine Calls.quiet_of_same (has_b (hQ2 _ rfl)))) | fail
                obtain ⟨w5, hw5⟩ : ∃ w1, w1 = wr.drewN nq := ⟨_, rfl⟩
                rw [← hw5]
                have ho5 : Hid (w5.ownsInts B 23 .u32 (.slice (some ⟨g, 0, none⟩) S2 cs2) s) := by rw [hw5]; exact Lib.hid (ho.out.kept (grown_drewN wr nq none) (or_none _))
                have hb5 : Hid (Below B w w5) := by rw [hw5]; exact Lib.hid (hb.out.grown (grown_drewN wr nq none) hBs (fun _ h => by cases h))
                have hBs5 : B ≤ w5.heap.size := by rw [hw5]; exact hBs
                have d1 : w5.cell? ⟨eb, off + k * 2, none⟩ = some (.int .u32 fr) := by rw [hw5]; exact ce1
                clear hw5
                have hov := ho5
                have hoiv := ho5.out.1
                rw [hS] at hoiv
                go_wp2_with (first
                  | (at_builtin; refine wpList_append_own_at _ rfl _ _ 24 rfl B 23 i0 (.int .u32 0) 1 4 Try.underlying24 hi0 hz0 hz1 hz2 rfl (by decide) _ _ _ rfl (hoiv.alloc _) ⟨w5.heap.size, 0, none⟩ 1 1 [.int .u32 fr] rfl rfl (cell_one_new _ _ _) (ints_oneCell .u32 [fr]) (by unfold maxLen; omega) (by omega) (by simp; omega) ?_; intro v' w8 hown' hgrow _ _))
                have hall := (World.grownBy_alloc w5 _ _).trans hgrow
                have hoN : w8.ownsInts B 23 .u32 v' (s ++ [fr]) := hov.out.appended (by rw [hS]; exact hown') huf.wf
                have hbN : Below B w w8 := hb5.out.grown hall hBs5 (fun jj hjj => (hoiv.lt jj hjj).1)
                have hBN := Nat.le_trans hBs5 hall.size
                have hlN : (s ++ [fr]).length + unseen V (s ++ [fr]) ≤ V.length + 1 := by simp; omega
                first
                  | exact ⟨⟨s ++ [fr], k + 1, by go_num, by omega, Lib.hid hoN, Lib.hid hbN, hBN, hlN, hF3⟩, by simp [intOf]; omega⟩
                  | (refine ⟨?_, by simp [intOf]; omega⟩
                     repeat apply Exists.intro
                     refine ⟨?_, rfl⟩
                     exact ⟨s ++ [fr], k + 1, by go_num, by omega, Lib.hid hoN, Lib.hid hbN, hBN, hlN, hF3⟩)
          · have hb1 : (t == x) = false := by simpa using htx
            have hF3 := Lib.hid (hF.out.skip (by omega) hpair.out (.inl htx))
            replace htx := Lib.hid htx
            go_wp2
            first | go_quiet (first | fail) | fail
            obtain ⟨w5, hw5⟩ : ∃ w1, w1 = wr.drewN nq := ⟨_, rfl⟩
            rw [← hw5]
            have ho5 : Hid (w5.ownsInts B 23 .u32 (.slice (some ⟨g, 0, none⟩) S2 cs2) s) := by rw [hw5]; exact Lib.hid (ho.out.kept (grown_drewN wr nq none) (or_none _))
            have hb5 : Hid (Below B w w5) := by rw [hw5]; exact Lib.hid (hb.out.grown (grown_drewN wr nq none) hBs (fun _ h => by cases h))
            have hBs5 : B ≤ w5.heap.size := by rw [hw5]; exact hBs
            have d1 : w5.cell? ⟨eb, off + k * 2, none⟩ = some (.int .u32 fr) := by rw [hw5]; exact ce1
            clear hw5
            go_wp2
            first
              | exact ⟨⟨s, k + 1, by go_num, by omega, ho5, hb5, hBs5, by omega, hF3⟩, by simp [intOf]; omega⟩
              | (refine ⟨?_, by simp [intOf]; omega⟩
                 repeat apply Exists.intro
                 refine ⟨?_, rfl⟩
                 exact ⟨s, k + 1, by go_num, by omega, ho5, hb5, hBs5, by omega, hF3⟩)
        · have : k = n := by omega
          subst this
          have hF4 := Lib.hid (hF.out.out hn)
          go_wp2
          go_roundw
          case rel => exact ⟨s, i + 1, by go_num, by omega, ho, hb, hBs, by omega, hF4⟩
          case measure => simp [intOf]; omega
    · have hiS : i = S := by omega
      have hfin := hF.out
      rw [hiS, ← hS] at hfin
      replace hfin := Lib.hid hfin
      replace hiS := Lib.hid hiS
      have hge : (S : Int) ≤ (i : Int) := by omega
      go_wp2
      go_ret
      exact ⟨_, s, rfl, ho.out, by omega, fun x => hfin.out.end x, hb.out⟩
end Go.Proofs.Ytilknhackmccpaa
