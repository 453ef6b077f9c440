/- Package lock: LockLine: plainly, its walk. -/
import Derived.Test.YtilknhackmccpaaLckS
set_option linter.unusedVariables false
set_option linter.unusedSimpArgs false
namespace Go.Proofs.Ytilknhackmccpaa
open Go.RowKit Go.Sort Go.Lib Go.Maps

theorem below_drewN {B q : Nat} {w w' : World} (h : RowKit.Below B w w') : RowKit.Below B w (w'.drewN q) := ⟨h.os, h.tape, h.output, h.size, h.block⟩
/-- Whoever waits waits for someone. -/
theorem blkT_ne {T : Tb} (I : Inv T) {x : Int} {k : Ky} {m : Int} (hW : T.W x = some (k, m)) : blkT T x ≠ [] := by
  have hin := (I.line k x m).2 hW
  obtain ⟨h1, h2, h3, h4⟩ := posL_in hin
  rw [blkT, hW]
  simp only
  intro h
  have h5 := canon_eq_nil h
  rw [List.append_eq_nil_iff, List.map_eq_nil_iff, List.map_eq_nil_iff] at h5
  obtain ⟨h6, h7⟩ := h5
  have hp0 : posL (T.F k).2 x = 0 := by
    have := congrArg List.length h7
    rw [List.length_take, List.length_nil] at this
    omega
  rw [hp0] at h3 h6 h1
  have hst := (I.lk k).stuck
  cases hl : (T.F k).2 with
  | nil => rw [hl] at h1; simp at h1
  | cons y r =>
    have := hst y r hl
    rw [hl] at h6
    simp only [List.getD_cons_zero] at h6
    have hf : freeB (T.F k).1 y = true := freeB_iff.2 fun z hz => by
      have := List.filter_eq_nil_iff.1 h6 z hz
      simpa using this
    rw [hf] at this
    cases this
theorem mem_edgT {T : Tb} {p : Int × Int} : p ∈ edgT T ↔ p.1 ∈ T.hs ∧ p.2 ∈ blkT T p.1 := by
  obtain ⟨x, y⟩ := p
  simp only [edgT, edgO, List.mem_flatMap, List.mem_map, Prod.mk.injEq]
  constructor
  · rintro ⟨t, h1, o, h2, rfl, rfl⟩
    exact ⟨h1, h2⟩
  · rintro ⟨h1, h2⟩
    exact ⟨x, h1, y, h2, rfl, rfl⟩
theorem edg_any {T : Tb} (I : Inv T) (x : Int) : ((edgT T).any fun p => p.1 == x) = (T.W x).isSome := by
  rw [Bool.eq_iff_iff, List.any_eq_true]
  constructor
  · rintro ⟨p, hp, hx⟩
    obtain rfl : p.1 = x := by simpa using hx
    have := (I.hs p.1).1 (mem_edgT.1 hp).1
    exact Option.isSome_iff_ne_none.2 this
  · intro h
    obtain ⟨⟨k, m⟩, hW⟩ := Option.isSome_iff_exists.1 h
    obtain ⟨o, r, ho⟩ := List.exists_cons_of_ne_nil (blkT_ne I hW)
    exact ⟨(x, o), mem_edgT.2 ⟨(I.hs x).2 (by rw [hW]; simp), by rw [ho]; simp⟩, by simp⟩
theorem edg_off {T : Tb} (I : Inv T) : ∀ p ∈ edgT T, p.1 ≠ p.2 := by
  intro p hp e
  obtain ⟨h1, h2⟩ := mem_edgT.1 hp
  obtain ⟨⟨k, m⟩, hW⟩ := Option.ne_none_iff_exists'.1 ((I.hs p.1).1 h1)
  have hin := (I.line k p.1 m).2 hW
  obtain ⟨q1, q2, q3, q4⟩ := posL_in hin
  rw [blkT, hW] at h2
  simp only at h2
  rw [blkL, mem_canon, List.mem_append, List.mem_map, List.mem_map] at h2
  rcases h2 with ⟨y, hy, hye⟩ | ⟨y, hy, hye⟩
  · have ha := (List.mem_filter.1 hy).2
    simp only [apartB, Bool.and_eq_true, bne_iff_ne, ne_eq] at ha
    exact ha.1 (by rw [q3, hye, e])
  · obtain ⟨j, hj, hj2⟩ := List.mem_iff_getElem.1 hy
    rw [List.length_take] at hj
    refine q4 j (by omega) ?_
    rw [getD_eq _ (by omega)]
    rw [List.getElem_take] at hj2
    rw [hj2, hye, e]
theorem ask_who {T : Tb} {t : Int} {k : Ky} {m : Int} {x : Int} (h : (askT T t k m).2.W x ≠ none) : x = t ∨ T.W x ≠ none := by
  unfold askT at h
  split at h
  · exact .inr h
  · split at h
    · exact .inr h
    · split at h
      · exact .inr h
      · by_cases e : x = t
        · exact .inl e
        · right
          simpa [setW, e] using h
theorem run_who (l : List Lop) : ∀ x, (runT l).W x ≠ none → x ∈ l.map Lop.txn := by
  have key : ∀ (l : List Lop) (T : Tb), Inv T → ∀ x, (l.foldl opT T).W x ≠ none → x ∈ l.map Lop.txn ∨ T.W x ≠ none := by
    intro l
    induction l with
    | nil => intro T _ x h; exact .inr h
    | cons o r ih =>
      intro T I x h
      rcases ih _ (inv_op I o) x h with h | h
      · exact .inl (List.mem_cons_of_mem _ h)
      · unfold opT at h
        split at h
        · rw [(rel_spec I o.txn).w] at h
          split at h
          · exact absurd rfl h
          · exact .inr h
        · rcases ask_who h with e | h
          · left; rw [e]; simp
          · exact .inr h
  intro x h
  rcases key l noTb inv_none x h with h | h
  · exact h
  · exact absurd rfl h
def relAll (ts : List Int) (T : Tb) : Tb := ts.foldl (fun T t => (relT T t).1) T
theorem relAll_snoc (ts : List Int) (t : Int) (T : Tb) : relAll (ts ++ [t]) T = (relT (relAll ts T) t).1 := by simp [relAll]
theorem relAll_inv : ∀ (ts : List Int) (T : Tb), Inv T → Inv (relAll ts T) ∧ ∀ x, (x ∈ ts ∨ T.W x = none) → (relAll ts T).W x = none
  | [], T, I => ⟨I, fun x h => h.resolve_left (by simp)⟩
  | t :: r, T, I => by
    obtain ⟨h1, h2⟩ := relAll_inv r _ (rel_spec I t).inv
    refine ⟨h1, fun x h => h2 x ?_⟩
    by_cases hx : x ∈ r
    · exact .inl hx
    · right
      rw [(rel_spec I t).w]
      split
      · rfl
      · rename_i hn
        rcases h with h | h
        · rcases List.mem_cons.1 h with rfl | h
          · exact absurd (.inl rfl) hn
          · exact absurd h hx
        · exact h
theorem relAll_end (l : List Lop) : edgT (relAll (canon (l.map Lop.txn)) (runT l)) = [] := by
  obtain ⟨h1, h2⟩ := relAll_inv (canon (l.map Lop.txn)) _ (inv_run l)
  have : (relAll (canon (l.map Lop.txn)) (runT l)).hs = [] := by
    apply List.eq_nil_iff_forall_not_mem.2
    intro x hx
    refine (h1.hs x).1 hx (h2 x ?_)
    by_cases h : (runT l).W x = none
    · exact .inr h
    · exact .inl (mem_canon.2 (run_who l x h))
  rw [edgT, this]; rfl

set_option maxRecDepth 100000 in
set_option maxHeartbeats 16000000 in
theorem line_walk (W : World) (l : List Lop) (v : Value) (hv : LopsIn W v l) :
    Calls Try.prog 12 #[v] W fun e w' => e = .returned (.bool true) ∧ RowKit.Below W.heap.size W w' := by
  obtain ⟨a, cap, rfl, hok, -⟩ := id hv
  obtain ⟨n, hn⟩ : ∃ n, l.length = n := ⟨_, rfl⟩
  obtain ⟨R, hR⟩ : ∃ R, W.heap.size = R := ⟨_, rfl⟩
  have hkn := known_l W
  have hv2 : ∀ w', RowKit.Below W.heap.size W w' → LopsIn w' (.slice a n cap) l := fun w' b => by
    rw [← hn]
    obtain ⟨a', c', e, h1, h2⟩ := hv
    cases e
    refine ⟨a, cap, rfl, h1, fun hne => ?_⟩
    obtain ⟨eb, off, e1, e2, e3⟩ := h2 hne
    exact ⟨eb, off, e1, Nat.lt_of_lt_of_le e2 b.size, fun i o hi j v hj => (b.cell (p := ⟨eb, off + i * 6 + j, none⟩) e2).trans (e3 i o hi j v hj)⟩
  rw [hR] at hkn hv2 ⊢
  have hVV := Lib.hid hv2
  have hUw : Hid (∀ x ∈ canon (l.map Lop.txn), U x) := Lib.hid fun x hx => by
    obtain ⟨o, ho, rfl⟩ := List.mem_map.1 (mem_canon.1 hx)
    exact (hok o ho).txn
  rw [hn]
  clear hv hv2 hok
  by_cases h40 : 40 < n
  · have h40i : (40 : Int) < (n : Int) := by omega
    go_enter Try.func12, Try.ntmps12
    go_wp2_with (go_at_call 22; refine hkn.mono ?_; rintro e w2 ⟨rfl, b2⟩)
    go_ret
    exact ⟨rfl, b2⟩
  · have h40i : ¬ (40 : Int) < (n : Int) := by omega
    have I := Lib.hid (inv_run l)
    have hEnd := Lib.hid (relAll_end l)
    have hAll := Lib.hid fun ts => relAll_inv ts _ (inv_run l)
    go_enter Try.func12, Try.ntmps12
    go_upto_region 3 with (go_at_call 22; refine hkn.mono ?_; rintro e w2 ⟨rfl, b2⟩)
    have B2 := Lib.hid b2
    have hrun := run_u w2 l (.slice a n cap) (hVV.out w2 b2) (by omega)
    have l2 : R ≤ w2.heap.size := by rw [← hR]; exact b2.size
    clear b2 hkn
    go_upto_region 6 with (go_at_call 27; refine hrun.mono ?_; rintro e w5 ⟨TB, b1, b2', f, vw, rfl, hb1, hb2, S5, Z5, R5, B5⟩)
    obtain ⟨who, hwho⟩ : ∃ x, canon (l.map Lop.txn) = x := ⟨_, rfl⟩
    obtain ⟨T, hT⟩ : ∃ x, runT l = x := ⟨_, rfl⟩
    rw [hT] at S5 Z5 I hEnd hAll
    rw [hwho] at R5 hUw hEnd
    have hwl : who.length ≤ 40 := by rw [← hwho]; exact Nat.le_trans (canon_length _) (by rw [List.length_map]; omega)
    obtain ⟨a6, c6, rfl, -⟩ := R5.nums
    obtain ⟨m, hm⟩ : ∃ m, who.length = m := ⟨_, rfl⟩
    rw [hm] at hwl R5 ⊢
    have hfl := flat_len Z5 T.hs
    have hZw := Z5.waits
    rw [hn] at Z5 hfl hZw
    have hes : (edgT T).length ≤ 1600 := by
      have : T.hs.length * n ≤ 40 * 40 := Nat.mul_le_mul (by omega) (by omega)
      unfold edgT; omega
    have hE := edges_u S5 I.out Z5 (by omega)
    have hany := Lib.hid (edg_any I.out)
    have hoff := Lib.hid (edg_off I.out)
    obtain ⟨es, hese⟩ : ∃ es, edgT T = es := ⟨_, rfl⟩
    rw [hese] at hE hany hoff hes
    have B25 := Lib.hid (B2.out.trans (B5.mono l2))
    have hlo : R ≤ b1 ∧ R ≤ b2' := by omega
    have l5 : R ≤ w5.heap.size := Nat.le_trans l2 B5.size
    replace S5 := Lib.hid S5
    replace Z5 := Lib.hid Z5
    replace R5 := Lib.hid R5
    replace hm := Lib.hid hm
    clear B5 hrun l2 hb1 hb2 B2 hwho hT hVV hfl hZw hese
    go_upto_region 7 with (go_at_call 31; refine hE.mono ?_; rintro e w6 ⟨v5, rfl, O6, b6⟩)
    obtain ⟨a5, c5, rfl, E6⟩ := O6.edg
    obtain ⟨ne, hne⟩ : ∃ m, es.length = m := ⟨_, rfl⟩
    rw [hne] at hes ⊢
    have S6 := Lib.hid (S5.out.below b6 (Nat.le_refl _))
    have R6 := Lib.hid (R5.out.below b6 (Nat.le_refl _))
    have B6 := Lib.hid (B25.out.trans (b6.mono l5))
    obtain ⟨G, hG⟩ : ∃ G, w6.heap.size = G := ⟨_, rfl⟩
    have hRG : R ≤ G := by have := b6.size; omega
    have hBG0 : Hid (RowKit.Below G w6 w6) := Lib.hid (RowKit.Below.refl _ _)
    replace E6 := Lib.hid E6
    replace hne := Lib.hid hne
    replace hG := Lib.hid hG
    clear O6 b6 hE S5 R5 B25 l5
    go_wp2
    go_loopw [6] (fun v6 wr => ∃ i : Nat, v6 = .int .i64 i ∧ i ≤ m ∧ Hid (RowKit.Below G w6 wr)) (fun v6 _ => m - (intOf v6).toNat)
    case atStart => exact ⟨0, rfl, Nat.zero_le _, hBG0⟩
    case round =>
      clear hBG0
      obtain ⟨i, rfl, hi, hB⟩ := hrel
      have hGw : G ≤ wr.heap.size := by have := hB.out.size; have := hG.out; omega
      by_cases him : i < m
      · have hii : (i : Int) < (m : Int) := by omega
        have Sr := S6.out.below hB.out (by have := hG.out; omega)
        have Rr := R6.out.below hB.out (by have := hG.out; omega)
        obtain ⟨x, hx⟩ : ∃ x, who[i]? = some x := ⟨_, List.getElem?_eq_getElem (by have := hm.out; omega)⟩
        have hxd : who.getD i 0 = x := by rw [List.getD_eq_getElem?_getD, hx]; rfl
        obtain ⟨ga, oa, rfl, hgl, hoc⟩ : ∃ eb off, a6 = some ⟨eb, off, none⟩ ∧ eb < wr.heap.size ∧ ∀ j, j < who.length → wr.cell? ⟨eb, off + j, none⟩ = some (.int .u32 (who.getD j 0)) := by
          obtain ⟨a, c, e, hN⟩ := Rr.nums
          cases e
          exact nums_at hN (i := i) (by have := hm.out; omega)
        have ci := hoc i (by have := hm.out; omega)
        rw [hxd] at ci
        have hWt := waits_t Sr x (hUw.out x (List.mem_of_getElem? hx))
        have hanx := hany.out x
        obtain ⟨⟨⟨h1, h2, h3⟩, h4⟩, hh⟩ : ∃ h, (T.W x).getD ((0, 0, 0), 0) = h := ⟨_, rfl⟩
        obtain ⟨bw, hbw⟩ : ∃ b, (T.W x).isSome = b := ⟨_, rfl⟩
        rw [hh, hbw] at hWt
        rw [hbw] at hanx
        simp only [holdV] at hWt
        have ci' := Lib.hid ci
        replace hanx := Lib.hid hanx
        clear Sr Rr hoc hxd hh hbw hx
        go_upto_region 11 with (go_at_call 30; refine hWt.mono ?_; rintro e w10 ⟨rfl, b10⟩)
        have Ba := hB.out.trans ((b10.trans ((below_alloc w10 (.cells #[.int .u8 h1, .int .u32 h2, .int .u32 h3, .int .u8 h4] 54)).mono b10.size)).mono hGw)
        obtain ⟨KB, hKB⟩ : ∃ x, x = w10.heap.size := ⟨_, rfl⟩
        obtain ⟨w11, hw11⟩ : ∃ x, x = w10.alloc (.cells #[.int .u8 h1, .int .u32 h2, .int .u32 h3, .int .u8 h4] 54) := ⟨_, rfl⟩
        rw [← hw11] at Ba ⊢
        rw [← hKB]
        have hci : Hid (∀ w', RowKit.Below wr.heap.size w11 w' → w'.cell? ⟨ga, oa + i, none⟩ = some (.int .u32 x)) := Lib.hid fun w' b => by
          have h1 : RowKit.Below wr.heap.size wr w11 := by rw [hw11]; exact b10.trans ((below_alloc w10 _).mono b10.size)
          exact ((h1.trans b).cell (p := ⟨ga, oa + i, none⟩) hgl).trans ci'.out
        have hwW : wr.heap.size ≤ w11.heap.size := by rw [hw11]; have := b10.size; simp; omega
        have hBa := Lib.hid Ba
        have hBn0 : Hid (RowKit.Below w11.heap.size w11 w11) := Lib.hid (RowKit.Below.refl _ _)
        have hin0 : Hid (false = (es.take 0).any fun p => p.1 == x) := Lib.hid (by simp)
        clear b10 Ba hWt hKB hw11 hB ci ci' hgl
        go_wp2
        go_loopw [9, 10] (fun v9 v10 wr => ∃ (k : Nat) (b : Bool), v9 = .bool b ∧ v10 = .int .i64 k ∧ k ≤ ne ∧ Hid (b = (es.take k).any fun p => p.1 == x) ∧ Hid (RowKit.Below w11.heap.size w11 wr)) (fun _ v10 _ => ne - (intOf v10).toNat)
        case atStart => exact ⟨0, false, rfl, rfl, Nat.zero_le _, hin0, hBn0⟩
        case round =>
          clear hin0 hBn0
          obtain ⟨k, b, rfl, rfl, hk, hb, hB⟩ := hrel
          by_cases hkn : k < ne
          · have hkk : (k : Int) < (ne : Int) := by omega
            have Er := E6.out.keep (hBa.out.trans (hB.out.mono (by have := hBa.out.size; have := hG.out; omega))) (by have := hG.out; omega)
            obtain ⟨ek, ok, rfl, hkc⟩ := Er.at (k := k) (by have := hne.out; omega)
            obtain ⟨ck, -⟩ := hkc k (by have := hne.out; omega)
            obtain ⟨⟨y, z⟩, hy⟩ : ∃ y, es[k]? = some y := ⟨_, List.getElem?_eq_getElem (by have := hne.out; omega)⟩
            have hyd : es.getD k (0, 0) = (y, z) := by rw [List.getD_eq_getElem?_getD, hy]; rfl
            rw [hyd] at ck
            simp only at ck
            have ci := hci.out _ (hB.out.mono hwW)
            obtain ⟨bx, hbx⟩ : ∃ z, (y == x) = z := ⟨_, rfl⟩
            have hb2 : Hid ((b || bx) = (es.take (k + 1)).any fun p => p.1 == x) := Lib.hid (by
              rw [List.take_add_one, hy, hb.out, ← hbx, List.any_append]; simp)
            have hBq : Hid (∀ q, RowKit.Below w11.heap.size w11 (wr.drewN q)) := Lib.hid fun q => below_drewN hB.out
            clear hkc hyd Er hy hB
            cases b
            · go_upto_region 15 with fail
              first | go_quiet (first | fail) | fail
              have B2 := Lib.hid (hBq.out nq)
              clear hbx
              cases bx
              · go_wp2
                go_roundw
                case rel => exact ⟨k + 1, false, rfl, by go_num, by omega, hb2, B2⟩
                case measure => simp [intOf]; omega
              · go_wp2
                go_roundw
                case rel => exact ⟨k + 1, true, rfl, by go_num, by omega, hb2, B2⟩
                case measure => simp [intOf]; omega
            · go_upto_region 15 with fail
              first | go_quiet (first | fail) | fail
              have B2 := Lib.hid (hBq.out nq)
              go_wp2
              go_roundw
              case rel => exact ⟨k + 1, true, rfl, by go_num, by omega, hb2, B2⟩
              case measure => simp [intOf]; omega
          · obtain rfl : k = ne := by omega
            rw [List.take_of_length_le (by have := hne.out; omega)] at hb
            have hbb : bw = b := by rw [hb.out, hanx.out]
            subst hbb
            have hBf := Lib.hid (hBa.out.trans (hB.out.mono (by have := hBa.out.size; have := hG.out; omega)))
            cases bw
            · go_wp2
              go_roundw
              case rel => exact ⟨i + 1, by go_num, by omega, hBf⟩
              case measure => simp [intOf]; omega
            · go_wp2
              go_roundw
              case rel => exact ⟨i + 1, by go_num, by omega, hBf⟩
              case measure => simp [intOf]; omega
      · obtain rfl : i = m := by omega
        have hB0 := hB
        go_wp2
        go_loopw [11] (fun v11 wr => ∃ k : Nat, v11 = .int .i64 k ∧ k ≤ ne ∧ Hid (RowKit.Below G w6 wr)) (fun v11 _ => ne - (intOf v11).toNat)
        case atStart => exact ⟨0, rfl, Nat.zero_le _, hB0⟩
        case round =>
          clear hB0 hB
          obtain ⟨k, rfl, hk, hB⟩ := hrel
          by_cases hkn : k < ne
          · have hkk : (k : Int) < (ne : Int) := by omega
            have Er := E6.out.keep hB.out (by have := hG.out; omega)
            obtain ⟨ek, ok, rfl, hkc⟩ := Er.at (k := k) (by have := hne.out; omega)
            obtain ⟨ck, dk⟩ := hkc k (by have := hne.out; omega)
            obtain ⟨⟨y, z⟩, hy⟩ : ∃ y, es[k]? = some y := ⟨_, List.getElem?_eq_getElem (by have := hne.out; omega)⟩
            have hyd : es.getD k (0, 0) = (y, z) := by rw [List.getD_eq_getElem?_getD, hy]; rfl
            rw [hyd] at ck dk
            simp only at ck dk
            have hyz : (y == z) = false := by simpa using hoff.out _ (List.mem_of_getElem? hy)
            have hBq : Hid (∀ q, RowKit.Below G w6 (wr.drewN q)) := Lib.hid fun q => below_drewN hB.out
            clear hkc hyd Er hy hB
            go_upto_region 21 with fail
            first | go_quiet (first | fail) | fail
            have B2 := Lib.hid (hBq.out nq)
            go_wp2
            go_roundw
            case rel => exact ⟨k + 1, by go_num, by omega, B2⟩
            case measure => simp [intOf]; omega
          · obtain rfl : k = ne := by omega
            have S7 : Hid (∃ T' f, TabIs wr TB b1 b2' (relAll (who.take 0) T) f ∧ T' = relAll (who.take 0) T ∧ Fit (relAll (who.take 0) T) n n) := Lib.hid ⟨_, _, S6.out.below hB.out (by have := hG.out; omega), rfl, Z5.out⟩
            have R7 := Lib.hid (R6.out.below hB.out (by have := hG.out; omega))
            have B7 := Lib.hid (B6.out.trans (hB.out.mono hRG))
            clear hB E6 hany hoff
            go_wp2
            go_loopw [12] (fun v12 wr => ∃ j : Nat, v12 = .int .i64 j ∧ j ≤ i ∧ Hid (∃ T' f, TabIs wr TB b1 b2' (relAll (who.take j) T) f ∧ T' = relAll (who.take j) T ∧ Fit (relAll (who.take j) T) n n) ∧ Hid (ReadN wr (.slice a6 i c6) who) ∧ Hid (RowKit.Below R W wr)) (fun v12 _ => i - (intOf v12).toNat)
            case atStart => exact ⟨0, rfl, Nat.zero_le _, S7, R7, B7⟩
            case round =>
              clear S7 R7 B7
              obtain ⟨j, rfl, hj, hS, hRd, hB⟩ := hrel
              obtain ⟨_, f', Sr, -, Zr⟩ := hS.out
              have hRw : R ≤ wr.heap.size := by have := hB.out.size; omega
              have Ij := (hAll.out (who.take j)).1
              by_cases hji : j < i
              · have hjj : (j : Int) < (i : Int) := by omega
                obtain ⟨x, hx⟩ : ∃ x, who[j]? = some x := ⟨_, List.getElem?_eq_getElem (by have := hm.out; omega)⟩
                have hxd : who.getD j 0 = x := by rw [List.getD_eq_getElem?_getD, hx]; rfl
                obtain ⟨ga, oa, rfl, hgl, hoc⟩ : ∃ eb off, a6 = some ⟨eb, off, none⟩ ∧ eb < wr.heap.size ∧ ∀ j, j < who.length → wr.cell? ⟨eb, off + j, none⟩ = some (.int .u32 (who.getD j 0)) := by
                  obtain ⟨a, c, e, hN⟩ := hRd.out.nums
                  cases e
                  exact nums_at hN (i := j) (by have := hm.out; omega)
                have ci := hoc j (by have := hm.out; omega)
                rw [hxd] at ci
                have hrel := release_u Sr Zr (by omega) x (hUw.out x (List.mem_of_getElem? hx))
                have Z2 := Lib.hid (relT_fit Zr Ij.rise x).1
                have hst : who.take (j + 1) = who.take j ++ [x] := by rw [List.take_add_one, hx]; rfl
                have hre : Hid ((relT (relAll (who.take j) T) x).1 = relAll (who.take (j + 1)) T) := Lib.hid (by rw [hst, relAll_snoc])
                have hnb : Hid ((∀ cs ty fr, wr.heap[b1]? ≠ some (.cells cs ty fr)) ∧ ∀ cs ty fr, wr.heap[b2']? ≠ some (.cells cs ty fr)) := Lib.hid ⟨Sr.locks.nocells, Sr.waits.nocells⟩
                rw [hre.out] at hrel Z2
                clear hoc hxd hx Sr Zr hst hS Ij
                go_wp2_with (go_at_call 26; refine hrel.mono ?_; rintro e w5 ⟨f5, v5, rfl, S5, O5, t5⟩)
                have S8 : Hid (∃ T' f, TabIs w5 TB b1 b2' (relAll (who.take (j + 1)) T) f ∧ T' = relAll (who.take (j + 1)) T ∧ Fit (relAll (who.take (j + 1)) T) n n) := Lib.hid ⟨_, _, S5, rfl, Z2.out⟩
                have R8 := Lib.hid (hRd.out.two t5 hnb.out.1 hnb.out.2)
                have B8 := Lib.hid (hB.out.trans (t5.below (by omega) (by omega) hRw))
                clear S5 O5 t5
                go_roundw
                case rel => exact ⟨j + 1, by go_num, by omega, S8, R8, B8⟩
                case measure => simp [intOf]; omega
              · obtain rfl : j = i := by omega
                have hE := edges_u Sr Ij Zr (by omega)
                rw [List.take_of_length_le (by have := hm.out; omega), hEnd.out] at hE
                simp only [OwnE, List.length_nil] at hE
                clear Sr Ij Zr hS
                go_wp2_with (go_at_call 31; refine hE.mono ?_; rintro e w8 ⟨v8, rfl, O8, b8⟩; obtain ⟨a8, c8, rfl⟩ := row_shape O8)
                go_ret
                exact ⟨by simp, hB.out.trans (b8.mono hRw)⟩
end Go.Proofs.Ytilknhackmccpaa
