/- Package lock: Edges. -/
import Derived.Test.YtilknhackmccpaaLckP
import Derived.Test.YtilknhackmccpaaLckZb
set_option linter.unusedVariables false
set_option linter.unusedSimpArgs false
namespace Go.Proofs.Ytilknhackmccpaa
open Go.RowKit Go.Sort Go.Lib Go.Maps

/-- One's place in a line. -/
def posL (l : List (Int × Int)) (t : Int) : Nat := (idxBy (fun _ y => y.1 == t) l (0, 0)).toNat
/-- Whom one waits for. -/
def blkT (T : Tb) (t : Int) : List Int := match T.W t with | none => [] | some h => blkL (T.F h.1).1 (T.F h.1).2 (posL (T.F h.1).2 t)
def edgO (T : Tb) (t : Int) : List (Int × Int) := (blkT T t).map fun o => (t, o)
/-- Who waits for whom. -/
def edgT (T : Tb) : List (Int × Int) := T.hs.flatMap (edgO T)
theorem posL_in {l : List (Int × Int)} {t m : Int} (h : (t, m) ∈ l) : posL l t < l.length ∧ idxBy (fun _ y => y.1 == t) l (0, 0) = posL l t ∧ (l.getD (posL l t) (0, 0)).1 = t ∧ ∀ j, j < posL l t → (l.getD j (0, 0)).1 ≠ t := by
  rcases modeL_idx l t with ⟨k, h1, h2, h3, h4, h5⟩ | ⟨_, _, h3⟩
  · have : posL l t = k := by rw [posL, h2]; rfl
    rw [this]
    exact ⟨h1, h2, h4, h5⟩
  · exact absurd rfl (h3 _ h)
theorem blkL_len (h l : List (Int × Int)) (k : Nat) : (blkL h l k).length ≤ h.length + l.length := by
  refine Nat.le_trans (canon_length _) ?_
  rw [List.length_append, List.length_map, List.length_map, List.length_take]
  have := List.length_filter_le (fun y => apartB y (l.getD k (0, 0))) h
  omega
theorem edgO_len {T : Tb} {n m : Nat} (Z : Fit T n m) (t : Int) : (edgO T t).length ≤ n := by
  rw [edgO, List.length_map, blkT]
  split
  · exact Nat.zero_le _
  · rename_i h _
    exact Nat.le_trans (blkL_len _ _ _) (Z.size h.1)
theorem flat_len {T : Tb} {n m : Nat} (Z : Fit T n m) : ∀ hs : List Int, (hs.flatMap (edgO T)).length ≤ hs.length * n
  | [] => by simp
  | t :: r => by
    rw [List.flatMap_cons, List.length_append, List.length_cons, Nat.succ_mul]
    have h1 := edgO_len Z t
    have h2 := flat_len Z r
    omega
theorem own_apart {w : World} {base base' : Nat} {v v' : Value} {zs : List Int} {es : List (Int × Int)} (O : w.ownsInts base 23 .u32 v zs) (E : OwnE w base' v' es) : v.ownBlock = none ∨ v.ownBlock ≠ v'.ownBlock := by
  rcases O.1.2 with ⟨rfl, _⟩ | ⟨g, cap, cur, rfl, _, hg, _⟩
  · exact .inl rfl
  · right
    rcases E.2 with ⟨rfl, _⟩ | ⟨g', cap', cur', rfl, _, hg', _⟩
    · simp [Value.ownBlock]
    · simp only [Value.ownBlock, ne_eq, Option.some.injEq]
      rintro rfl
      rw [hg] at hg'
      cases hg'
theorem field_hk (a b c d : Int) : ∀ w : World, (Instr.field 54 (.agg #[.int .u8 a, .int .u32 b, .int .u32 c, .int .u8 d]) 0).run Try.prog w = .ok (.agg #[.int .u8 a, .int .u32 b, .int .u32 c]) w := fun _ => by kernel_rfl

set_option maxRecDepth 100000 in
set_option maxHeartbeats 8000000 in
theorem edges_u {w : World} {TB b1 b2 : Nat} {T : Tb} {f : Ky → Option Value} (S : TabIs w TB b1 b2 T f) (I : Inv T) {n0 : Nat} (Z : Fit T n0 n0) (hn0 : n0 ≤ 900) :
    Calls Try.prog 31 #[.pointer (some ⟨TB, 0, none⟩)] w fun e w' => ∃ v, e = .returned v ∧ OwnE w' w.heap.size v (edgT T) ∧ RowKit.Below w.heap.size w w' := by
  have Ba := below_alloc w (.cells #[.map (some b2)] 73)
  have nb := heap_alloc_new w (.cells #[.map (some b2)] 73)
  have Sa := S.below Ba (Nat.le_refl _)
  have c1 := S.c1
  have lT := S.lt
  have hUh : Hid (∀ t ∈ T.hs, U t) := Lib.hid S.waits.2.2
  have hKy := mapsKeys_u b2 w
  obtain ⟨R, hR⟩ : ∃ R, w.heap.size = R := ⟨_, rfl⟩
  rw [hR] at hKy Ba nb ⊢
  obtain ⟨wa, hwa⟩ : ∃ x, w.alloc (.cells #[.map (some b2)] 73) = x := ⟨_, rfl⟩
  rw [hwa] at Ba nb Sa hKy
  have hsa : wa.heap.size = R + 1 := by rw [← hwa, ← hR]; simp
  have hSo := sorted_u R b2 T.hs _ (by have := Z.waits; omega) Sa.rising wa (by omega) (by rw [cell_of_heap nb]; rfl) Sa.waits
  obtain ⟨nh, hnh⟩ : ∃ n, T.hs.length = n := ⟨_, rfl⟩
  have hnh0 : nh ≤ n0 := by rw [← hnh]; exact Z.waits
  have hBa := Lib.hid Ba
  have hSa := Lib.hid Sa
  have hZ := Lib.hid Z
  have hI := Lib.hid I
  replace nb := Lib.hid nb
  clear S Sa Z I Ba
  go_enter Try.func31, Try.ntmps31
  go_wp2_with (first
    | (go_at_call 51; refine hKy.mono ?_; intro e w' h; rw [h.1, h.2]; clear h w' e)
    | (go_at_call 50; refine hSo.mono ?_; rintro e w3 ⟨v13, rfl, O3, b3⟩; obtain ⟨a13, c13, rfl⟩ := row_shape O3.1))
  have B3 := hBa.out.trans (b3.mono (by omega))
  have S3 := Lib.hid (hSa.out.below b3 (Nat.le_refl _))
  have K3 := Lib.hid (readN_own O3)
  obtain ⟨G, hG⟩ : ∃ G, w3.heap.size = G := ⟨_, rfl⟩
  have hRG : R ≤ G := by have := b3.size; omega
  have hE0 : Hid (OwnE w3 G (.slice none 0 0) ((T.hs.take 0).flatMap (edgO T))) := Lib.hid (OwnE.nil _ _)
  have hB0 : Hid (RowKit.Below G w3 w3) := Lib.hid (RowKit.Below.refl _ _)
  have hBR := Lib.hid B3
  replace hG := Lib.hid hG
  replace hnh := Lib.hid hnh
  clear O3 b3 B3 hSo hKy hSa nb hwa hsa hBa
  go_loopw [3, 15] (fun v3 v15 wr => ∃ i : Nat, v15 = .int .i64 i ∧ i ≤ nh ∧ Hid (OwnE wr G v3 ((T.hs.take i).flatMap (edgO T))) ∧ Hid (RowKit.Below G w3 wr)) (fun _ v15 _ => nh - (intOf v15).toNat)
  case atStart => exact ⟨0, rfl, Nat.zero_le _, hE0, hB0⟩
  case round =>
    clear hE0 hB0
    obtain ⟨i, rfl, hi, E, hB⟩ := hrel
    have hGw : G ≤ wr.heap.size := by have := hB.out.size; have := hG.out; omega
    by_cases hin : i < nh
    · have hii : (i : Int) < (nh : Int) := by omega
      obtain ⟨x, hx⟩ : ∃ x, T.hs[i]? = some x := ⟨_, List.getElem?_eq_getElem (by have := hnh.out; omega)⟩
      have hxd : T.hs.getD i 0 = x := by rw [List.getD_eq_getElem?_getD, hx]; rfl
      have hxm := List.mem_of_getElem? hx
      have hxU := hUh.out x hxm
      have Kr := K3.out.below hB.out (by have := hG.out; omega)
      obtain ⟨ga, oa, rfl, hgl, hoc⟩ : ∃ eb off, a13 = some ⟨eb, off, none⟩ ∧ eb < wr.heap.size ∧ ∀ j, j < T.hs.length → wr.cell? ⟨eb, off + j, none⟩ = some (.int .u32 (T.hs.getD j 0)) := by
        obtain ⟨a, c, e, hN⟩ := Kr.nums
        cases e
        exact nums_at hN (i := i) (by have := hnh.out; omega)
      have ci := hoc i (by have := hnh.out; omega)
      rw [hxd] at ci
      have Sr := S3.out.below hB.out (by have := hG.out; omega)
      obtain ⟨⟨k, m⟩, hW⟩ : ∃ h, T.W x = some h := Option.ne_none_iff_exists'.1 ((hI.out.hs x).1 hxm)
      have hin2 := (hI.out.line k x m).2 hW
      obtain ⟨hp1, hp2, -, -⟩ := posL_in hin2
      have hkm : k ∈ T.ks := by
        by_cases h : k ∈ T.ks
        · exact h
        · rw [hI.out.out k h] at hin2; cases hin2
      have hkok := Sr.locks.2.2 k hkm
      have hbt : blkT T x = blkL (T.F k).1 (T.F k).2 (posL (T.F k).2 x) := by rw [blkT, hW]
      have hst : (T.hs.take (i + 1)).flatMap (edgO T) = (T.hs.take i).flatMap (edgO T) ++ (blkT T x).map fun o => (x, o) := by
        rw [List.take_add_one, hx, List.flatMap_append]; simp [edgO]
      obtain ⟨va, vb, hfv, hWa, hWb⟩ := Sr.at_ k
      have hsz := hZ.out.size k
      have hbl := fun wx (hx : RowKit.Below wr.heap.size wr wx) => blocks_u va vb (T.F k).1 (T.F k).2 x (posL (T.F k).2 x) wx (hWa.keep hx (Nat.le_refl _)) (hWb.keep hx (Nat.le_refl _)) (by omega) (by omega) hp1 hp2 (hZ.out.u k).1 (hZ.out.u k).2
      have hlnb := blkL_len (T.F k).1 (T.F k).2 (posL (T.F k).2 x)
      have hlne := flat_len hZ.out (T.hs.take i)
      have hiL : (T.hs.take i).length ≤ i := by rw [List.length_take]; omega
      obtain ⟨k1, k2, k3⟩ := k
      have hfld := field_hk k1 k2 k3 m
      have hlk : ∀ w', RowKit.Below wr.heap.size wr w' → w'.cell? ⟨TB, 0, none⟩ = some (.map (some b1)) ∧ w'.cell? ⟨TB, 1, none⟩ = some (.map (some b2)) ∧ (Instr.lookup 73 (.map (some b2)) (.int .u32 x) false).run Try.prog w' = .ok (.agg #[.int .u8 k1, .int .u32 k2, .int .u32 k3, .int .u8 m]) w' ∧
          (Instr.lookup 72 (.map (some b1)) (.agg #[.int .u8 k1, .int .u32 k2, .int .u32 k3]) false).run Try.prog w' = .ok (.agg #[va, vb]) w' ∧ Hid (RowKit.Below wr.heap.size wr w') := fun w' b => by
        have S2 := Sr.below b (Nat.le_refl _)
        have h1 := (S2.lookW hxU).2
        rw [hW] at h1
        have h2 := S2.lookL hkok
        rw [hfv] at h2
        exact ⟨S2.c0, S2.c1, h1, h2, Lib.hid b⟩
      obtain ⟨bs, hbs⟩ : ∃ b, blkT T x = b := ⟨_, rfl⟩
      rw [← hbt] at hbl hlnb
      rw [hbs] at hbl hlnb hst
      obtain ⟨L, hL⟩ : ∃ L, (T.hs.take i).flatMap (edgO T) = L := ⟨_, rfl⟩
      rw [hL] at E hst hlne
      have hLle : L.length ≤ i * n0 := Nat.le_trans hlne (Nat.mul_le_mul_right n0 hiL)
      have hLb : L.length ≤ 900 * 900 := Nat.le_trans hLle (Nat.mul_le_mul (by omega) hn0)
      replace hbl := Lib.hid hbl
      replace hlk := Lib.hid hlk
      replace hst := Lib.hid hst
      have hr0 : Hid (RowKit.Below wr.heap.size wr wr) := Lib.hid (RowKit.Below.refl _ _)
      have hbsl : bs.length ≤ n0 := by omega
      obtain ⟨nb, hnb⟩ : ∃ n, bs.length = n := ⟨_, rfl⟩
      clear hbt hW hin2 hp1 hp2 hkm hkok hoc hxd hWa hWb hsz hfv Kr hL hbs Sr hlne hlnb hiL hLle
      go_upto_region 5 with fail
      clear ci
      go_region_held2 (fun w' => w'.cell? ⟨TB, 0, none⟩ = some (.map (some b1)) ∧ w'.cell? ⟨TB, 1, none⟩ = some (.map (some b2)) ∧ (Instr.lookup 73 (.map (some b2)) (.int .u32 x) false).run Try.prog w' = .ok (.agg #[.int .u8 k1, .int .u32 k2, .int .u32 k3, .int .u8 m]) w' ∧
          (Instr.lookup 72 (.map (some b1)) (.agg #[.int .u8 k1, .int .u32 k2, .int .u32 k3]) false).run Try.prog w' = .ok (.agg #[va, vb]) w' ∧ Hid (RowKit.Below wr.heap.size wr w'))
        (first | exact hlk.out _ hr0.out.drew | exact hlk.out _ b5 | go_keep)
        (first
          | (go_at_call 52; go_split_ands; have hxx : RowKit.Below _ _ _ := Hid.out (by assumption); refine Calls.mono (hbl.out _ hxx) ?_; rintro e w5 ⟨v32, rfl, O5, b5'⟩; have b5 := hxx.trans (b5'.mono hxx.size); obtain ⟨a32, c32, rfl⟩ := row_shape O5.1))
      have B5 := Lib.hid (hB.out.trans (b5.mono hGw))
      have hG5 : G ≤ w5.heap.size := Nat.le_trans hGw b5.size
      have O50 : Hid (w5.ownsInts 0 23 .u32 (.slice a32 nb c32) bs) := Lib.hid (hnb ▸ ⟨row_low O5.1 (Nat.zero_le _), O5.2⟩)
      have E5 : Hid (OwnE w5 G u3 (L ++ (bs.take 0).map fun o => (x, o))) := Lib.hid (by rw [List.take_zero, List.map_nil, List.append_nil]; exact E.out.below (grew b5) (Classical.em _))
      have hnbl : nb ≤ n0 := by omega
      replace hnb := Lib.hid hnb
      clear b5 b5' hxx O5 E hB hbl hlk hr0 hGw hgl
      go_wp2
      go_loopw [3, 34] (fun v3 v34 ws => ∃ j : Nat, v34 = .int .i64 j ∧ j ≤ nb ∧ Hid (OwnE ws G v3 (L ++ (bs.take j).map fun o => (x, o))) ∧ Hid (ws.ownsInts 0 23 .u32 (.slice a32 nb c32) bs) ∧ Hid (RowKit.Below G w3 ws)) (fun _ v34 _ => nb - (intOf v34).toNat)
      case atStart => exact ⟨0, rfl, Nat.zero_le _, E5, O50, B5⟩
      case round =>
        clear E5 O50 B5 hG5
        obtain ⟨j, rfl, hj, E, O, hB⟩ := hrel
        have hGw : G ≤ wr.heap.size := by have := hB.out.size; have := hG.out; omega
        by_cases hjn : j < nb
        · have hjj : (j : Int) < (nb : Int) := by omega
          obtain ⟨gk, ok, rfl, hkl, hkc⟩ := nums_at (own_nums' O.out) (i := j) (by have := hnb.out; omega)
          have cj := hkc j (by have := hnb.out; omega)
          obtain ⟨y, hy⟩ : ∃ y, bs.getD j 0 = y := ⟨_, rfl⟩
          rw [hy] at cj
          have hst2 : (bs.take (j + 1)).map (fun o => (x, o)) = (bs.take j).map (fun o => (x, o)) ++ [(x, y)] := by
            rw [take_snoc (by have := hnb.out; omega), hy, List.map_append]; rfl
          have hlt : ((bs.take j).map fun o => (x, o)).length ≤ j := by rw [List.length_map, List.length_take]; omega
          obtain ⟨L2, hL2⟩ : ∃ l, (bs.take j).map (fun o => (x, o)) = l := ⟨_, rfl⟩
          rw [hL2] at E hst2 hlt
          replace hst2 := Lib.hid hst2
          have hnc := heap_alloc_new wr (.cells #[.int .u32 x, .int .u32 y] 35)
          have bN := below_alloc wr (.cells #[.int .u32 x, .int .u32 y] 35)
          have E6 := Lib.hid (E.out.below (grew bN) (Classical.em _))
          have O6 := Lib.hid (O.out.alloc (.cells #[.int .u32 x, .int .u32 y] 35))
          have B6 := Lib.hid (hB.out.trans (bN.mono hGw))
          have hEd : Hid (Edg (wr.alloc (.cells #[.int .u32 x, .int .u32 y] 35)) (some ⟨wr.heap.size, 0, none⟩) [(x, y)]) := Lib.hid (edg_block hnc fun i hi => by
            obtain rfl : i = 0 := by simpa using hi
            exact ⟨rfl, rfl⟩)
          have hlw : (L ++ L2).length + 1 < 1000000 := by rw [List.length_append]; omega
          have hG6 : G ≤ (wr.alloc (.cells #[.int .u32 x, .int .u32 y] 35)).heap.size := by simp; omega
          clear hkc hy hL2 hnc bN E O hB
          go_wp2_with (at_builtin; refine wpList_append_e rfl (.tmp 38) (.tmp 42) rfl G u3 (L ++ L2) rfl E6.out (some ⟨wr.heap.size, 0, none⟩) 1 1 [(x, y)] rfl hEd.out rfl (by intro e; cases e) hlw hG6 ?_; intro v14 w14 E14 g14)
          have E15 : Hid (OwnE w14 G v14 (L ++ (bs.take (j + 1)).map fun o => (x, o))) := Lib.hid (by rw [hst2.out, ← List.append_assoc]; exact E14)
          have O15 := Lib.hid (O6.out.kept g14 (own_apart O6.out E6.out))
          have B15 := Lib.hid (B6.out.trans (below_of_grown g14 (fun j hj => (row_ge E6.out j hj).1) hG6))
          go_roundw
          case rel => exact ⟨j + 1, by go_num, by omega, E15, O15, B15⟩
          case measure => simp [intOf]; omega
        · obtain rfl : j = nb := by omega
          have E15 : Hid (OwnE wr G u3 ((T.hs.take (i + 1)).flatMap (edgO T))) := Lib.hid (by
            have := E.out
            rw [List.take_of_length_le (by have := hnb.out; omega), ← hst.out] at this
            exact this)
          go_wp2
          go_roundw
          case rel => exact ⟨i + 1, by go_num, by omega, E15, hB⟩
          case measure => simp [intOf]; omega
    · obtain rfl : i = nh := by omega
      have hall : T.hs.take i = T.hs := List.take_of_length_le (by have := hnh.out; omega)
      rw [hall] at E
      go_wp2
      go_ret
      exact ⟨_, rfl, row_low E.out hRG, hBR.out.trans (hB.out.mono hRG)⟩
end Go.Proofs.Ytilknhackmccpaa
