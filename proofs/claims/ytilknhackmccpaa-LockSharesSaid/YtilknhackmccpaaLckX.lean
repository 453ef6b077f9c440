/- Package lock: LockShares: plainly, its walk. -/
import Derived.Test.YtilknhackmccpaaLckS
set_option linter.unusedVariables false
set_option linter.unusedSimpArgs false
namespace Go.Proofs.Ytilknhackmccpaa
open Go.RowKit Go.Sort Go.Lib Go.Maps

/-- All share; nobody waits. -/
structure Shr (T : Tb) : Prop where
  line : ∀ k, (T.F k).2 = []
  ones : ∀ k, ∀ p ∈ (T.F k).1, p.2 = 1
  hs : T.hs = []
  w : ∀ t, T.W t = none
theorem shr_none : Shr noTb := ⟨fun _ => rfl, fun _ => by simp [noTb], rfl, fun _ => rfl⟩
theorem shr_free {T : Tb} (H : Shr T) (k : Ky) (t : Int) : freeB (T.F k).1 (t, 1) = true := freeB_iff.2 fun y hy => by
  simp [apartB, H.ones k y hy]
theorem shr_ask {T : Tb} (H : Shr T) (t : Int) (k : Ky) : (askT T t k 1).1 = true ∧ Shr (askT T t k 1).2 := by
  unfold askT
  split
  · exact ⟨rfl, H⟩
  · rw [H.w t]
    have h1 : askM 1 = 1 := rfl
    rw [h1, shr_free H k t, H.line k]
    simp only [Option.isSome_none, Bool.false_eq_true, if_false, List.length_nil, Nat.beq_refl, BEq.rfl, Bool.or_true, Bool.and_true, if_true]
    refine ⟨trivial, fun k' => ?_, fun k' p hp => ?_, H.hs, H.w⟩
    · by_cases hk : k' = k
      · simp [setF, hk]
      · simp [setF, hk, H.line]
    · by_cases hk : k' = k
      · subst hk
        simp only [setF, if_true] at hp
        rcases List.mem_append.1 hp with h | h
        · exact H.ones k' p (mem_notL.1 h).1
        · rw [List.mem_singleton.1 h]
      · simp only [setF, if_neg hk] at hp
        exact H.ones k' p hp
theorem shr_step {T : Tb} (H : Shr T) (t : Int) (k : Ky) : (relStep t T k).2 = [] ∧ Shr (relStep t T k).1 := by
  unfold relStep
  split
  · exact ⟨rfl, H⟩
  · rename_i hz
    have hr : relL (T.F k) t = ((notL (T.F k).1 t, []), []) := by
      rw [relL, if_neg hz, H.line k]
      exact wakeL_nil _
    rw [hr]
    refine ⟨rfl, fun k' => ?_, fun k' p hp => ?_, H.hs, H.w⟩
    · by_cases hk : k' = k
      · simp [setF, hk]
      · simp [setF, hk, H.line]
    · by_cases hk : k' = k
      · subst hk
        simp only [setF, if_true] at hp
        exact H.ones k' p (mem_notL.1 hp).1
      · simp only [setF, if_neg hk] at hp
        exact H.ones k' p hp
theorem shr_fold (t : Int) : ∀ (a : List Ky) (T : Tb), Shr T → (relFold t a T).2 = [] ∧ Shr (relFold t a T).1
  | [], T, H => ⟨rfl, H⟩
  | k :: r, T, H => by
    obtain ⟨h1, h2⟩ := shr_step H t k
    obtain ⟨h3, h4⟩ := shr_fold t r _ h2
    exact ⟨by simp [relFold, h1, h3], h4⟩
theorem shr_rel {T : Tb} (H : Shr T) (t : Int) : (relT T t).2 = [] ∧ Shr (relT T t).1 := by
  obtain ⟨h1, h2⟩ := shr_fold t T.ks T H
  refine ⟨h1, h2.line, h2.ones, ?_, fun x => ?_⟩
  · show (relFold t T.ks T).1.hs.filter _ = []
    rw [h2.hs]; rfl
  · show setW (relFold t T.ks T).1.W t none x = none
    unfold setW
    split
    · rfl
    · exact h2.w x
theorem shr_edges {T : Tb} (H : Shr T) : edgT T = [] := by rw [edgT, H.hs]; rfl

set_option maxRecDepth 100000 in
set_option maxHeartbeats 16000000 in
theorem shares_walk (W : World) (l : List Lop) (v : Value) (hv : LopsIn W v l) :
    Calls Try.prog 11 #[v] W fun e w' => e = .returned (.bool true) ∧ RowKit.Below W.heap.size W w' := by
  obtain ⟨a, cap, rfl, hok, -⟩ := id hv
  obtain ⟨n, hn⟩ : ∃ n, l.length = n := ⟨_, rfl⟩
  obtain ⟨R, hR⟩ : ∃ R, W.heap.size = R := ⟨_, rfl⟩
  have hkn := known_l W
  have hV : Hid (LopsIn W (.slice a n cap) l) := Lib.hid (hn ▸ hv)
  rw [hR] at hkn ⊢
  have hO := Lib.hid hok
  rw [hn]
  clear hv hok
  by_cases h60 : 60 < n
  · have h60i : (60 : Int) < (n : Int) := by omega
    go_enter Try.func11, Try.ntmps11
    go_wp2_with (go_at_call 22; refine hkn.mono ?_; rintro e w2 ⟨rfl, b2⟩)
    go_ret
    exact ⟨rfl, b2⟩
  · have h60i : ¬ (60 : Int) < (n : Int) := by omega
    have hnn : n ≤ 60 := by omega
    go_enter Try.func11, Try.ntmps11
    go_upto_region 3 with (go_at_call 22; refine hkn.mono ?_; rintro e w2 ⟨rfl, b2⟩)
    have l2 : R ≤ w2.heap.size := by rw [← hR]; exact b2.size
    go_upto_region 6 with (go_at_call 23; refine (new_u _).mono ?_; rintro e w3 ⟨TB, b1, b2', rfl, hb1, hb2, S3, B3⟩)
    have hlo : R ≤ b1 ∧ R ≤ b2' := by omega
    have S4 : Hid (∃ T f, TabIs w3 TB b1 b2' T f ∧ Fit T 0 0 ∧ Inv T ∧ Shr T) := Lib.hid ⟨_, _, S3, fit_none, inv_none, shr_none⟩
    have B4 : Hid (RowKit.Below R W w3) := Lib.hid (b2.trans (B3.mono l2))
    clear S3 B3 hb1 hb2 b2 l2 hkn
    go_wp2
    go_loopw [4] (fun v4 wr => ∃ i : Nat, v4 = .int .i64 i ∧ i ≤ n ∧ Hid (∃ T f, TabIs wr TB b1 b2' T f ∧ Fit T i i ∧ Inv T ∧ Shr T) ∧ Hid (RowKit.Below R W wr)) (fun v4 _ => n - (intOf v4).toNat)
    case atStart => exact ⟨0, rfl, Nat.zero_le _, S4, B4⟩
    case round =>
      clear S4 B4
      obtain ⟨i, rfl, hi, hT, hB⟩ := hrel
      obtain ⟨T, f, S, Z, I, H⟩ := hT.out
      clear hT
      have hRw : R ≤ wr.heap.size := by have := hB.out.size; omega
      by_cases hin : i < n
      · have hii : (i : Int) < (n : Int) := by omega
        obtain ⟨o, ho⟩ : ∃ o, l[i]? = some o := ⟨_, List.getElem?_eq_getElem (by omega)⟩
        obtain ⟨eb, off, rfl, hlt, c0, c1, c2, c3, c4, c5⟩ := lop_cells hV.out ho
        have hoo := hO.out o (List.mem_of_getElem? ho)
        obtain ⟨kd, tx, ⟨k1, k2, k3⟩, md⟩ := o
        simp only at c0 c1 c2 c3 c4 c5
        have hkd := hoo.kind
        have htx := hoo.txn
        have hkk := Lib.hid hoo.k
        simp only at hkd htx
        have lE : eb < R := by omega
        have hkp : Hid (∀ w', RowKit.Below R W w' → w'.cell? ⟨eb, off + i * 6, none⟩ = some (.int .u8 kd) ∧ w'.cell? ⟨eb, off + i * 6 + 1, none⟩ = some (.int .u32 tx) ∧ w'.cell? ⟨eb, off + i * 6 + 2, none⟩ = some (.int .u8 k1) ∧ w'.cell? ⟨eb, off + i * 6 + 3, none⟩ = some (.int .u32 k2) ∧ w'.cell? ⟨eb, off + i * 6 + 4, none⟩ = some (.int .u32 k3)) := Lib.hid fun w' b =>
          ⟨(b.cell (p := ⟨eb, off + i * 6, none⟩) lE).trans c0, (b.cell (p := ⟨eb, off + i * 6 + 1, none⟩) lE).trans c1, (b.cell (p := ⟨eb, off + i * 6 + 2, none⟩) lE).trans c2, (b.cell (p := ⟨eb, off + i * 6 + 3, none⟩) lE).trans c3, (b.cell (p := ⟨eb, off + i * 6 + 4, none⟩) lE).trans c4⟩
        have d0 := (hkp.out _ hB.out).1
        have d1 := (hkp.out _ hB.out).2.1
        clear c0 c1 c2 c3 c4 c5 hoo ho
        by_cases hk4 : kd % 6 = 4
        · have hrel := release_u S Z (by omega) tx htx
          have Z2 := Lib.hid ((relT_fit Z S.sorted tx).1.mono (Nat.le_succ i) (Nat.le_succ i))
          obtain ⟨h1, h2⟩ := shr_rel H tx
          have I2 := Lib.hid (rel_spec I tx).inv
          rw [h1] at hrel
          replace h2 := Lib.hid h2
          replace S := Lib.hid S
          replace Z := Lib.hid Z
          replace I := Lib.hid I
          replace H := Lib.hid H
          go_upto_region 11 with (go_at_call 26; refine hrel.mono ?_; rintro e w5 ⟨f5, v5, rfl, S5, O5, t5⟩)
          obtain ⟨a5, c5, rfl⟩ := row_shape O5.1
          have hT2 : Hid (∃ T f, TabIs w5 TB b1 b2' T f ∧ Fit T (i + 1) (i + 1) ∧ Inv T ∧ Shr T) := Lib.hid ⟨_, _, S5, Z2.out, I2.out, h2.out⟩
          have hB2 := Lib.hid (hB.out.trans (t5.below (by omega) (by omega) hRw))
          clear S5 O5 t5 hrel
          simp only [List.length_nil]
          go_wp2
          go_roundw
          case rel => exact ⟨i + 1, by go_num, by omega, hT2, hB2⟩
          case measure => simp [intOf]; omega
        · have hak := ask_u S.drew (by have := Z.keys; omega) (by have := Z.waits; omega) tx htx (k1, k2, k3) hkk.out 1 (by have := Z.size (k1, k2, k3); omega) (by have := Z.size (k1, k2, k3); omega)
          have Z2 := Lib.hid (askT_fit Z htx (k1, k2, k3) 1)
          obtain ⟨h1, h2⟩ := shr_ask H tx (k1, k2, k3)
          have I2 := Lib.hid (inv_ask I tx (k1, k2, k3) 1)
          rw [h1] at hak
          replace h2 := Lib.hid h2
          replace S := Lib.hid S
          replace Z := Lib.hid Z
          replace I := Lib.hid I
          replace H := Lib.hid H
          have hkp2 : Hid (∀ w', Two b1 b2' wr w' → w'.cell? ⟨eb, off + i * 6, none⟩ = some (.int .u8 kd) ∧ w'.cell? ⟨eb, off + i * 6 + 1, none⟩ = some (.int .u32 tx) ∧ w'.cell? ⟨eb, off + i * 6 + 2, none⟩ = some (.int .u8 k1) ∧ w'.cell? ⟨eb, off + i * 6 + 3, none⟩ = some (.int .u32 k2) ∧ w'.cell? ⟨eb, off + i * 6 + 4, none⟩ = some (.int .u32 k3)) := Lib.hid fun w' h => hkp.out w' (hB.out.trans (h.below (by omega) (by omega) hRw))
          go_upto_region 13 with fail
          go_region_held2 (fun w' => w'.cell? ⟨eb, off + i * 6, none⟩ = some (.int .u8 kd) ∧ w'.cell? ⟨eb, off + i * 6 + 1, none⟩ = some (.int .u32 tx) ∧ w'.cell? ⟨eb, off + i * 6 + 2, none⟩ = some (.int .u8 k1) ∧ w'.cell? ⟨eb, off + i * 6 + 3, none⟩ = some (.int .u32 k2) ∧ w'.cell? ⟨eb, off + i * 6 + 4, none⟩ = some (.int .u32 k3))
            (first | exact hkp2.out _ (Two.of0 (RowKit.Below.refl _ _).drew) | exact hkp2.out _ ((Two.of0 (RowKit.Below.refl _ _).drew).trans t7) | go_keep)
            (first
              | (go_at_call 25; refine hak.mono ?_; rintro e w7 ⟨f7, rfl, S7, t7⟩))
          have hT2 : Hid (∃ T f, TabIs w7 TB b1 b2' T f ∧ Fit T (i + 1) (i + 1) ∧ Inv T ∧ Shr T) := Lib.hid ⟨_, _, S7, Z2.out, I2.out, h2.out⟩
          have hB2 := Lib.hid (hB.out.trans (((Two.of0 (b1 := b1) (b2 := b2') (RowKit.Below.refl _ wr).drew).trans t7).below (by omega) (by omega) hRw))
          clear S7 t7 hak
          go_wp2
          go_roundw
          case rel => exact ⟨i + 1, by go_num, by omega, hT2, hB2⟩
          case measure => simp [intOf]; omega
      · obtain rfl : i = n := by omega
        have hE := edges_u S I Z (by omega)
        rw [shr_edges H] at hE
        replace S := Lib.hid S
        replace Z := Lib.hid Z
        replace I := Lib.hid I
        replace H := Lib.hid H
        simp only [OwnE, List.length_nil] at hE
        go_wp2_with (go_at_call 31; refine hE.mono ?_; rintro e w8 ⟨v8, rfl, O8, b8⟩; obtain ⟨a8, c8, rfl⟩ := row_shape O8)
        go_ret
        exact ⟨by simp, hB.out.trans (b8.mono hRw)⟩
end Go.Proofs.Ytilknhackmccpaa
