/- Contracts of gone, put. -/
import Derived.Test.YtdbpjbmalinlbaaGreatRulE
namespace Go.Proofs.YtdbpjbmalinlbaaGreat
open Go.RowKit

def goneP (k : Ky) : Pt := ⟨k, (0, 0), true⟩
def keyRow (k : Ky) : List Value := [.int .u8 k.1, .int .u32 k.2.1, .int .u32 k.2.2]

section
variable {x : Nat} {o : OpV} {s : List Cel} {p : List Pt} {r : Rp} {w w' : World}

set_option maxRecDepth 100000 in
set_option maxHeartbeats 400000 in
theorem gone_any (b off cap : Nat) (ks : List Ky) (h : Hand x o s p r w) (hf : Far x w b) (hp : p.length + ks.length ≤ 1000)
    (hc : ∀ i k, ks[i]? = some k → ∀ j v, (keyRow k)[j]? = some v → w.cell? ⟨b, off + i * 3 + j, none⟩ = some v) :
    Calls Tryz.prog 90 #[.pointer (some ⟨x, 0, none⟩), .slice (some ⟨b, off, none⟩) ks.length cap] w fun e w' => e = .returned (.tuple #[]) ∧ Step x w w' ∧ Hand x o s (p ++ ks.map goneP) r w' := by
  obtain ⟨i0, hi, hz0, hz1, hz2⟩ := info_parts Tryz.infoPut
  have HH := Lib.hid h
  have HC := Lib.hid hc
  have HF := Lib.hid hf
  have hx := h.lt
  have hkl : (ks.length : Int) ≤ 1000 := by omega
  clear h hc hf
  go_enter Tryz.func90, Tryz.ntmps90
  go_wp2_with fail
  go_loopw [8] (fun i wr => ∃ j : Nat, j ≤ ks.length ∧ i = .int .i64 (j : Int) ∧ Step x w wr ∧ Hid (Hand x o s (p ++ (ks.take j).map goneP) r wr)) (fun i _ => ks.length - (intOf i).toNat)
  case atStart => exact ⟨0, Nat.zero_le _, rfl, Step.refl _ _, Lib.hid (by simpa using HH.out)⟩
  case round =>
    obtain ⟨j, hj, rfl, S, H⟩ := hrel
    by_cases hlt : j < ks.length
    · obtain ⟨k, hk⟩ : ∃ k, ks[j]? = some k := ⟨_, List.getElem?_eq_getElem hlt⟩
      have h := H.out
      have e0 : wr.cell? ⟨b, off + j * 3, none⟩ = some (.int .u8 k.1) := (S.cell (p := ⟨b, _, none⟩) HF.out).trans (HC.out j k hk 0 _ rfl)
      have e1 : wr.cell? ⟨b, off + j * 3 + 1, none⟩ = some (.int .u32 k.2.1) := (S.cell (p := ⟨b, _, none⟩) HF.out).trans (HC.out j k hk 1 _ rfl)
      have e2 : wr.cell? ⟨b, off + j * 3 + 2, none⟩ = some (.int .u32 k.2.2) := (S.cell (p := ⟨b, _, none⟩) HF.out).trans (HC.out j k hk 2 _ rfl)
      have hxr := h.lt
      have f8 := h.frozen 8
      have hpl : (p ++ (ks.take j).map goneP).length + 1 ≤ 1000 := by simp; omega
      obtain ⟨pp, hpp⟩ : ∃ pp, p ++ (ks.take j).map goneP = pp := ⟨_, rfl⟩
      have hend : Hid (p ++ (ks.take (j + 1)).map goneP = pp ++ [goneP k]) := Lib.hid (by rw [← hpp, List.take_add_one, hk]; simp)
      rw [hpp] at H h hpl
      obtain ⟨sv, pv, h1, h2, h3, h4⟩ := h
      have c8 : wr.cell? ⟨x, 8, none⟩ = some pv := by simp [cell_of_heap h1, handCells]
      have H3 := Lib.hid h3
      clear h1 h2 h3 h4 hk hpp
      have hl1 : (j : Int) < (ks.length : Int) := by omega
      have hx1 : x < wr.heap.size + 1 := by omega
      have hx2 : x < wr.heap.size + 1 + 1 := by omega
      have hne : some x ≠ pv.ownBlock := fun hq => by have := (owns_lt H3.out hq.symm).1; omega
      have hnew : Hid (((wr.alloc (.cells #[.int .u8 k.1, .int .u32 k.2.1, .int .u32 k.2.2] 52)).alloc (.cells #[.int .u8 k.1, .int .u32 k.2.1, .int .u32 k.2.2, .int .u64 0, .int .u64 0, .bool true] 66)).drew.heap[wr.heap.size + 1]? = some (.cells #[.int .u8 k.1, .int .u32 k.2.1, .int .u32 k.2.2, .int .u64 0, .int .u64 0, .bool true] 66 (0, 0))) := by
        have := heap_alloc_new (wr.alloc (.cells #[.int .u8 k.1, .int .u32 k.2.1, .int .u32 k.2.2] 52)) (.cells #[.int .u8 k.1, .int .u32 k.2.1, .int .u32 k.2.2, .int .u64 0, .int .u64 0, .bool true] 66)
        rw [World.size_alloc] at this
        exact Lib.hid this
      go_upto_region 3 with fail
      go_region_law (first
        | (refine step_append_lies _ (by rfl) _ _ _ (by rfl) (x + 1) 66 i0 _ 6 40 Tryz.underlying62 hi hz0 hz1 hz2 rfl (by omega) pv pp.length (ptCells pp) (by rfl) (((H3.out.alloc _).alloc _).drew)
                ⟨wr.heap.size + 1, 0, none⟩ 1 1 (ptRow (goneP k)) (by rfl) (by rfl) (World.news_of_block hnew.out) (by simp [Value.oneCell', ptRow, goneP])
                (by omega) (by unfold maxLen; omega) (by omega) (by simp; omega) (wr.heap.size + 1 + 1) (by simp) ?_
           intro gg gcap w1 hown' hgrow hat hlt'
           have g8 : w1.cell? ⟨x, 8, none⟩ = some pv := (hgrow.cell_far _ (by simp; omega) hne).trans ((Below.cell (((Below.refl wr.heap.size wr).alloc (Nat.le_refl _) _).alloc (by simp) _).drew hxr).trans c8)
           have gf : w1.frozen? ⟨x, 8, none⟩ = false := (hgrow.frozen_far _ (by simp; omega) hne).trans ((Below.frozen (((Below.refl wr.heap.size wr).alloc (Nat.le_refl _) _).alloc (by simp) _).drew hxr).trans f8)))
      all_goals (
        go_wp2_with fail
        obtain ⟨S2, H2⟩ := put_end ((H.out.alloc _).alloc _).drew (by first | exact (Below.cell (((Below.refl wr.heap.size wr).alloc (Nat.le_refl _) _).alloc (by simp) _).drew hxr).trans c8) hgrow hown' rfl (by simpa using hat) (by omega)
        go_roundw
        case rel => exact ⟨j + 1, by omega, by go_num, S.trans (((((Step.refl x wr).alloc hxr _).alloc (by simp; omega) _).drew).trans S2), Lib.hid (by rw [hend.out]; exact H2)⟩
        case measure => simp [intOf]; omega)
    · obtain rfl : j = ks.length := by omega
      go_wp2_with fail
      go_end0
      have := H.out
      rw [List.take_length] at this
      exact ⟨rfl, S, this⟩

/-- A new block with one key is told away. -/
theorem far_new {ob : Obj} (h : Hand x o s p r w) : Far x (w.alloc ob) w.heap.size := h.farNew ob

set_option maxHeartbeats 400000 in
theorem gone_one (k : Ky) (h : Hand x o s p r w) (hp : p.length + 1 ≤ 1000) (cap B : Nat) (hB : w.heap.size = B) :
    Calls Tryz.prog 90 #[.pointer (some ⟨x, 0, none⟩), .slice (some ⟨B, 0, none⟩) 1 cap] (w.alloc (.cells #[.int .u8 k.1, .int .u32 k.2.1, .int .u32 k.2.2] 52)) fun e w' => e = .returned (.tuple #[]) ∧ Step x w w' ∧ Hand x o s (p ++ [goneP k]) r w' := by
  subst hB
  refine (gone_any w.heap.size 0 cap [k] (h.alloc _) (h.farNew _) (by simpa using hp) ?_).mono fun e w' ⟨he, S, H⟩ => ⟨he, ((Step.refl x w).alloc h.lt _).trans S, H⟩
  intro i k' hk j v hv
  match i, hk with
  | 0, hk =>
    simp at hk; subst hk
    have h1 := heap_alloc_new w (.cells #[.int .u8 k.1, .int .u32 k.2.1, .int .u32 k.2.2] 52)
    rw [cell_of_heap h1]
    match j, hv with
    | 0, hv => simpa [keyRow] using hv
    | 1, hv => simpa [keyRow] using hv
    | 2, hv => simpa [keyRow] using hv
    | j + 3, hv => simp [keyRow] at hv
  | i + 1, hk => simp at hk

def putP (k : Ky) (a : Int) : Pt := if k.1 = 3 ∧ a = 0 then goneP k else ⟨k, (a, 0), false⟩

theorem set_a (k : Ky) (a : Int) (h : Hand x o s p r w) (hp : p.length + 1 ≤ 1000) :
    Calls Tryz.prog 84 #[.pointer (some ⟨x, 0, none⟩), .agg #[.int .u8 k.1, .int .u32 k.2.1, .int .u32 k.2.2], .agg #[.int .u64 a, .int .u64 0]] w fun e w' => e = .returned (.tuple #[]) ∧ Step x w w' ∧ Hand x o s (p ++ [⟨k, (a, 0), false⟩]) r w' := set_any k (a, 0) h hp

set_option maxHeartbeats 400000 in
theorem put_any (k : Ky) (a : Int) (h : Hand x o s p r w) (hp : p.length + 1 ≤ 1000) :
    Calls Tryz.prog 74 #[.pointer (some ⟨x, 0, none⟩), .agg #[.int .u8 k.1, .int .u32 k.2.1, .int .u32 k.2.2], .int .u64 a] w fun e w' => e = .returned (.tuple #[]) ∧ Step x w w' ∧ Hand x o s (p ++ [putP k a]) r w' := by
  obtain ⟨k1, k2, k3⟩ := k
  have hx := h.lt
  have h' := Lib.hid (h.alloc (.cells #[.int .u8 k1, .int .u32 k2, .int .u32 k3] 52))
  have S0 := (Step.refl x w).alloc hx (.cells #[.int .u8 k1, .int .u32 k2, .int .u32 k3] 52)
  clear h
  dsimp only
  by_cases h1 : k1 = 3
  · subst h1
    by_cases h2 : a = 0
    · have e1 : Hid (putP (3, k2, k3) a = goneP (3, k2, k3)) := Lib.hid (by unfold putP; rw [if_pos ⟨rfl, h2⟩])
      subst h2
      go_enter Tryz.func74, Tryz.ntmps74
      go_wp2_with fail
      refine (gone_one (3, k2, k3) h'.out hp _ _ (World.size_alloc _ _)).mono ?_
      rintro e w1 ⟨rfl, S, H⟩
      go_wp2_with fail
      exact bodyPost_ret (v := .tuple #[]) (by simp [results, Tryz.results74, go_sem]) rfl ⟨rfl, S0.trans S, by rw [e1.out]; exact H⟩
    · have e1 : Hid (putP (3, k2, k3) a = ⟨(3, k2, k3), (a, 0), false⟩) := Lib.hid (by unfold putP; rw [if_neg (by simp [h2])])
      go_enter Tryz.func74, Tryz.ntmps74
      go_wp2_with fail
      refine (set_a (3, k2, k3) a h'.out hp).mono ?_
      rintro e w1 ⟨rfl, S, H⟩
      go_wp2_with fail
      go_end0
      exact ⟨rfl, S0.trans S, by rw [e1.out]; exact H⟩
  · have e1 : Hid (putP (k1, k2, k3) a = ⟨(k1, k2, k3), (a, 0), false⟩) := Lib.hid (by unfold putP; rw [if_neg (by simp [h1])])
    go_enter Tryz.func74, Tryz.ntmps74
    go_wp2_with fail
    refine (set_a (k1, k2, k3) a h'.out hp).mono ?_
    rintro e w1 ⟨rfl, S, H⟩
    go_wp2_with fail
    go_end0
    exact ⟨rfl, S0.trans S, by rw [e1.out]; exact H⟩
end
end Go.Proofs.YtdbpjbmalinlbaaGreat
