/- SameCells; all that is there is one list; The chapter's example in the statements on the model. -/
import Derived.Test.YtdbpjbmalinlbaaGreatModI
import Derived.Test.YtdbpjbmalinlbaaGreatModL
namespace Go.Proofs.YtdbpjbmalinlbaaGreat
open Go.RowKit

set_option maxRecDepth 100000 in
set_option maxHeartbeats 2000000 in
/-- Two rows of the same cells are the same. -/
theorem samec_any (l : List Cel) (v1 v2 : Value) (b1 b2 : Nat) (w : World) (h1 : w.ownsRow b1 57 6 v1 l.length (celCells l)) (h2 : w.ownsRow b2 57 6 v2 l.length (celCells l)) :
    Calls Tryz.prog 8 #[v1, v2] w fun e w' => e = .returned (.bool true) ∧ Below w.heap.size w w' := by
  have hl := owns_max h1
  obtain ⟨a1, c1, rfl⟩ := owns_shape h1
  obtain ⟨a2, c2, rfl⟩ := owns_shape h2
  have H1 := Lib.hid h1
  have H2 := Lib.hid h2
  clear h1 h2
  go_enter Tryz.func8, Tryz.ntmps8
  go_wp2_with fail
  go_loopw [5] (fun i wr => ∃ k : Nat, k ≤ l.length ∧ i = .int .i64 (k : Int) ∧ Hid (Below w.heap.size w wr)) (fun i _ => l.length - (intOf i).toNat)
  case atStart => exact ⟨0, Nat.zero_le _, rfl, Lib.hid (Below.refl _ _)⟩
  case round =>
    obtain ⟨k, hk, rfl, B⟩ := hrel
    by_cases hlt : k < l.length
    · have K1 := H1.out
      have K2 := H2.out
      obtain ⟨g1, rfl⟩ := owns_row K1 (by omega)
      obtain ⟨g2, rfl⟩ := owns_row K2 (by omega)
      obtain ⟨q, hq⟩ : ∃ q, l[k]? = some q := ⟨_, List.getElem?_eq_getElem hlt⟩
      obtain ⟨d0, d1, d2, d3, d4, d5, ld⟩ := cel_cells (owns_below K1 B.out) hq
      obtain ⟨e0, e1, e2, e3, e4, e5, le⟩ := cel_cells (owns_below K2 B.out) hq
      have hl1 : (k : Int) < (l.length : Int) := by omega
      replace hq := Lib.hid hq
      clear K1 K2
      go_upto_region 6 with fail
      go_quiet (fail)
      go_wp2_with fail
      go_roundw
      case rel => exact ⟨k + 1, by omega, by go_num, Lib.hid (below_drewN B.out nq)⟩
      case measure => simp [intOf]; omega
    · obtain rfl : k = l.length := by omega
      go_wp2_with fail
      go_ret
      exact ⟨rfl, B.out⟩

theorem KLt.asymm {a b : Ky} (h : KLt a b) : ¬ KLt b a := by unfold KLt at *; omega
theorem klt_total {a b : Ky} (h : a ≠ b) (h1 : ¬ KLt a b) : KLt b a := by
  obtain ⟨a1, a2, a3⟩ := a
  obtain ⟨b1, b2, b3⟩ := b
  have : ¬ (a1 = b1 ∧ a2 = b2 ∧ a3 = b3) := fun ⟨e1, e2, e3⟩ => h (by rw [e1, e2, e3])
  unfold KLt at *
  simp only at *
  omega
theorem IsAll.strict {f : Mp} {l : List Cel} (h : IsAll f l) : l.Pairwise fun a b => KLt a.k b.k := by
  have := List.Pairwise.and h.sorted h.apart
  exact this.imp fun ⟨h1, h2⟩ => by
    rcases Decidable.em (KLt _ _) with h3 | h3
    · exact h3
    · exact absurd (klt_total h2 h3) h1
theorem IsAll.eq_of_key {f : Mp} {l l' : List Cel} (h : IsAll f l) (h' : IsAll f l') {a b : Cel} (ha : a ∈ l) (hb : b ∈ l') (e : a.k = b.k) : a = b := by
  obtain ⟨i1, _, v1⟩ := h.there a ha
  obtain ⟨i2, _, v2⟩ := h'.there b hb
  obtain ⟨k1, x1, y1⟩ := a
  obtain ⟨k2, x2, y2⟩ := b
  simp only at e i1 i2 v1 v2
  subst e
  rw [v1] at v2
  cases v2
  rw [i1, i2]
theorem IsAll.sub {f : Mp} {l l' : List Cel} (h : IsAll f l) (h' : IsAll f l') : ∀ a ∈ l, a ∈ l' := fun a ha => by
  obtain ⟨b, hb, e⟩ := h'.all a.k a.v (h.there a ha).2.2
  rw [h.eq_of_key h' ha hb e.symm]
  exact hb
theorem strict_unique : ∀ {l l' : List Cel}, l.Pairwise (fun a b => KLt a.k b.k) → l'.Pairwise (fun a b => KLt a.k b.k) → (∀ a, a ∈ l ↔ a ∈ l') → l = l'
  | [], [], _, _, _ => rfl
  | [], b :: l', _, _, h => absurd ((h b).2 (by simp)) (by simp)
  | a :: l, [], _, _, h => absurd ((h a).1 (by simp)) (by simp)
  | a :: l, b :: l', p, p', h => by
    obtain ⟨p1, p2⟩ := List.pairwise_cons.1 p
    obtain ⟨q1, q2⟩ := List.pairwise_cons.1 p'
    have hab : a = b := by
      rcases List.mem_cons.1 ((h a).1 (by simp)) with e | e
      · exact e
      · rcases List.mem_cons.1 ((h b).2 (by simp)) with e' | e'
        · exact e'.symm
        · exact absurd (q1 a e) (p1 b e').asymm
    subst hab
    have irr : ∀ x : Cel, ¬ KLt x.k x.k := fun x hx => hx.asymm hx
    have := strict_unique p2 q2 fun x => by
      constructor
      · intro hx
        rcases List.mem_cons.1 ((h x).1 (by simp [hx])) with e | e
        · subst e; exact absurd (p1 _ hx) (irr _)
        · exact e
      · intro hx
        rcases List.mem_cons.1 ((h x).2 (by simp [hx])) with e | e
        · subst e; exact absurd (q1 _ hx) (irr _)
        · exact e
    rw [this]
theorem IsAll.unique {f : Mp} {l l' : List Cel} (h : IsAll f l) (h' : IsAll f l') : l = l' := strict_unique h.strict h'.strict fun a => ⟨h.sub h' a, h'.sub h a⟩
end Go.Proofs.YtdbpjbmalinlbaaGreat

namespace Go.Proofs.YtdbpjbmalinlbaaGreat
open Go.RowKit

def kn1 : OpV := ⟨1, 1, 0, 0, 0, 0, 0⟩
def kn2 : OpV := ⟨2, 1, 0, 0, 0, 5, 0⟩
def kn3 : OpV := ⟨6, 1, 0, 0, 0, 2, 0⟩
theorem kn1_ok : OpOk kn1 := by unfold OpOk kn1; simp
theorem kn2_ok : OpOk kn2 := by unfold OpOk kn2; simp
theorem kn3_ok : OpOk kn3 := by unfold OpOk kn3; simp
def knf0 : Mp := fun _ => none
def knf1 : Mp := knf0.put (1, 1, 0) (0, 0)
def knf2 : Mp := knf1.put (1, 1, 0) (5, 0)
def knf3 : Mp := (knf2.put (1, 1, 0) (3, 0)).put (2, 1, 0) (2, 0)
theorem knE1 : ev knf0 (runT kn1) = ([⟨(1, 1, 0), (0, 0), false⟩], ⟨0, 1, 0, 0⟩) := by rfl
theorem knE2 : ev knf1 (runT kn2) = ([⟨(1, 1, 0), (5, 0), false⟩], ⟨0, 5, 0, 0⟩) := by rfl
theorem knE3 : ev knf2 (runT kn3) = ([⟨(1, 1, 0), (3, 0), false⟩, ⟨(2, 1, 0), (2, 0), false⟩], ⟨0, 3, 2, 0⟩) := by rfl
theorem knS1 : stepM knf0 kn1 = knf1 := by unfold stepM; rw [knE1]; rfl
theorem knS2 : stepM knf1 kn2 = knf2 := by unfold stepM; rw [knE2]; rfl
theorem knS3 : stepM knf2 kn3 = knf3 := by unfold stepM; rw [knE3]; rfl
def knL : List Cel := [⟨(1, 1, 0), (3, 0), true⟩, ⟨(2, 1, 0), (2, 0), true⟩]
theorem knAll : IsAll knf3 knL where
  sorted := by unfold Sorted knL; decide
  apart := by unfold knL; decide
  there := by
    intro c hc
    simp only [knL, List.mem_cons, List.not_mem_nil, or_false] at hc
    rcases hc with rfl | rfl
    · exact ⟨rfl, by unfold KyOk; decide, rfl⟩
    · exact ⟨rfl, by unfold KyOk; decide, rfl⟩
  all := by
    intro k v h
    unfold knf3 knf2 knf1 knf0 Mp.put at h
    by_cases h1 : k = (2, 1, 0)
    · exact ⟨⟨(2, 1, 0), (2, 0), true⟩, by simp [knL], h1.symm⟩
    · rw [if_neg h1] at h
      by_cases h2 : k = (1, 1, 0)
      · exact ⟨⟨(1, 1, 0), (3, 0), true⟩, by simp [knL], h2.symm⟩
      · rw [if_neg h2, if_neg h2, if_neg h2] at h; cases h
theorem mpOk_none : MpOk knf0 := fun _ _ h => by cases h

theorem knDo {A b n : Nat} {f f' : Mp} {w : World} (S : WSt A b n f w) (hn : n + 200 < maxLen) (hf : MpOk f) (o : OpV) (ho : OpOk o) {l : List Pt} {r : Rp} (hE : ev f (runT o) = (l, r)) (hS : stepM f o = f') :
    Calls Tryz.prog 7 #[.pointer (some ⟨A, 0, none⟩), opV o] w fun e w' =>
      e = .returned (.agg #[.int .u16 r.err, .int .u64 r.a, .int .u64 r.b, .int .u64 r.c]) ∧ WSt A b (n + l.length) f' w' ∧ w.grownBy w' (some b) := by
  have := doM_w S hn hf o ho
  rw [hE, hS] at this
  exact this
theorem mpOk_1 : MpOk knf1 := by have := mpOk_none.step kn1_ok; rwa [knS1] at this
theorem mpOk_2 : MpOk knf2 := by have := mpOk_1.step kn2_ok; rwa [knS2] at this
theorem mpOk_3 : MpOk knf3 := by have := mpOk_2.step kn3_ok; rwa [knS3] at this

set_option maxRecDepth 100000 in
set_option maxHeartbeats 4000000 in
theorem modelKnown_any (w : World) : Calls Tryz.prog 4 #[] w fun e w' => e = .returned (.bool true) ∧ Below w.heap.size w w' := by
  obtain ⟨N, hN⟩ : ∃ N, N = w.heap.size := ⟨_, rfl⟩
  have hNw := new_any w
  rw [← hN] at hNw ⊢
  clear hN
  go_enter Tryz.func4, Tryz.ntmps4
  go_upto_region 4 with (go_at_call 5; refine hNw.mono ?_; rintro e w1 ⟨rfl, hm, hc, B1⟩)
  have S1 : WSt (N + 1) N 0 knf0 w1 := ⟨hc, hm⟩
  clear hm hc
  have lN1 : N + 1 < w1.heap.size := S1.ltA
  have hK0 := knDo S1 (by unfold maxLen; omega) mpOk_none kn1 kn1_ok knE1 knS1
  have hD0 : Calls Tryz.prog 7 #[.pointer (some ⟨N + 1, 0, none⟩), .agg #[.int .u8 1, .int .u32 1, .int .u32 0, .int .u32 0, .int .u32 0, .int .u64 0, .int .u64 0]] w1 fun e w' => e = .returned (.agg #[.int .u16 0, .int .u64 1, .int .u64 0, .int .u64 0]) ∧ WSt (N + 1) N 1 knf1 w' ∧ w1.grownBy w' (some N) := hK0
  clear hK0
  go_upto_region 5 with (go_at_call 7; refine hD0.mono ?_; rintro e u1 ⟨rfl, T0, G0⟩)
  have S2 := T0.below (below_alloc u1 (.cells #[.int .u16 0, .int .u64 1, .int .u64 0, .int .u64 0] 35))
  have C1 : Below N w (u1.alloc (.cells #[.int .u16 0, .int .u64 1, .int .u64 0, .int .u64 0] 35)) := ((B1).trans (below_grown G0 (by omega) (fun x h => by cases h; exact Nat.le_refl _))).alloc (by have := G0.size; omega) (.cells #[.int .u16 0, .int .u64 1, .int .u64 0, .int .u64 0] 35)
  have r1 := heap_alloc_new u1 (.cells #[.int .u16 0, .int .u64 1, .int .u64 0, .int .u64 0] 35)
  have hb1 : N < u1.heap.size := T0.ltb
  obtain ⟨b1, hbe⟩ : ∃ x, x = u1.heap.size := ⟨_, rfl⟩
  obtain ⟨x1, hwe⟩ : ∃ x, x = u1.alloc (.cells #[.int .u16 0, .int .u64 1, .int .u64 0, .int .u64 0] 35) := ⟨_, rfl⟩
  rw [← hwe] at S2 C1 r1 ⊢
  rw [← hbe] at r1 hb1 ⊢
  clear hwe hbe hD0 T0 G0 S1 B1
  have lb1 : b1 < x1.heap.size := (Array.getElem?_eq_some_iff.1 r1).1
  have lN2 : N + 1 < x1.heap.size := S2.ltA
  have hK1 := knDo S2 (by unfold maxLen; omega) mpOk_1 kn2 kn2_ok knE2 knS2
  have hD1 : Calls Tryz.prog 7 #[.pointer (some ⟨N + 1, 0, none⟩), .agg #[.int .u8 2, .int .u32 1, .int .u32 0, .int .u32 0, .int .u32 0, .int .u64 5, .int .u64 0]] x1 fun e w' => e = .returned (.agg #[.int .u16 0, .int .u64 5, .int .u64 0, .int .u64 0]) ∧ WSt (N + 1) N 2 knf2 w' ∧ x1.grownBy w' (some N) := hK1
  clear hK1
  go_upto_region 6 with (go_at_call 7; refine hD1.mono ?_; rintro e u2 ⟨rfl, T1, G1⟩)
  have S3 := T1.below (below_alloc u2 (.cells #[.int .u16 0, .int .u64 5, .int .u64 0, .int .u64 0] 35))
  have C2 : Below N w (u2.alloc (.cells #[.int .u16 0, .int .u64 5, .int .u64 0, .int .u64 0] 35)) := ((C1).trans (below_grown G1 (by omega) (fun x h => by cases h; exact Nat.le_refl _))).alloc (by have := G1.size; omega) (.cells #[.int .u16 0, .int .u64 5, .int .u64 0, .int .u64 0] 35)
  have r2 := heap_alloc_new u2 (.cells #[.int .u16 0, .int .u64 5, .int .u64 0, .int .u64 0] 35)
  replace r1 := ((below_alloc u2 (.cells #[.int .u16 0, .int .u64 5, .int .u64 0, .int .u64 0] 35)).block _ (Nat.lt_of_lt_of_le lb1 G1.size)).trans ((G1.block _ lb1 (by simp; omega)).trans r1)
  have hb2 : N < u2.heap.size := T1.ltb
  obtain ⟨b2, hbe⟩ : ∃ x, x = u2.heap.size := ⟨_, rfl⟩
  obtain ⟨x2, hwe⟩ : ∃ x, x = u2.alloc (.cells #[.int .u16 0, .int .u64 5, .int .u64 0, .int .u64 0] 35) := ⟨_, rfl⟩
  rw [← hwe] at S3 C2 r1 r2 ⊢
  rw [← hbe] at r2 hb2 ⊢
  clear hwe hbe hD1 T1 G1 S2 C1
  have lb2 : b2 < x2.heap.size := (Array.getElem?_eq_some_iff.1 r2).1
  have lN3 : N + 1 < x2.heap.size := S3.ltA
  replace lb1 : b1 < x2.heap.size := (Array.getElem?_eq_some_iff.1 r1).1
  have hK2 := knDo S3 (by unfold maxLen; omega) mpOk_2 kn3 kn3_ok knE3 knS3
  have hD2 : Calls Tryz.prog 7 #[.pointer (some ⟨N + 1, 0, none⟩), .agg #[.int .u8 6, .int .u32 1, .int .u32 0, .int .u32 0, .int .u32 0, .int .u64 2, .int .u64 0]] x2 fun e w' => e = .returned (.agg #[.int .u16 0, .int .u64 3, .int .u64 2, .int .u64 0]) ∧ WSt (N + 1) N 4 knf3 w' ∧ x2.grownBy w' (some N) := hK2
  clear hK2
  go_upto_region 7 with (go_at_call 7; refine hD2.mono ?_; rintro e u3 ⟨rfl, T2, G2⟩)
  have S4 := T2.below (below_alloc u3 (.cells #[.int .u16 0, .int .u64 3, .int .u64 2, .int .u64 0] 35))
  have C3 : Below N w (u3.alloc (.cells #[.int .u16 0, .int .u64 3, .int .u64 2, .int .u64 0] 35)) := ((C2).trans (below_grown G2 (by omega) (fun x h => by cases h; exact Nat.le_refl _))).alloc (by have := G2.size; omega) (.cells #[.int .u16 0, .int .u64 3, .int .u64 2, .int .u64 0] 35)
  have r3 := heap_alloc_new u3 (.cells #[.int .u16 0, .int .u64 3, .int .u64 2, .int .u64 0] 35)
  replace r1 := ((below_alloc u3 (.cells #[.int .u16 0, .int .u64 3, .int .u64 2, .int .u64 0] 35)).block _ (Nat.lt_of_lt_of_le lb1 G2.size)).trans ((G2.block _ lb1 (by simp; omega)).trans r1)
  replace r2 := ((below_alloc u3 (.cells #[.int .u16 0, .int .u64 3, .int .u64 2, .int .u64 0] 35)).block _ (Nat.lt_of_lt_of_le lb2 G2.size)).trans ((G2.block _ lb2 (by simp; omega)).trans r2)
  have hb3 : N < u3.heap.size := T2.ltb
  obtain ⟨b3, hbe⟩ : ∃ x, x = u3.heap.size := ⟨_, rfl⟩
  obtain ⟨x3, hwe⟩ : ∃ x, x = u3.alloc (.cells #[.int .u16 0, .int .u64 3, .int .u64 2, .int .u64 0] 35) := ⟨_, rfl⟩
  rw [← hwe] at S4 C3 r1 r2 r3 ⊢
  rw [← hbe] at r3 hb3 ⊢
  clear hwe hbe hD2 T2 G2 S3 C2
  have lb3 : b3 < x3.heap.size := (Array.getElem?_eq_some_iff.1 r3).1
  have lN4 : N + 1 < x3.heap.size := S4.ltA
  replace lb1 : b1 < x3.heap.size := (Array.getElem?_eq_some_iff.1 r1).1
  replace lb2 : b2 < x3.heap.size := (Array.getElem?_eq_some_iff.1 r2).1
  have hG : Calls Tryz.prog 13 #[.pointer (some ⟨N + 1, 0, none⟩), .agg #[.int .u8 1, .int .u32 1, .int .u32 0]] x3 fun e w' => e = .returned (.tuple #[.agg #[.int .u64 3, .int .u64 0], .bool true]) ∧ Below x3.heap.size x3 w' :=
    get_w S4 (1, 1, 0) (by unfold KyOk; decide) (3, 0) true rfl rfl
  go_upto_region 8 with (go_at_call 13; refine hG.mono ?_; rintro e x4 ⟨rfl, B4⟩)
  have B5 := below_trans B4 (below_alloc x4 (.cells #[.int .u64 3, .int .u64 0] 48))
  have S5 := S4.below B5
  have C5 := C3.trans (B5.mono (by omega))
  have v5 := heap_alloc_new x4 (.cells #[.int .u64 3, .int .u64 0] 48)
  replace r1 := (B5.block _ lb1).trans r1
  replace r2 := (B5.block _ lb2).trans r2
  replace r3 := (B5.block _ lb3).trans r3
  obtain ⟨b5, hbe⟩ : ∃ x, x = x4.heap.size := ⟨_, rfl⟩
  obtain ⟨x5, hwe⟩ : ∃ x, x = x4.alloc (.cells #[.int .u64 3, .int .u64 0] 48) := ⟨_, rfl⟩
  rw [← hwe] at S5 C5 v5 r1 r2 r3 ⊢
  rw [← hbe] at v5 ⊢
  clear hwe hbe hG B4 B5 S4 C3
  have hC := coins_w S5 (by omega) mpOk_3
  replace lb1 : b1 < x5.heap.size := (Array.getElem?_eq_some_iff.1 r1).1
  replace lb2 : b2 < x5.heap.size := (Array.getElem?_eq_some_iff.1 r2).1
  replace lb3 : b3 < x5.heap.size := (Array.getElem?_eq_some_iff.1 r3).1
  have lb5 : b5 < x5.heap.size := (Array.getElem?_eq_some_iff.1 v5).1
  have l5 : N + 1 < x5.heap.size := S5.ltA
  go_upto_region 9 with (go_at_call 11; refine hC.mono ?_; rintro e x6 ⟨l, hl, rfl, B6⟩)
  obtain rfl := hl.unique knAll
  have C6 := C5.trans (B6.mono (by omega))
  obtain ⟨p0, p1, p2, p3⟩ := four_cells ((B6.block _ lb1).trans r1)
  obtain ⟨q0, q1, q2, q3⟩ := four_cells ((B6.block _ lb2).trans r2)
  obtain ⟨s0, s1, s2, s3⟩ := four_cells ((B6.block _ lb3).trans r3)
  obtain ⟨t0, t1⟩ := two_cells ((B6.block _ lb5).trans v5)
  have l61 : b1 < x6.heap.size := Nat.lt_of_lt_of_le lb1 B6.size
  have l62 : b2 < x6.heap.size := Nat.lt_of_lt_of_le lb2 B6.size
  have l63 : b3 < x6.heap.size := Nat.lt_of_lt_of_le lb3 B6.size
  have l65 : b5 < x6.heap.size := Nat.lt_of_lt_of_le lb5 B6.size
  have e1 : allV (coinsL knL) = 5 := by rfl
  have e2 : (allE (coinsL knL) == 0) = true := by rfl
  rw [e1, e2]
  clear hC hl r1 r2 r3 v5 S5 C5
  go_wp2_with fail
  go_ret
  exact ⟨rfl, C6⟩
end Go.Proofs.YtdbpjbmalinlbaaGreat
