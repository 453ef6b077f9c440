/- Contract of Items. -/
import Derived.Test.YtdbpjbmalinlbaaGreatModS
namespace Go.Proofs.YtdbpjbmalinlbaaGreat
open Go.RowKit

def itemC (it : Int) (c : Cel) : List Int := if (c.k.1 = 3 ∧ c.k.2.2 = it) ∨ (c.k.1 = 5 ∧ c.v.2 = it) then [c.v.1] else if c.k.1 = 6 ∧ lo32 c.v.1 = it then [c.v.2] else []
def itemsL (it : Int) (l : List Cel) : List Int := l.flatMap (itemC it)
theorem itemsL_take {it : Int} {l : List Cel} {j : Nat} {c : Cel} (h : l[j]? = some c) : itemsL it (l.take (j + 1)) = itemsL it (l.take j) ++ itemC it c := by
  rw [List.take_add_one, h]; simp [itemsL]
theorem itemsL_len (it : Int) (l : List Cel) : (itemsL it l).length ≤ l.length := by
  induction l with
  | nil => simp [itemsL]
  | cons c l ih =>
    have e : itemsL it (c :: l) = itemC it c ++ itemsL it l := rfl
    have h1 : (itemC it c).length ≤ 1 := by unfold itemC; split <;> (try split) <;> simp
    rw [e, List.length_append, List.length_cons]; omega
theorem itemsL_u {it : Int} {l : List Cel} (h : ∀ c ∈ l, VlOk c.v) : ∀ x ∈ itemsL it l, 0 ≤ x ∧ x ≤ 18446744073709551615 := by
  intro x hx
  simp only [itemsL, List.mem_flatMap] at hx
  obtain ⟨c, hc, hx⟩ := hx
  unfold itemC at hx
  split at hx
  · obtain rfl := List.mem_singleton.1 hx
    exact (h c hc).1
  · split at hx
    · obtain rfl := List.mem_singleton.1 hx
      exact (h c hc).2
    · cases hx
theorem items_tot (it : Int) (l : List Cel) : sumL (itemsL it l) = totL (Wi it) l := by
  induction l with
  | nil => rfl
  | cons c l ih =>
    have e : itemsL it (c :: l) = itemC it c ++ itemsL it l := rfl
    rw [e, sumL_app, ih]
    simp only [totL]
    unfold itemC Wi
    split <;> (try split) <;> simp [sumL]

set_option maxRecDepth 100000 in
set_option maxHeartbeats 8000000 in
theorem items_w {A b n : Nat} {f : Mp} {w : World} (S : WSt A b n f w) (hn : n ≤ 1000000) (hf : MpOk f) (it : Int) (i0 : 0 < it) (i1 : it ≤ 4294967295) :
    Calls Tryz.prog 12 #[.pointer (some ⟨A, 0, none⟩), .int .u32 it] w fun e w' => ∃ l, IsAll f l ∧ e = .returned (.tuple #[.int .u64 (allV (itemsL it l)), .bool (allE (itemsL it l) == 0)]) ∧ Below w.heap.size w w' := by
  have hW := all_w S hn hf
  obtain ⟨ii, hi, hz0, hz1, hz2⟩ := info_parts Tryz.infoU64
  obtain ⟨R, hR⟩ : ∃ R, R = w.heap.size := ⟨_, rfl⟩
  rw [← hR] at hW ⊢
  clear S
  replace hR := Lib.hid hR
  have w1 : IntKind.u64.wrap it = it := IntWalk.u64_in _ (by omega)
  have nz : ¬ it = 0 := by omega
  go_enter Tryz.func12, Tryz.ntmps12
  go_wp2_with (go_at_call 6; refine hW.mono ?_; rintro e w1 ⟨v, l, rfl, hA, hl, ho, B1⟩; obtain ⟨a8, c8, rfl⟩ := owns_shape ho)
  have hu := Lib.hid (hA.vals hf)
  replace hA := Lib.hid hA
  replace ho := Lib.hid ho
  clear hW hf
  have hR1 := B1.size
  have l1 : R ≤ w1.heap.size := by have := hR.out; omega
  go_loopw [6, 15] (fun u i wr => ∃ j : Nat, j ≤ l.length ∧ i = .int .i64 (j : Int) ∧ Hid (wr.ownsRow w1.heap.size 27 1 u (itemsL it (l.take j)).length (amtCells (itemsL it (l.take j)))) ∧ Hid (Below w1.heap.size w1 wr)) (fun _ i _ => l.length - (intOf i).toNat)
  case atStart => exact ⟨0, Nat.zero_le _, rfl, Lib.hid ⟨rfl, .inl ⟨rfl, rfl⟩⟩, Lib.hid (Below.refl _ _)⟩
  case round =>
    obtain ⟨j, hj, rfl, O, B⟩ := hrel
    obtain ⟨a4, c4, rfl⟩ := owns_shape O.out
    have hcl := itemsL_len it (l.take j)
    have hcl2 : (itemsL it (l.take j)).length ≤ l.length := by rw [List.length_take] at hcl; omega
    by_cases hlt : j < l.length
    · have ho2 := owns_below ho.out B.out
      obtain ⟨g, rfl⟩ := owns_row ho2 (by omega)
      obtain ⟨q, hq⟩ : ∃ q, l[j]? = some q := ⟨_, List.getElem?_eq_getElem hlt⟩
      obtain ⟨x0, x1, x2, x3, x4, x5, ld⟩ := cel_cells ho2 hq
      have hsn := Lib.hid (itemsL_take (it := it) hq)
      have hl1 : (j : Int) < (l.length : Int) := by omega
      clear ho2 hq
      go_upto_region 7 with fail
      have O1 := O.out.alloc (.cells #[.int .u8 q.k.1, .int .u32 q.k.2.1, .int .u32 q.k.2.2, .int .u64 q.v.1, .int .u64 q.v.2, .bool q.is] 57)
      have B2 := B.out.alloc B.out.size (.cells #[.int .u8 q.k.1, .int .u32 q.k.2.1, .int .u32 q.k.2.2, .int .u64 q.v.1, .int .u64 q.v.2, .bool q.is] 57)
      have pb := heap_alloc_new wr (.cells #[.int .u8 q.k.1, .int .u32 q.k.2.1, .int .u32 q.k.2.2, .int .u64 q.v.1, .int .u64 q.v.2, .bool q.is] 57)
      obtain ⟨CB, hCB⟩ : ∃ x, x = wr.heap.size := ⟨_, rfl⟩
      obtain ⟨w2, hw2⟩ : ∃ x, x = wr.alloc (.cells #[.int .u8 q.k.1, .int .u32 q.k.2.1, .int .u32 q.k.2.2, .int .u64 q.v.1, .int .u64 q.v.2, .bool q.is] 57) := ⟨_, rfl⟩
      rw [← hw2] at O1 B2 pb ⊢
      rw [← hCB] at pb ⊢
      have lC : CB < w2.heap.size := (Array.getElem?_eq_some_iff.1 pb).1
      clear hw2 hCB O B x0 x1 x2 x3 x4 x5 ld
      obtain ⟨y0, y1, y2, y3, y4, y5⟩ := six_cells pb
      go_upto_region 8 with fail
      have O2 := O1.alloc (.cells #[.int .u64 q.v.1, .int .u64 q.v.2] 48)
      have B3 := B2.alloc B2.size (.cells #[.int .u64 q.v.1, .int .u64 q.v.2] 48)
      have pv := heap_alloc_new w2 (.cells #[.int .u64 q.v.1, .int .u64 q.v.2] 48)
      replace pb := ((below_alloc w2 (.cells #[.int .u64 q.v.1, .int .u64 q.v.2] 48)).block _ lC).trans pb
      obtain ⟨VB, hVB⟩ : ∃ x, x = w2.heap.size := ⟨_, rfl⟩
      obtain ⟨w3, hw3⟩ : ∃ x, x = w2.alloc (.cells #[.int .u64 q.v.1, .int .u64 q.v.2] 48) := ⟨_, rfl⟩
      rw [← hw3] at O2 B3 pb pv ⊢
      rw [← hVB] at pv ⊢
      have lC3 : CB < w3.heap.size := (Array.getElem?_eq_some_iff.1 pb).1
      have lV3 : VB < w3.heap.size := (Array.getElem?_eq_some_iff.1 pv).1
      clear hw3 hVB O1 B2 y0 y1 y2 y3 y4 y5 lC
      obtain ⟨y0, y1, y2, y3, y4, y5⟩ := six_cells pb
      obtain ⟨z0, z1⟩ := two_cells pv
      replace pb := Lib.hid pb
      replace pv := Lib.hid pv
      have hnew1 := Lib.hid (heap_alloc_new w3 (.cells #[.int .u64 q.v.1] 27))
      have hnew2 := Lib.hid (heap_alloc_new w3 (.cells #[.int .u64 q.v.2] 27))
      have lw1 := B3.size
      obtain ⟨lo, hlo⟩ : ∃ x, IntKind.u32.wrap q.v.1 = x := ⟨_, rfl⟩
      have hC : Hid (itemC it q = if (q.k.1 = 3 ∧ q.k.2.2 = it) ∨ (q.k.1 = 5 ∧ q.v.2 = it) then [q.v.1] else if q.k.1 = 6 ∧ lo = it then [q.v.2] else []) := Lib.hid (by unfold itemC; rw [← hlo])
      have hu0 : undef = Value.tuple #[] := rfl
      have hc : ((q.k.1 = 3 ∧ q.k.2.2 = it) ∨ (q.k.1 = 5 ∧ q.v.2 = it)) ∨ (q.k.1 = 6 ∧ lo = it) ∨ ((q.k.1 = 3 ∧ ¬ q.k.2.2 = it) ∨ (q.k.1 = 5 ∧ ¬ q.v.2 = it) ∨ (q.k.1 = 6 ∧ ¬ lo = it) ∨ (¬ q.k.1 = 3 ∧ ¬ q.k.1 = 5 ∧ ¬ q.k.1 = 6)) := by omega
      rcases hc with hc | hc | hc
      · have e : Hid (itemC it q = [q.v.1]) := Lib.hid (hC.out.trans (if_pos hc))
        clear hC
        rcases hc with ⟨h, h'⟩ | ⟨h, h'⟩
        all_goals (
          rw [h] at y0
          go_wp2_with (first
            | (refine wpList_append_lies _ (by rfl) _ _ _ (by rfl) w1.heap.size 27 ii _ 1 8 Tryz.underlying68 hi hz0 hz1 hz2 rfl (by omega) (.slice a4 (itemsL it (l.take j)).length c4) (itemsL it (l.take j)).length (amtCells (itemsL it (l.take j))) (by rfl) (O2.alloc _)
                    ⟨w3.heap.size, 0, none⟩ 1 1 [.int .u64 q.v.1] (by rfl) (by rfl) (World.news_of_block hnew1.out) (by simp [Value.oneCell'])
                    (by omega) (by unfold maxLen; omega) (by omega) (by simp; omega) (w3.heap.size + 1) (by simp) ?_
               intro gg gcap w4 hown hgrow hat hltg))
          have B4 : Below w1.heap.size w1 w4 := B3.trans ((below_alloc w3 (.cells #[.int .u64 q.v.1] 27) |>.mono lw1).trans (below_grown hgrow (by simp; omega) (fun x hx => (owns_lt O2 hx).1)))
          go_roundw
          case rel => first | exact ⟨j + 1, by omega, by go_num, by rw [hsn.out, e.out, amtCells_snoc, List.length_append]; exact Lib.hid hown, Lib.hid B4⟩ | ((repeat apply Exists.intro); exact ⟨⟨j + 1, by omega, by go_num, by rw [hsn.out, e.out, amtCells_snoc, List.length_append]; exact Lib.hid hown, Lib.hid B4⟩, rfl⟩)
          case measure => simp [intOf]; omega)
      · obtain ⟨h, h'⟩ := hc
        have e : Hid (itemC it q = [q.v.2]) := Lib.hid (hC.out.trans (by rw [if_neg (by omega), if_pos ⟨h, h'⟩]))
        clear hC
        rw [h] at y0
        go_wp2_with (first
          | (refine wpList_append_lies _ (by rfl) _ _ _ (by rfl) w1.heap.size 27 ii _ 1 8 Tryz.underlying68 hi hz0 hz1 hz2 rfl (by omega) (.slice a4 (itemsL it (l.take j)).length c4) (itemsL it (l.take j)).length (amtCells (itemsL it (l.take j))) (by rfl) (O2.alloc _)
                  ⟨w3.heap.size, 0, none⟩ 1 1 [.int .u64 q.v.2] (by rfl) (by rfl) (World.news_of_block hnew2.out) (by simp [Value.oneCell'])
                  (by omega) (by unfold maxLen; omega) (by omega) (by simp; omega) (w3.heap.size + 1) (by simp) ?_
             intro gg gcap w4 hown hgrow hat hltg))
        have B4 : Below w1.heap.size w1 w4 := B3.trans ((below_alloc w3 (.cells #[.int .u64 q.v.2] 27) |>.mono lw1).trans (below_grown hgrow (by simp; omega) (fun x hx => (owns_lt O2 hx).1)))
        go_roundw
        case rel => first | exact ⟨j + 1, by omega, by go_num, by rw [hsn.out, e.out, amtCells_snoc, List.length_append]; exact Lib.hid hown, Lib.hid B4⟩ | ((repeat apply Exists.intro); exact ⟨⟨j + 1, by omega, by go_num, by rw [hsn.out, e.out, amtCells_snoc, List.length_append]; exact Lib.hid hown, Lib.hid B4⟩, rfl⟩)
        case measure => simp [intOf]; omega
      · have e : Hid (itemC it q = []) := Lib.hid (hC.out.trans (by rw [if_neg (by omega), if_neg (by omega)]))
        clear hC
        rcases hc with ⟨h, h'⟩ | ⟨h, h'⟩ | ⟨h, h'⟩ | ⟨h, h', h3⟩
        all_goals (
          try rw [h] at y0
          go_wp2_with fail
          go_roundw
          case rel => first | exact ⟨j + 1, by omega, by go_num, by rw [hsn.out, e.out, List.append_nil]; exact Lib.hid O2, Lib.hid B3⟩ | ((repeat apply Exists.intro); exact ⟨⟨j + 1, by omega, by go_num, by rw [hsn.out, e.out, List.append_nil]; exact Lib.hid O2, Lib.hid B3⟩, rfl⟩)
          case measure => simp [intOf]; omega)
    · obtain rfl : j = l.length := by omega
      rw [List.take_length] at O
      have hs := sum_any _ _ _ _ O.out (itemsL_u hu.out)
      go_wp2_with (go_at_call 20; refine hs.mono ?_; rintro e w2 ⟨rfl, B2⟩)
      go_ret2
      have B3 := B1.trans ((below_trans B.out B2).mono l1)
      exact ⟨l, hA.out, rfl, B3⟩
set_option maxHeartbeats 400000 in
theorem items_0 (A : Nat) (w : World) :
    Calls Tryz.prog 12 #[.pointer (some ⟨A, 0, none⟩), .int .u32 0] w fun e w' => e = .returned (.tuple #[.int .u64 0, .bool true]) ∧ w = w' := by
  go_enter Tryz.func12, Tryz.ntmps12
  go_wp2
  go_ret2
  exact ⟨rfl, rfl⟩
end Go.Proofs.YtdbpjbmalinlbaaGreat
