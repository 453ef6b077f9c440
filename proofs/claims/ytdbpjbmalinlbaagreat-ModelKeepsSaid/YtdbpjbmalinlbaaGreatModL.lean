/- Contracts of money.All, sum; Contract of Coins. -/
import Derived.Test.YtdbpjbmalinlbaaGreatModI
namespace Go.Proofs.YtdbpjbmalinlbaaGreat
open Go.RowKit

/-! ### All -/
def sumL (l : List Int) : Int := l.foldl (· + ·) 0
theorem foldl_add (l : List Int) (a : Int) : l.foldl (· + ·) a = a + sumL l := by
  unfold sumL
  induction l generalizing a with
  | nil => simp
  | cons x l ih => simp only [List.foldl_cons]; rw [ih, ih (0 + x)]; omega
theorem sumL_app (l m : List Int) : sumL (l ++ m) = sumL l + sumL m := by
  show (l ++ m).foldl (· + ·) 0 = _
  rw [List.foldl_append, foldl_add]; rfl
theorem sumL_nonneg (l : List Int) (h : ∀ x ∈ l, 0 ≤ x) : 0 ≤ sumL l := by
  induction l with
  | nil => simp [sumL]
  | cons x l ih =>
    have := sumL_app [x] l
    have h1 := ih fun y hy => h y (List.mem_cons_of_mem _ hy)
    have h2 := h x List.mem_cons_self
    have h3 : sumL [x] = x := by simp [sumL]
    rw [show [x] ++ l = x :: l from rfl] at this
    omega
theorem sumL_succ (l : List Int) (k : Nat) (h : k < l.length) : sumL (l.take (k + 1)) = sumL (l.take k) + l[k]?.getD 0 := by
  rw [List.take_succ_eq_append_getElem h, sumL_app, List.getElem?_eq_getElem h]; simp [sumL]
theorem sumL_take_le (l : List Int) (k : Nat) (h : ∀ x ∈ l, 0 ≤ x) : sumL (l.take k) ≤ sumL l := by
  have e := sumL_app (l.take k) (l.drop k)
  rw [List.take_append_drop] at e
  have := sumL_nonneg (l.drop k) fun x hx => h x (List.mem_of_mem_drop hx)
  omega

def allV (l : List Int) : Int := if 4611686018427387904 < sumL l then 0 else sumL l
def allE (l : List Int) : Int := if 4611686018427387904 < sumL l then 30 else 0

/-- A row of amounts in memory. -/
def RowU (w : World) (a : Option Addr) (l : List Int) : Prop :=
  (∀ x ∈ l, 0 ≤ x ∧ x ≤ 18446744073709551615) ∧ (l = [] ∨ ∃ b off, a = some ⟨b, off, none⟩ ∧ ∀ i, i < l.length → w.cell? ⟨b, off + i, none⟩ = some (.int .u64 (l.getD i 0)))

theorem RowU.below {w w' : World} {a : Option Addr} {l : List Int} (h : RowU w a l) (k : Below w.heap.size w w') : RowU w' a l := by
  refine ⟨h.1, ?_⟩
  rcases h.2 with h | ⟨b, off, ha, hc⟩
  · exact .inl h
  · exact .inr ⟨b, off, ha, fun i hi => by rw [k.cell (World.block_lt_of_cell? _ _ (hc i hi))]; exact hc i hi⟩

theorem getD_mem (l : List Int) (k : Nat) (h : k < l.length) : l[k]?.getD 0 ∈ l := by
  rw [List.getElem?_eq_getElem h]; exact List.getElem_mem h

set_option maxHeartbeats 400000 in
theorem all_any (a : Option Addr) (l : List Int) (cap : Nat) (w : World) (hr : RowU w a l) (hm : l.length ≤ 9223372036854775807) :
    Calls Tryz.prog 29 #[.slice a l.length cap] w fun e w' => e = .returned (.tuple #[.int .u64 (allV l), .int .u16 (allE l)]) ∧ Below w.heap.size w w' := by
  obtain ⟨hb, hc⟩ := hr
  have hnn : ∀ x ∈ l, 0 ≤ x := fun x hx => (hb x hx).1
  have HC := Lib.hid hc
  have HB := Lib.hid hb
  have HN := Lib.hid hnn
  clear hc hb hnn
  go_enter Tryz.func29, Tryz.ntmps29
  go_wp2_with fail
  go_loopw [4, 10] (fun s4 s10 wr => ∃ (k : Nat) (s : Int), k ≤ l.length ∧ s10 = .int .i64 k ∧ s4 = .int .u64 s ∧ s = sumL (l.take k) ∧ s ≤ 4611686018427387904 ∧ Below w.heap.size w wr) (fun _ s10 _ => l.length - (intOf s10).toNat)
  case atStart => exact ⟨0, 0, Nat.zero_le _, rfl, rfl, rfl, by omega, Below.refl _ _⟩
  case round =>
    obtain ⟨k, s, hk, rfl, rfl, hs, hg, B⟩ := hrel
    have s0 : 0 ≤ s := by rw [hs]; exact sumL_nonneg _ fun x hx => HN.out x (List.mem_of_mem_take hx)
    have HS := Lib.hid hs
    clear hs
    by_cases hlt : k < l.length
    · obtain ⟨x, hx⟩ : ∃ x, l[k]?.getD 0 = x := ⟨_, rfl⟩
      have hxb := HB.out _ (getD_mem l k hlt)
      have e1 := sumL_succ l k hlt
      rw [hx] at e1 hxb
      rw [← HS.out] at e1
      have E1 := Lib.hid e1
      have x0 := hxb.1
      have le := sumL_take_le l (k + 1) HN.out
      rw [e1] at le
      rcases HC.out with h | ⟨b, off, rfl, hc⟩
      · subst h; simp at hlt
      · have hcell : wr.cell? ⟨b, off + k, none⟩ = some (.int .u64 x) := by
          rw [B.cell (World.block_lt_of_cell? _ _ (hc k hlt)), hc k hlt, List.getD_eq_getElem?_getD, hx]
        have HX := Lib.hid hx
        clear hx hc e1 hxb
        by_cases hbig : s + x ≤ 4611686018427387904
        · obtain ⟨v1, v2⟩ := add_ok (a := s) (b := x) hg (by omega) hbig
          clear le
          go_wp2_with fail
          refine (add_any _ _ _ s0 x0).mono ?_
          rintro e w1 ⟨rfl, k1⟩
          go_wp2_with fail
          go_roundw
          case rel => exact ⟨k + 1, s + x, by omega, by go_num, rfl, E1.out.symm, hbig, below_trans B k1⟩
          case measure => simp [intOf]; omega
        · obtain ⟨v1, v2⟩ := add_no (a := s) (b := x) (by omega)
          have A1 : Hid (allV l = 0) := Lib.hid (by unfold allV; rw [if_pos (by omega)])
          have A2 : Hid (allE l = 30) := Lib.hid (by unfold allE; rw [if_pos (by omega)])
          clear le
          go_wp2_with fail
          refine (add_any _ _ _ s0 x0).mono ?_
          rintro e w1 ⟨rfl, k1⟩
          go_wp2_with fail
          go_ret2
          exact ⟨ret_two A1.out.symm A2.out.symm, below_trans B k1⟩
    · obtain rfl : k = l.length := by omega
      have A1 : Hid (allV l = s) := Lib.hid (by have := HS.out; rw [List.take_length] at this; unfold allV; rw [← this, if_neg (by omega)])
      have A2 : Hid (allE l = 0) := Lib.hid (by have := HS.out; rw [List.take_length] at this; unfold allE; rw [← this, if_neg (by omega)])
      go_wp2_with fail
      go_ret2
      exact ⟨ret_two A1.out.symm A2.out.symm, B⟩

set_option maxHeartbeats 400000 in
theorem sum_any (v : Value) (l : List Int) (base : Nat) (w : World) (h : w.ownsRow base 27 1 v l.length (amtCells l)) (hl : ∀ x ∈ l, 0 ≤ x ∧ x ≤ 18446744073709551615) :
    Calls Tryz.prog 20 #[v] w fun e w' => e = .returned (.tuple #[.int .u64 (allV l), .bool (allE l == 0)]) ∧ Below w.heap.size w w' := by
  have hm := owns_max h
  have hr : ∃ a c, v = .slice a l.length c ∧ RowU w a l := by
    rcases id h.2 with ⟨rfl, h0⟩ | ⟨g, cap, cur, rfl, _⟩
    · have := List.eq_nil_of_length_eq_zero h0
      subst this
      exact ⟨none, 0, rfl, by simp, .inl rfl⟩
    · refine ⟨_, cap, rfl, hl, .inr ⟨g, 0, rfl, fun i hi => ?_⟩⟩
      rw [Nat.zero_add, h.cellAt i (by omega)]
      simp [amtCells, hi]
  obtain ⟨a, c, rfl, hr⟩ := hr
  have hA := all_any a l c w hr hm
  clear h hr
  obtain ⟨V, hV⟩ : ∃ x, x = allV l := ⟨_, rfl⟩
  obtain ⟨E, hE⟩ : ∃ x, x = allE l := ⟨_, rfl⟩
  rw [← hV, ← hE] at hA ⊢
  clear hV hE
  go_enter Tryz.func20, Tryz.ntmps20
  go_wp2_with (go_at_call 29; refine hA.mono ?_; rintro e w1 ⟨rfl, B1⟩)
  exact bodyPost_ret (v := .tuple #[.int .u64 V, .bool (E == 0)]) (by simp [results, Tryz.results20, go_sem]) rfl ⟨rfl, B1⟩
end Go.Proofs.YtdbpjbmalinlbaaGreat

namespace Go.Proofs.YtdbpjbmalinlbaaGreat
open Go.RowKit

def coinC (c : Cel) : List Int := if c.k.1 = 1 ∨ c.k.1 = 2 ∨ (c.k.1 = 7 ∧ c.k.2.2 = 0) ∨ (c.k.1 = 5 ∧ c.v.2 = 0) then [c.v.1] else []
def coinsL (l : List Cel) : List Int := l.flatMap coinC
theorem coinsL_take {l : List Cel} {j : Nat} {c : Cel} (h : l[j]? = some c) : coinsL (l.take (j + 1)) = coinsL (l.take j) ++ coinC c := by
  rw [List.take_add_one, h]; simp [coinsL]
theorem coinsL_len (l : List Cel) : (coinsL l).length ≤ l.length := by
  induction l with
  | nil => simp [coinsL]
  | cons c l ih =>
    have e : coinsL (c :: l) = coinC c ++ coinsL l := rfl
    have h1 : (coinC c).length ≤ 1 := by unfold coinC; split <;> simp
    rw [e, List.length_append, List.length_cons]; omega
theorem coinsL_u {l : List Cel} (h : ∀ c ∈ l, VlOk c.v) : ∀ x ∈ coinsL l, 0 ≤ x ∧ x ≤ 18446744073709551615 := by
  intro x hx
  simp only [coinsL, List.mem_flatMap] at hx
  obtain ⟨c, hc, hx⟩ := hx
  unfold coinC at hx
  split at hx
  · obtain rfl := List.mem_singleton.1 hx
    exact (h c hc).1
  · cases hx
theorem IsAll.vals {f : Mp} {l : List Cel} (h : IsAll f l) (hf : MpOk f) : ∀ c ∈ l, VlOk c.v := fun c hc => (hf _ _ (h.there c hc).2.2).2

set_option maxRecDepth 100000 in
set_option maxHeartbeats 8000000 in
theorem coins_w {A b n : Nat} {f : Mp} {w : World} (S : WSt A b n f w) (hn : n ≤ 1000000) (hf : MpOk f) :
    Calls Tryz.prog 11 #[.pointer (some ⟨A, 0, none⟩)] w fun e w' => ∃ l, IsAll f l ∧ e = .returned (.tuple #[.int .u64 (allV (coinsL l)), .bool (allE (coinsL l) == 0)]) ∧ Below w.heap.size w w' := by
  have hW := all_w S hn hf
  obtain ⟨i0, hi, hz0, hz1, hz2⟩ := info_parts Tryz.infoU64
  obtain ⟨R, hR⟩ : ∃ R, R = w.heap.size := ⟨_, rfl⟩
  rw [← hR] at hW ⊢
  clear S
  replace hR := Lib.hid hR
  go_enter Tryz.func11, Tryz.ntmps11
  go_wp2_with (go_at_call 6; refine hW.mono ?_; rintro e w1 ⟨v, l, rfl, hA, hl, ho, B1⟩; obtain ⟨a8, c8, rfl⟩ := owns_shape ho)
  have hu := Lib.hid (hA.vals hf)
  replace hA := Lib.hid hA
  replace ho := Lib.hid ho
  clear hW hf
  have hR1 := B1.size
  have l1 : R ≤ w1.heap.size := by have := hR.out; omega
  go_loopw [4, 10] (fun u i wr => ∃ j : Nat, j ≤ l.length ∧ i = .int .i64 (j : Int) ∧ Hid (wr.ownsRow w1.heap.size 27 1 u (coinsL (l.take j)).length (amtCells (coinsL (l.take j)))) ∧ Hid (Below w1.heap.size w1 wr)) (fun _ i _ => l.length - (intOf i).toNat)
  case atStart => exact ⟨0, Nat.zero_le _, rfl, Lib.hid ⟨rfl, .inl ⟨rfl, rfl⟩⟩, Lib.hid (Below.refl _ _)⟩
  case round =>
    obtain ⟨j, hj, rfl, O, B⟩ := hrel
    obtain ⟨a4, c4, rfl⟩ := owns_shape O.out
    have hcl := coinsL_len (l.take j)
    have hcl2 : (coinsL (l.take j)).length ≤ l.length := by rw [List.length_take] at hcl; omega
    by_cases hlt : j < l.length
    · have ho2 := owns_below ho.out B.out
      obtain ⟨g, rfl⟩ := owns_row ho2 (by omega)
      obtain ⟨q, hq⟩ : ∃ q, l[j]? = some q := ⟨_, List.getElem?_eq_getElem hlt⟩
      obtain ⟨x0, x1, x2, x3, x4, x5, ld⟩ := cel_cells ho2 hq
      have hsn := Lib.hid (coinsL_take hq)
      have hl1 : (j : Int) < (l.length : Int) := by omega
      clear ho2 hq
      go_upto_region 5 with fail
      have O2 := O.out.alloc (.cells #[.int .u8 q.k.1, .int .u32 q.k.2.1, .int .u32 q.k.2.2, .int .u64 q.v.1, .int .u64 q.v.2, .bool q.is] 57)
      have B2 := B.out.alloc B.out.size (.cells #[.int .u8 q.k.1, .int .u32 q.k.2.1, .int .u32 q.k.2.2, .int .u64 q.v.1, .int .u64 q.v.2, .bool q.is] 57)
      have pb := heap_alloc_new wr (.cells #[.int .u8 q.k.1, .int .u32 q.k.2.1, .int .u32 q.k.2.2, .int .u64 q.v.1, .int .u64 q.v.2, .bool q.is] 57)
      obtain ⟨CB, hCB⟩ : ∃ x, x = wr.heap.size := ⟨_, rfl⟩
      obtain ⟨w2, hw2⟩ : ∃ x, x = wr.alloc (.cells #[.int .u8 q.k.1, .int .u32 q.k.2.1, .int .u32 q.k.2.2, .int .u64 q.v.1, .int .u64 q.v.2, .bool q.is] 57) := ⟨_, rfl⟩
      rw [← hw2] at O2 B2 pb ⊢
      rw [← hCB] at pb ⊢
      have lC : CB < w2.heap.size := (Array.getElem?_eq_some_iff.1 pb).1
      clear hw2 hCB O B x0 x1 x2 x3 x4 x5 ld
      obtain ⟨y0, y1, y2, y3, y4, y5⟩ := six_cells pb
      replace pb := Lib.hid pb
      have hnewc := Lib.hid (heap_alloc_new w2 (.cells #[.int .u64 q.v.1] 27))
      have lw1 := B2.size
      have hyes : (q.k.1 = 1 ∨ q.k.1 = 2 ∨ (q.k.1 = 7 ∧ q.k.2.2 = 0) ∨ (q.k.1 = 5 ∧ q.v.2 = 0)) → Hid (coinC q = [q.v.1]) := fun h => Lib.hid (if_pos h)
      have hno : ¬ (q.k.1 = 1 ∨ q.k.1 = 2 ∨ (q.k.1 = 7 ∧ q.k.2.2 = 0) ∨ (q.k.1 = 5 ∧ q.v.2 = 0)) → Hid (coinC q = []) := fun h => Lib.hid (if_neg h)
      have hc : (q.k.1 = 1 ∨ q.k.1 = 2 ∨ (q.k.1 = 7 ∧ q.k.2.2 = 0) ∨ (q.k.1 = 5 ∧ q.v.2 = 0)) ∨ ((q.k.1 = 7 ∧ ¬ q.k.2.2 = 0) ∨ (q.k.1 = 5 ∧ ¬ q.v.2 = 0) ∨ (¬ q.k.1 = 1 ∧ ¬ q.k.1 = 2 ∧ ¬ q.k.1 = 7 ∧ ¬ q.k.1 = 5)) := by omega
      rcases hc with hc | hc
      · have e := hyes hc
        clear hyes hno
        rcases hc with h | h | ⟨h, h'⟩ | ⟨h, h'⟩
        all_goals (
          rw [h] at y0
          try rw [h'] at y2
          try rw [h'] at y4
          go_wp2_with (first
            | (refine wpList_append_lies _ (by rfl) _ _ _ (by rfl) w1.heap.size 27 i0 _ 1 8 Tryz.underlying68 hi hz0 hz1 hz2 rfl (by omega) (.slice a4 (coinsL (l.take j)).length c4) (coinsL (l.take j)).length (amtCells (coinsL (l.take j))) (by rfl) (O2.alloc _)
                    ⟨w2.heap.size, 0, none⟩ 1 1 [.int .u64 q.v.1] (by rfl) (by rfl) (World.news_of_block hnewc.out) (by simp [Value.oneCell'])
                    (by omega) (by unfold maxLen; omega) (by omega) (by simp; omega) (w2.heap.size + 1) (by simp) ?_
               intro gg gcap w4 hown hgrow hat hltg))
          have B4 : Below w1.heap.size w1 w4 := B2.trans ((below_alloc w2 (.cells #[.int .u64 q.v.1] 27) |>.mono lw1).trans (below_grown hgrow (by simp; omega) (fun x hx => (owns_lt O2 hx).1)))
          go_roundw
          case rel => exact ⟨j + 1, by omega, by go_num, by rw [hsn.out, e.out, amtCells_snoc, List.length_append]; exact Lib.hid hown, Lib.hid B4⟩
          case measure => simp [intOf]; omega)
      · have e := hno (by omega)
        clear hyes hno
        rcases hc with ⟨h, h1⟩ | ⟨h, h1⟩ | ⟨h, h1, h2, h3⟩
        all_goals (
          try rw [h] at y0
          go_wp2_with fail
          go_roundw
          case rel => exact ⟨j + 1, by omega, by go_num, by rw [hsn.out, e.out, List.append_nil]; exact Lib.hid O2, Lib.hid B2⟩
          case measure => simp [intOf]; omega)
    · obtain rfl : j = l.length := by omega
      rw [List.take_length] at O
      have hs := sum_any _ _ _ _ O.out (coinsL_u hu.out)
      go_wp2_with (go_at_call 20; refine hs.mono ?_; rintro e w2 ⟨rfl, B2⟩)
      go_ret2
      have B3 := B1.trans ((below_trans B.out B2).mono l1)
      exact ⟨l, hA.out, rfl, B3⟩
end Go.Proofs.YtdbpjbmalinlbaaGreat
