/- Contract of All. -/
import Derived.Test.YtdbpjbmalinlbaaGreatModG
import Derived.Test.YtdbpjbmalinlbaaGreatModF
namespace Go.Proofs.YtdbpjbmalinlbaaGreat
open Go.RowKit
open Go.Maps (Keyed)

/-- All that is there, by its keys. -/
structure IsAll (f : Mp) (l : List Cel) : Prop where
  sorted : Sorted l
  apart : l.Pairwise fun a b => a.k ≠ b.k
  there : ∀ c ∈ l, c.is = true ∧ KyOk c.k ∧ f c.k = some c.v
  all : ∀ k v, f k = some v → ∃ c ∈ l, c.k = k
/-- What has been met of it. -/
structure Met1 (f : Mp) (left : Lit → Bool) (l : List Cel) : Prop where
  apart : l.Pairwise fun a b => a.k ≠ b.k
  there : ∀ c ∈ l, c.is = true ∧ KyOk c.k ∧ f c.k = some c.v ∧ left (kyL c.k) = false
  all : ∀ k v, f k = some v → left (kyL k) = false → ∃ c ∈ l, c.k = k
theorem met_start {D : DataW Unit} {f : Mp} (hf : MpOk f) (ht : Tells D f) : Met1 f (Maps.has D) [] :=
  ⟨List.Pairwise.nil, fun _ h => by simp at h, fun k v e h => absurd (Maps.has_true_of_atKey (ht.some (hf k v e).1 e)) (by rw [h]; simp)⟩
theorem Met1.step {f : Mp} {left : Lit → Bool} {l : List Cel} (hf : MpOk f) (M : Met1 f left l) {x : Ky} {c : Vl} (hx : KyOk x) (hl : left (kyL x) = true) (hv : f x = some c) :
    Met1 f (fun z => left z && !z.sameKey (kyL x)) (l ++ [⟨x, c, true⟩]) := by
  have hne : ∀ a ∈ l, a.k ≠ x := fun a ha e => by
    have := (M.there a ha).2.2.2
    rw [e, hl] at this; cases this
  refine ⟨?_, fun a ha => ?_, fun k v e h => ?_⟩
  · rw [List.pairwise_append]
    refine ⟨M.apart, by simp, fun a ha b hb => ?_⟩
    obtain rfl := List.mem_singleton.1 hb
    exact hne a ha
  · rcases List.mem_append.1 ha with ha | ha
    · obtain ⟨h1, h2, h3, h4⟩ := M.there a ha
      exact ⟨h1, h2, h3, by simp [h4]⟩
    · obtain rfl := List.mem_singleton.1 ha
      exact ⟨rfl, hx, hv, by simp [WideAt.sameKey_self (kyL_key x)]⟩
  · cases hk : left (kyL k) with
    | false =>
      obtain ⟨a, ha, e'⟩ := M.all k v e hk
      exact ⟨a, by simp [ha], e'⟩
    | true =>
      simp only [hk, Bool.true_and, Bool.not_eq_false'] at h
      have := kyL_inj (hf k v e).1 hx (WideAt.sameKey_eq h)
      exact ⟨⟨x, c, true⟩, by simp, this.symm⟩
theorem tells_at {D : DataW Unit} {f : Mp} (ht : Tells D f) {x : Ky} {c : Vl} (hx : KyOk x) (hat : ∀ z, D.atKey (kyL x) z = vlD c) : f x = some c := by
  cases e : f x with
  | none =>
    have h1 := ht.none hx e
    rw [Maps.has_true_of_atKey hat] at h1
    cases h1
  | some v => rw [vlD_inj ((ht.some hx e (vlD c)).symm.trans (hat (vlD c)))]

theorem iter_ne_row {P : Program} {k : TypeId} {R : Value → Option (DataW Unit × List MemPlace)} {w : World} {b r n : Nat} {D : DataW Unit} {left : Lit → Bool} {cnt base : Nat} {e : TypeId} {size : Nat} {v : Value} {m : Nat} {xs : List Value}
    (h : w.ownsRow base e size v m xs) (hr : w.ranges P k R b r n D left cnt) : v.ownBlock ≠ some r := by
  obtain ⟨_, _, _, _, _, _, _, _, _, hit, _⟩ := hr
  intro e1
  rcases h.2 with ⟨rfl, _⟩ | ⟨g, cap, cur, rfl, _, hb, _⟩
  · simp [Value.ownBlock] at e1
  · simp [Value.ownBlock] at e1
    subst e1
    rw [hit] at hb
    cases hb
theorem low_ne_row {w : World} {base : Nat} {e : TypeId} {size : Nat} {v : Value} {n : Nat} {xs : List Value} (h : w.ownsRow base e size v n xs) {b : Nat} (hb : b < base) : some b ≠ v.ownBlock := fun e1 => by
  have := (owns_lt h e1.symm).1
  omega

set_option maxRecDepth 100000 in
set_option maxHeartbeats 4000000 in
theorem all_w {A b n : Nat} {f : Mp} {w : World} (S : WSt A b n f w) (hn : n ≤ 1000000) (hf : MpOk f) :
    Calls Tryz.prog 6 #[.pointer (some ⟨A, 0, none⟩)] w fun e w' => ∃ v l, e = .returned v ∧ IsAll f l ∧ l.length ≤ n ∧ w'.ownsRow w.heap.size 57 6 v l.length (celCells l) ∧ Below w.heap.size w w' := by
  obtain ⟨D, hown, ht⟩ := S.is
  have c0 := S.c0
  have lA := S.ltA
  have hT := Lib.hid ht
  have HF := Lib.hid hf
  clear ht hf
  obtain ⟨ic, hic, cy0, cy1, cy2⟩ := info_parts Tryz.infoCel
  go_enter Tryz.func6, Tryz.ntmps6
  go_wp2_with (first | (at_range; refine wpList_range_own _ rfl _ 53 rfl 52 48 keyLaw Tryz.underlying53 _ b n D rfl hown ?_; intro w0 hrg0 hg0 hs0))
  go_frame
  have hb := hown.lt
  have hcnt := hown.size_le
  obtain ⟨R, hR⟩ : ∃ R, R = w.heap.size := ⟨_, rfl⟩
  have B0 : Below R w w0 := ⟨hg0.os, hg0.tape, hg0.output, hg0.size, fun i hi => hg0.block i (by omega) (by simp)⟩
  rw [← hR] at hrg0 hs0 hb ⊢
  clear hg0 hown c0 lA S
  have l0 : R < w0.heap.size := by omega
  replace hR := Lib.hid hR
  go_loopw [3] (fun u wr => ∃ (left : Lit → Bool) (cnt : Nat) (l : List Cel), wr.ranges Tryz.prog 52 valR b R n D left cnt ∧ Hid (Met1 f left l) ∧ l.length + cnt ≤ n ∧ Hid (wr.ownsRow R 57 6 u l.length (celCells l)) ∧ Hid (Below R w wr)) (fun _ wr => wr.rangeLeft b R)
  case atStart => exact ⟨_, _, [], hrg0, Lib.hid (met_start HF.out hT.out), by simpa using hcnt, Lib.hid ⟨rfl, .inl ⟨rfl, rfl⟩⟩, Lib.hid B0⟩
  case round =>
    clear hrg0 hs0 B0 l0 hcnt
    obtain ⟨left, cnt, l, hrg, M, hlc, O, B⟩ := hrel
    obtain ⟨a8, c8, rfl⟩ := owns_shape O.out
    go_wp2_with (first
      | (at_next; refine wpList_next_ranges _ rfl _ rfl 52 keyLaw valR (fun x : Ky => .agg #[.int .u8 x.1, .int .u32 x.2.1, .int .u32 x.2.2]) (fun c : Vl => .agg #[.int .u64 c.1, .int .u64 c.2])
          (fun key kl h => by obtain ⟨k, _, rfl, _⟩ := key_inv h; exact ⟨k, rfl⟩) (fun v y h => by obtain ⟨c, rfl, _⟩ := valR_inv h; exact ⟨c, rfl⟩) b R n D left cnt rfl hrg ?_ ?_))
    · intro _ hl0
      have hso := sort_w l R (.slice a8 l.length c8) wr O.out (by omega)
      go_wp2_with (go_at_call 14; refine hso.mono ?_; rintro e w2 ⟨rfl, l', hp, hs, ho, hg⟩)
      go_ret
      have hlen := hp.length_eq
      have B2 : Below R w w2 := B.out.trans (below_grown hg (by have := hR.out; have := B.out.size; omega) (fun j hj => (owns_lt O.out hj).1))
      rw [hR.out] at ho B2
      refine ⟨_, l', rfl, ⟨hs, ?_, fun c hc => ?_, fun k v e => ?_⟩, by omega, ho, B2⟩
      · exact (hp.symm.pairwise_iff (fun {a b} (h : a.k ≠ b.k) => h.symm)).1 M.out.apart
      · obtain ⟨h1, h2, h3, _⟩ := M.out.there c (hp.mem_iff.1 hc)
        exact ⟨h1, h2, h3⟩
      · obtain ⟨c, hc, e'⟩ := M.out.all k v e (hl0 _)
        exact ⟨c, hp.mem_iff.2 hc, e'⟩
    · intro x1 x2 x3 v1 v2 kl yd yp w1 cnt1 hkey hlk hv hat hrg1 hlt hg1 hs1 hen
      obtain ⟨x', hx, ex, rfl⟩ := key_inv hkey
      obtain rfl : (x1, x2, x3) = x' := kyV_inj ex
      obtain ⟨c', ec, hy⟩ := valR_inv hv
      obtain rfl : (v1, v2) = c' := by simpa [vlV, Prod.ext_iff] using ec
      obtain ⟨rfl, rfl⟩ : yd = vlD (v1, v2) ∧ yp = [] := by simpa using hy
      have hfx := tells_at hT.out hx hat
      have M1 := M.out.step HF.out hx hlk hfx
      have B1 : Below R w w1 := B.out.trans (below_grown hg1 (by have := hR.out; have := B.out.size; omega) (fun j hj => by cases hj; exact Nat.le_refl _))
      have O1 := O.out.kept hg1 (.inr (iter_ne_row O.out hrg))
      have hcnt1 : cnt1 + 1 ≤ cnt := hlt
      have e1 := hrg.left_eq
      replace M1 := Lib.hid M1
      replace hx := Lib.hid hx
      clear hkey hlk hv hat hy hs1 hg1 ex ec hfx M O B
      have hnb := low_ne_row O1 hb
      have hnr := iter_ne_row O1 hrg1
      have lR1 := hrg1.lt
      go_upto_region 5 with fail
      have hrg2 := (hrg1.alloc (.cells #[.int .u8 x1, .int .u32 x2, .int .u32 x3] 52)).alloc (.cells #[.int .u64 v1, .int .u64 v2] 48)
      have O2 := (O1.alloc (.cells #[.int .u8 x1, .int .u32 x2, .int .u32 x3] 52)).alloc (.cells #[.int .u64 v1, .int .u64 v2] 48)
      have B2 := (B1.alloc (by omega) (.cells #[.int .u8 x1, .int .u32 x2, .int .u32 x3] 52)).alloc (by simp; omega) (.cells #[.int .u64 v1, .int .u64 v2] 48)
      have kb := ((below_alloc (w1.alloc (.cells #[.int .u8 x1, .int .u32 x2, .int .u32 x3] 52)) (.cells #[.int .u64 v1, .int .u64 v2] 48)).block _ (by simp)).trans (heap_alloc_new w1 (.cells #[.int .u8 x1, .int .u32 x2, .int .u32 x3] 52))
      have vb := heap_alloc_new (w1.alloc (.cells #[.int .u8 x1, .int .u32 x2, .int .u32 x3] 52)) (.cells #[.int .u64 v1, .int .u64 v2] 48)
      rw [World.size_alloc] at vb
      obtain ⟨KB, hKB⟩ : ∃ x, x = w1.heap.size := ⟨_, rfl⟩
      obtain ⟨w2, hw2⟩ : ∃ x, x = (w1.alloc (.cells #[.int .u8 x1, .int .u32 x2, .int .u32 x3] 52)).alloc (.cells #[.int .u64 v1, .int .u64 v2] 48) := ⟨_, rfl⟩
      rw [← hw2] at hrg2 O2 B2 kb vb ⊢
      rw [← hKB] at kb vb ⊢
      clear hw2 hKB hrg1 O1 B1 hen
      obtain ⟨k0, k1, k2⟩ := three_cells kb
      obtain ⟨u0, u1⟩ := two_cells vb
      have lV : KB + 1 < w2.heap.size := (Array.getElem?_eq_some_iff.1 vb).1
      have lK : KB < w2.heap.size := by omega
      have hnewc := Lib.hid (heap_alloc_new w2 (.cells #[.int .u8 x1, .int .u32 x2, .int .u32 x3, .int .u64 v1, .int .u64 v2, .bool true] 57))
      have lR2 := hrg2.lt
      replace kb := Lib.hid kb
      replace vb := Lib.hid vb
      go_wp2_with (first
        | (refine wpList_append_lies _ (by rfl) _ _ _ (by rfl) R 57 ic _ 6 40 Tryz.underlying30 hic cy0 cy1 cy2 rfl (by omega) (.slice a8 l.length c8) l.length (celCells l) (by rfl) (O2.alloc _)
                ⟨w2.heap.size, 0, none⟩ 1 1 (celRow ⟨(x1, x2, x3), (v1, v2), true⟩) (by rfl) (by rfl) (World.news_of_block hnewc.out) (by simp [Value.oneCell', celRow])
                (by omega) (by unfold maxLen; omega) (by omega) (by simp; omega) (w2.heap.size + 1) (by simp) ?_
           intro gg gcap w4 hown hgrow hat hltg))
      have hrg4 := (hrg2.alloc (.cells #[.int .u8 x1, .int .u32 x2, .int .u32 x3, .int .u64 v1, .int .u64 v2, .bool true] 57)).kept hgrow hnb (fun e => hnr e.symm)
      have B4 : Below R w w4 := B2.trans ((below_alloc w2 (.cells #[.int .u8 x1, .int .u32 x2, .int .u32 x3, .int .u64 v1, .int .u64 v2, .bool true] 57) |>.mono (Nat.le_of_lt lR2)).trans (below_grown hgrow (by simp; omega) (fun j hj => (owns_lt O2 hj).1)))
      go_roundw
      case rel => exact ⟨_, cnt1, l ++ [⟨(x1, x2, x3), (v1, v2), true⟩], hrg4, M1, by (simp; omega), Lib.hid (by rw [celCells_snoc, List.length_append]; exact hown), Lib.hid B4⟩
      case measure => rw [hrg4.left_eq, e1]; omega
end Go.Proofs.YtdbpjbmalinlbaaGreat
