/- Contracts of the two counts, Change. -/
import Derived.Test.YtghpjmihlgfeaaaRecD
import Derived.Outline
namespace Go.Proofs.Ytghpjmihlgfeaaa
open Go.RowKit

theorem ret_one {k : IntKind} {a b : Int} (h : a = b) : Ending.returned (.int k a) = .returned (.int k b) := by rw [h]

set_option maxHeartbeats 400000 in
theorem refCount_any (v : Value) (l : List (Int × Int)) (item : Int) (base : Nat) (w : World) (h : Stks w base v l) (hl : l.length ≤ 1000) :
    Calls Try.prog 37 #[v, .int .u32 item] w fun e w' => e = .returned (.int .u64 (cnt l item)) ∧ w = w' := by
  obtain ⟨a, c, rfl⟩ := h.shape
  go_enter Try.func37, Try.ntmps37
  go_wp2_with fail
  go_loop [5] (fun i => ∃ k : Nat, k ≤ l.length ∧ i = .int .i64 k ∧ ∀ (j : Nat) p, j < k → l[j]? = some p → p.1 ≠ item) (fun i => l.length - (intOf i).toNat)
  case atStart => exact ⟨0, Nat.zero_le _, rfl, by simp⟩
  case round =>
    obtain ⟨k, hk, rfl, hn⟩ := hrel
    have HN := Lib.hid hn
    clear hn
    by_cases hlt : k < l.length
    · obtain ⟨p, hp⟩ : ∃ p, l[k]? = some p := ⟨l[k], List.getElem?_eq_getElem hlt⟩
      rcases h.2 with ⟨h1, h2⟩ | ⟨g, cap, cur, h1, h2, h3⟩
      · omega
      · cases h1
        obtain ⟨c1, c2⟩ := h.cells hp
        have HP := Lib.hid hp
        clear h2 h3 hp
        by_cases he : p.1 = item
        · have hb : (p.1 == item) = true := by simpa using he
          have HE := Lib.hid he
          clear he
          go_wp2_with fail
          go_ret
          exact ⟨ret_one (cnt_hit HN.out HP.out HE.out).symm, rfl⟩
        · have hb : (p.1 == item) = false := by simpa using he
          have HE := Lib.hid he
          clear he
          go_wp2_with fail
          go_round
          case rel =>
            refine ⟨k + 1, by omega, by go_num, fun j q hj hq => ?_⟩
            by_cases hjk : j = k
            · subst hjk; rw [HP.out] at hq; cases hq; exact HE.out
            · exact HN.out j q (by omega) hq
          case measure => simp [intOf]; omega
    · obtain rfl : k = l.length := by omega
      go_wp2_with fail
      go_ret
      exact ⟨ret_one (cnt_miss HN.out).symm, rfl⟩

theorem cell_alloc_old {w : World} {q : Addr} {v : Value} (h : w.cell? q = some v) (o : Obj) : (w.alloc o).cell? q = some v := by
  rw [((Below.refl _ _).alloc (Nat.le_refl _) o).cell (World.block_lt_of_cell? _ _ h)]; exact h

set_option maxHeartbeats 400000 in
theorem pred_any (a b item : Int) (q : Addr) (w : World) (hq : w.cell? q = some (.int .u32 item)) :
    Calls Try.prog 45 #[.agg #[.int .u32 a, .int .u64 b], .pointer (some q)] w fun e w' => e = .returned (.bool (a == item)) ∧ w.alloc (.cells #[.int .u32 a, .int .u64 b] 41) = w' := by
  have hq2 := cell_alloc_old hq (.cells #[.int .u32 a, .int .u64 b] 41)
  clear hq
  go_enter Try.func45, Try.ntmps45
  go_wp2_with fail
  go_ret
  exact ⟨rfl, rfl⟩

def idx : List (Int × Int) → Int → Nat
  | [], _ => 0
  | p :: l, item => if p.1 = item then 0 else idx l item + 1
theorem idx_drop (item : Int) : ∀ (k : Nat) (l : List (Int × Int)), k ≤ l.length → (∀ (j : Nat) p, j < k → l[j]? = some p → p.1 ≠ item) → idx l item = k + idx (l.drop k) item := by
  intro k
  induction k with
  | zero => intro l _ _; simp
  | succ k ih =>
    intro l hl h
    cases l with
    | nil => simp at hl
    | cons x l =>
      rw [List.drop_succ_cons, idx, if_neg (h 0 x (by omega) rfl), ih l (by simpa using hl) fun j p hj hp => h (j + 1) p (by omega) (by simpa using hp)]
      omega

/-- The place that IndexFunc tells. -/
def idxI (l : List (Int × Int)) (item : Int) : Int := if idx l item < l.length then (idx l item : Int) else -1
theorem idxI_hit {item : Int} {k : Nat} {l : List (Int × Int)} {p : Int × Int} (h : ∀ (j : Nat) p, j < k → l[j]? = some p → p.1 ≠ item) (hk : l[k]? = some p) (hp : p.1 = item) : idxI l item = k := by
  obtain ⟨hl, e⟩ := List.getElem?_eq_some_iff.1 hk
  unfold idxI
  rw [idx_drop item k l (by omega) h, List.drop_eq_getElem_cons hl, e, idx, if_pos hp, if_pos (by omega)]; rfl
theorem idxI_miss {item : Int} {l : List (Int × Int)} (h : ∀ (j : Nat) p, j < l.length → l[j]? = some p → p.1 ≠ item) : idxI l item = -1 := by
  unfold idxI
  rw [idx_drop item l.length l (Nat.le_refl _) h, if_neg (by omega)]
/-- What IndexFunc tells is where the count stands. -/
theorem idxI_cnt (item : Int) : ∀ l : List (Int × Int), (idxI l item = -1 ∧ cnt l item = 0) ∨ (∃ p, 0 ≤ idxI l item ∧ idxI l item < l.length ∧ l[(idxI l item).toNat]? = some p ∧ cnt l item = p.2) := by
  intro l
  induction l with
  | nil => exact .inl ⟨rfl, rfl⟩
  | cons x l ih =>
    by_cases hx : x.1 = item
    · refine .inr ⟨x, ?_⟩
      have e : idxI (x :: l) item = 0 := by unfold idxI; rw [idx, if_pos hx]; simp
      rw [e]
      exact ⟨by omega, by simp, rfl, by rw [cnt, if_pos hx]⟩
    · have e1 : cnt (x :: l) item = cnt l item := by rw [cnt, if_neg hx]
      rcases ih with ⟨h1, h2⟩ | ⟨p, h1, h2, h3, h4⟩
      · refine .inl ⟨?_, by rw [e1, h2]⟩
        unfold idxI at h1 ⊢
        rw [idx, if_neg hx, List.length_cons]
        split at h1
        · omega
        · rw [if_neg (by omega)]
      · refine .inr ⟨p, ?_⟩
        have e : idxI (x :: l) item = idxI l item + 1 := by
          unfold idxI at h1 h2 ⊢
          rw [idx, if_neg hx, List.length_cons]
          split at h1
          · rename_i hlt
            rw [if_pos (by omega), if_pos hlt]; omega
          · omega
        rw [e]
        refine ⟨by omega, by rw [List.length_cons]; omega, ?_, by rw [e1, h4]⟩
        rw [show (idxI l item + 1).toNat = (idxI l item).toNat + 1 by omega]
        simpa using h3

set_option maxHeartbeats 400000 in
theorem indexFunc_any (a : Option Addr) (c : Nat) (l : List (Int × Int)) (item : Int) (q : Addr) (base : Nat) (w : World) (h : Stks w base (.slice a l.length c) l) (hl : l.length ≤ 1000) (hq : w.cell? q = some (.int .u32 item)) :
    Calls Try.prog 44 #[.slice a l.length c, .func (.func 45) #[] #[.pointer (some q)]] w fun e w' => e = .returned (.int .i64 (idxI l item)) ∧ Below w.heap.size w w' := by
  go_enter Try.func44, Try.ntmps44
  go_wp2_with fail
  go_loopw [8] (fun i wr => ∃ k : Nat, k ≤ l.length ∧ i = .int .i64 k ∧ (∀ (j : Nat) p, j < k → l[j]? = some p → p.1 ≠ item) ∧ Below w.heap.size w wr) (fun i _ => l.length - (intOf i).toNat)
  case atStart => exact ⟨0, Nat.zero_le _, rfl, by simp, Below.refl _ _⟩
  case round =>
    obtain ⟨k, hk, rfl, hn, B⟩ := hrel
    have HN := Lib.hid hn
    clear hn
    by_cases hlt : k < l.length
    · obtain ⟨p, hp⟩ : ∃ p, l[k]? = some p := ⟨l[k], List.getElem?_eq_getElem hlt⟩
      rcases h.2 with ⟨h1, h2⟩ | ⟨g, cap, cur, h1, h2, h3⟩
      · omega
      · cases h1
        obtain ⟨c1, c2⟩ := (h.below B).cells hp
        have hq' := cell_keep B hq
        have HP := Lib.hid hp
        have H := Lib.hid h
        clear h2 h3 hp hq h
        go_wp2_with fail
        refine (pred_any _ _ _ _ _ hq').mono ?_
        rintro e w1 ⟨rfl, rfl⟩
        by_cases he : p.1 = item
        · have hb : (p.1 == item) = true := by simpa using he
          have HE := Lib.hid he
          clear he
          go_wp2_with fail
          go_ret
          exact ⟨ret_one (idxI_hit HN.out HP.out HE.out).symm, B.alloc B.size _⟩
        · have hb : (p.1 == item) = false := by simpa using he
          have HE := Lib.hid he
          clear he
          go_wp2_with fail
          go_roundw
          case rel =>
            refine ⟨k + 1, by omega, by go_num, fun j q hj hq => ?_, B.alloc B.size _⟩
            by_cases hjk : j = k
            · subst hjk; rw [HP.out] at hq; cases hq; exact HE.out
            · exact HN.out j q (by omega) hq
          case measure => simp [intOf]; omega
    · obtain rfl : k = l.length := by omega
      go_wp2_with fail
      go_ret
      exact ⟨ret_one (idxI_miss HN.out).symm, B⟩

set_option maxHeartbeats 400000 in
theorem count_any (v : Value) (l : List (Int × Int)) (item : Int) (base : Nat) (w : World) (h : Stks w base v l) (hl : l.length ≤ 1000) :
    Calls Try.prog 36 #[v, .int .u32 item] w fun e w' => e = .returned (.int .u64 (cnt l item)) ∧ Below w.heap.size w w' := by
  obtain ⟨a, c, rfl⟩ := h.shape
  have hq : (w.alloc (.cells #[.int .u32 item] 22)).cell? ⟨w.heap.size, 0, none⟩ = some (.int .u32 item) := by simp [go_sem]
  have h' := h.below ((Below.refl _ _).alloc (Nat.le_refl _) (.cells #[.int .u32 item] 22))
  have H := Lib.hid h'
  have HQ := Lib.hid hq
  clear h h' hq
  go_enter Try.func36, Try.ntmps36
  go_wp2_with fail
  refine (indexFunc_any _ _ _ item _ _ _ H.out hl HQ.out).mono ?_
  rintro e w1 ⟨rfl, b1⟩
  have B : Below w.heap.size w w1 := ((Below.refl _ _).alloc (Nat.le_refl _) _).trans (b1.mono (by simp))
  have h2 := H.out.below b1
  rcases idxI_cnt item l with ⟨h3, h4⟩ | ⟨p, h3, h4, h5, h6⟩
  · have H4 := Lib.hid h4
    clear h4 h2
    go_wp2_with fail
    go_ret
    exact ⟨ret_one H4.out.symm, B⟩
  · obtain ⟨k, hk⟩ := Int.eq_ofNat_of_zero_le h3
    rw [hk] at h3 h4 h5 ⊢
    rw [Int.toNat_natCast] at h5
    rcases h2.2 with ⟨h7, h8⟩ | ⟨g, cap, cur, h7, h8, h9⟩
    · omega
    · cases h7
      obtain ⟨c1, c2⟩ := h2.cells h5
      have H6 := Lib.hid h6
      have hkl : (k : Int) < (l.length : Int) := h4
      have hl' : (l.length : Int) ≤ 1000 := by omega
      clear h2 h6 h9 h5 h8 hk h4
      go_wp2_with fail
      go_ret
      exact ⟨ret_one H6.out.symm, B⟩
end Go.Proofs.Ytghpjmihlgfeaaa
