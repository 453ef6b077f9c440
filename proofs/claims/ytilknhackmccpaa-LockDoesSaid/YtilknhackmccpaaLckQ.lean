/- Package lock: Release, plainly; Package lock: Release, its walk: what it leans on. -/
import Derived.Test.YtilknhackmccpaaLckO
set_option linter.unusedVariables false
set_option linter.unusedSimpArgs false
namespace Go.Proofs.Ytilknhackmccpaa
open Go.RowKit Go.Sort Go.Lib

/-- Who gets locks, from the head of the line on. -/
def wake : Nat → Lk → Lk × List Int
  | 0, l => (l, [])
  | n + 1, l => match l.2 with
    | [] => (l, [])
    | x :: r => if freeB l.1 x = true then ((wake n (notL l.1 x.1 ++ [x], notL (x :: r) x.1)).1, x.1 :: (wake n (notL l.1 x.1 ++ [x], notL (x :: r) x.1)).2) else (l, [])
theorem notL_cons_lt (x : Int × Int) (r : List (Int × Int)) : (notL (x :: r) x.1).length ≤ r.length := by
  simp only [notL, List.filter_cons, beq_self_eq_true, Bool.not_true, Bool.false_eq_true, if_false]
  exact List.length_filter_le _ _
theorem wake_fuel : ∀ (n m : Nat) (l : Lk), l.2.length ≤ n → l.2.length ≤ m → wake n l = wake m l
  | 0, 0, _, _, _ => rfl
  | 0, m + 1, l, h, _ => by
    have : l.2 = [] := List.eq_nil_of_length_eq_zero (by omega)
    simp [wake, this]
  | n + 1, 0, l, _, h => by
    have : l.2 = [] := List.eq_nil_of_length_eq_zero (by omega)
    simp [wake, this]
  | n + 1, m + 1, (h, []), _, _ => rfl
  | n + 1, m + 1, (h, x :: r), hn, hm => by
    have := notL_cons_lt x r
    simp only [List.length_cons] at hn hm
    simp only [wake]
    rw [wake_fuel n m _ (by simp only; omega) (by simp only; omega)]
def wakeL (l : Lk) : Lk × List Int := wake l.2.length l
theorem wakeL_nil (h : List (Int × Int)) : wakeL (h, []) = ((h, []), []) := rfl
theorem wakeL_stop {h : List (Int × Int)} {x : Int × Int} {r : List (Int × Int)} (hf : freeB h x = false) : wakeL (h, x :: r) = ((h, x :: r), []) := by
  simp [wakeL, wake, hf]
theorem wakeL_step {h : List (Int × Int)} {x : Int × Int} {r : List (Int × Int)} (hf : freeB h x = true) : wakeL (h, x :: r) = ((wakeL (notL h x.1 ++ [x], notL (x :: r) x.1)).1, x.1 :: (wakeL (notL h x.1 ++ [x], notL (x :: r) x.1)).2) := by
  have := notL_cons_lt x r
  rw [wakeL, wakeL]
  simp only [List.length_cons, wake, hf, if_true]
  rw [wake_fuel r.length _ _ (by simp only; omega) (Nat.le_refl _)]
/-- Of a lock that nobody holds nobody is in line, behind that. -/
theorem wake_gone : ∀ (n : Nat) (l : Lk), l.2.length ≤ n → (wake n l).1.1 = [] → (wake n l).1.2 = []
  | 0, l, h, _ => (List.eq_nil_of_length_eq_zero (by omega) : l.2 = [])
  | n + 1, (h, []), _, _ => rfl
  | n + 1, (h, x :: r), hn, he => by
    have := notL_cons_lt x r
    simp only [List.length_cons] at hn
    simp only [wake] at he ⊢
    by_cases hf : freeB h x = true
    · simp only [hf, if_true] at he ⊢
      exact wake_gone n _ (by simp only; omega) he
    · simp only [hf, if_false] at he
      subst he
      exact absurd rfl hf
/-- Nobody waits any more as x. -/
def dropW (T : Tb) (x : Int) : Tb := ⟨T.ks, T.F, T.hs.filter fun y => !(y == x), setW T.W x none⟩
def dropAll (T : Tb) (xs : List Int) : Tb := xs.foldl dropW T
theorem dropAll_snoc (T : Tb) (xs : List Int) (x : Int) : dropAll T (xs ++ [x]) = dropW (dropAll T xs) x := by simp [dropAll]
theorem dropAll_same : ∀ (xs : List Int) (T : Tb), (dropAll T xs).ks = T.ks ∧ (dropAll T xs).F = T.F ∧ (dropAll T xs).hs.length ≤ T.hs.length
  | [], _ => ⟨rfl, rfl, Nat.le_refl _⟩
  | x :: xs, T => by
    obtain ⟨h1, h2, h3⟩ := dropAll_same xs (dropW T x)
    exact ⟨h1, h2, Nat.le_trans h3 (List.length_filter_le _ _)⟩
/-- What becomes of a lock, as t gives it up. -/
def relL (l : Lk) (t : Int) : Lk × List Int := if modeL l.1 t = 0 ∧ modeL l.2 t = 0 then (l, []) else wakeL (notL l.1 t, notL l.2 t)
def relStep (t : Int) (T : Tb) (k : Ky) : Tb × List Int :=
  if modeL (T.F k).1 t = 0 ∧ modeL (T.F k).2 t = 0 then (T, [])
  else (⟨if (relL (T.F k) t).1.1 = [] then (insK T.ks k).filter fun k' => !(k' == k) else insK T.ks k, setF T.F k (relL (T.F k) t).1, (dropAll T (relL (T.F k) t).2).hs, (dropAll T (relL (T.F k) t).2).W⟩, (relL (T.F k) t).2)
def relFold (t : Int) : List Ky → Tb → Tb × List Int
  | [], T => (T, [])
  | k :: r, T => ((relFold t r (relStep t T k).1).1, (relStep t T k).2 ++ (relFold t r (relStep t T k).1).2)
theorem relFold_snoc (t : Int) : ∀ (a : List Ky) (k : Ky) (T : Tb), relFold t (a ++ [k]) T = ((relStep t (relFold t a T).1 k).1, (relFold t a T).2 ++ (relStep t (relFold t a T).1 k).2)
  | [], k, T => by simp [relFold]
  | x :: a, k, T => by simp [relFold, relFold_snoc t a k]
/-- Release. -/
def relT (T : Tb) (t : Int) : Tb × List Int := (dropW (relFold t T.ks T).1 t, (relFold t T.ks T).2)
theorem relFold_take {t : Int} {T : Tb} {i : Nat} {k : Ky} (h : T.ks[i]? = some k) : relFold t (T.ks.take (i + 1)) T = ((relStep t (relFold t (T.ks.take i) T).1 k).1, (relFold t (T.ks.take i) T).2 ++ (relStep t (relFold t (T.ks.take i) T).1 k).2) := by
  have hi := (List.getElem?_eq_some_iff.1 h).1
  have hk := (List.getElem?_eq_some_iff.1 h).2
  rw [List.take_succ_eq_append_getElem hi, hk, relFold_snoc]
/-- All numbers are numbers; sizes. -/
structure Fit (T : Tb) (n m : Nat) : Prop where
  u : ∀ k, (∀ x ∈ (T.F k).1, U x.1) ∧ ∀ x ∈ (T.F k).2, U x.1
  size : ∀ k, (T.F k).1.length + (T.F k).2.length ≤ n
  keys : T.ks.length ≤ m
  waits : T.hs.length ≤ n
theorem notL_sub {l : List (Int × Int)} {t : Int} {x : Int × Int} (h : x ∈ notL l t) : x ∈ l := (List.mem_filter.1 h).1
theorem wake_fit : ∀ (n : Nat) (l : Lk), (∀ x ∈ l.1, U x.1) → (∀ x ∈ l.2, U x.1) → (wake n l).1.1.length + (wake n l).1.2.length ≤ l.1.length + l.2.length ∧ (wake n l).2.length ≤ l.2.length ∧ (∀ x ∈ (wake n l).1.1, U x.1) ∧ (∀ x ∈ (wake n l).1.2, U x.1) ∧ ∀ x ∈ (wake n l).2, U x
  | 0, l, h1, h2 => ⟨Nat.le_refl _, Nat.zero_le _, h1, h2, by simp [wake]⟩
  | n + 1, (h, []), h1, h2 => ⟨Nat.le_refl _, Nat.zero_le _, h1, h2, by simp [wake]⟩
  | n + 1, (h, x :: r), h1, h2 => by
    simp only [wake]
    by_cases hf : freeB h x = true
    · simp only [hf, if_true]
      have hlt := notL_cons_lt x r
      have hle := notL_length h x.1
      have hux : U x.1 := h2 x (by simp)
      obtain ⟨i1, i2, i3, i4, i5⟩ := wake_fit n (notL h x.1 ++ [x], notL (x :: r) x.1) (fun y hy => by
        rcases List.mem_append.1 hy with hy | hy
        · exact h1 y (notL_sub hy)
        · rw [List.mem_singleton.1 hy]; exact hux) (fun y hy => h2 y (notL_sub hy))
      simp only [List.length_append, List.length_cons, List.length_nil] at i1 i2 ⊢
      refine ⟨by omega, by omega, i3, i4, fun y hy => ?_⟩
      rcases List.mem_cons.1 hy with rfl | hy
      · exact hux
      · exact i5 y hy
    · have hf' : freeB h x = false := by simpa using hf
      simp only [hf', Bool.false_eq_true, if_false]
      exact ⟨Nat.le_refl _, Nat.zero_le _, h1, h2, by simp⟩
theorem relL_fit (l : Lk) (t : Int) (h1 : ∀ x ∈ l.1, U x.1) (h2 : ∀ x ∈ l.2, U x.1) : (relL l t).1.1.length + (relL l t).1.2.length ≤ l.1.length + l.2.length ∧ (relL l t).2.length ≤ l.2.length ∧ (∀ x ∈ (relL l t).1.1, U x.1) ∧ (∀ x ∈ (relL l t).1.2, U x.1) ∧ ∀ x ∈ (relL l t).2, U x := by
  unfold relL
  split
  · exact ⟨Nat.le_refl _, Nat.zero_le _, h1, h2, by simp⟩
  · obtain ⟨i1, i2, i3, i4, i5⟩ := wake_fit (notL l.2 t).length (notL l.1 t, notL l.2 t) (fun y hy => h1 y (notL_sub hy)) (fun y hy => h2 y (notL_sub hy))
    have e1 := notL_length l.1 t
    have e2 := notL_length l.2 t
    simp only at i1 i2
    exact ⟨Nat.le_trans i1 (by omega), Nat.le_trans i2 e2, i3, i4, i5⟩
theorem relStep_fit {T : Tb} {n m : Nat} (h : Fit T n m) (t : Int) (k : Ky) : Fit (relStep t T k).1 n (m + 1) ∧ (relStep t T k).2.length ≤ n ∧ ∀ x ∈ (relStep t T k).2, U x := by
  unfold relStep
  split
  · exact ⟨⟨h.u, h.size, Nat.le_succ_of_le h.keys, h.waits⟩, Nat.zero_le _, by simp⟩
  · obtain ⟨i1, i2, i3, i4, i5⟩ := relL_fit (T.F k) t (h.u k).1 (h.u k).2
    have hs := h.size k
    obtain ⟨_, _, hd⟩ := dropAll_same (relL (T.F k) t).2 T
    refine ⟨⟨fun k' => ?_, fun k' => ?_, ?_, Nat.le_trans hd h.waits⟩, by simp only; omega, i5⟩
    · simp only [setF]
      split
      · exact ⟨i3, i4⟩
      · exact h.u k'
    · simp only [setF]
      split
      · omega
      · exact h.size k'
    · have hk := h.keys
      have hi := insR_len kltB T.ks k
      simp only
      split
      · exact Nat.le_trans (List.length_filter_le _ _) (by rw [insK]; omega)
      · rw [insK]; omega
theorem relFold_fit (t : Int) : ∀ (a : List Ky) (T : Tb) (n m : Nat), Fit T n m → Fit (relFold t a T).1 n (m + a.length) ∧ (relFold t a T).2.length ≤ n * a.length ∧ ∀ x ∈ (relFold t a T).2, U x
  | [], T, n, m, h => ⟨h, Nat.zero_le _, by simp [relFold]⟩
  | k :: r, T, n, m, h => by
    obtain ⟨h1, h2, h3⟩ := relStep_fit h t k
    obtain ⟨i1, i2, i3⟩ := relFold_fit t r _ _ _ h1
    simp only [relFold, List.length_cons, List.length_append]
    refine ⟨by rw [show m + (r.length + 1) = m + 1 + r.length by omega]; exact i1, by rw [Nat.mul_succ]; omega, fun x hx => ?_⟩
    rcases List.mem_append.1 hx with hx | hx
    · exact h3 x hx
    · exact i3 x hx
end Go.Proofs.Ytilknhackmccpaa

namespace Go.Proofs.Ytilknhackmccpaa
open Go.RowKit Go.Sort Go.Lib Go.Maps

section
variable {w w' w2 : World} {TB b1 b2 : Nat} {T : Tb} {f : Ky → Option Value}
/-- A block of another kind has turned. -/
theorem TabIs.but {g : Nat} (S : TabIs w TB b1 b2 T f) (hg : w.grownBy w' (some g)) (ht : ∃ cs ty fr, w.heap[g]? = some (.cells cs ty fr) ∧ ty ≠ 77 ∧ ty ≠ 75) : TabIs w' TB b1 b2 T f := by
  obtain ⟨cs, ty, fr, h1, h2, h3⟩ := ht
  have hn : ¬ WB w g := by rintro ⟨cs', fr', h⟩; rw [h1] at h; cases h; exact h2 rfl
  have hT : TB ≠ g := by rintro rfl; have := S.cell; rw [h1] at this; cases this; exact h3 rfl
  have e1 : b1 ≠ g := by rintro rfl; exact S.locks.nocells _ _ _ h1
  have e2 : b2 ≠ g := by rintro rfl; exact S.waits.nocells _ _ _ h1
  exact ⟨(hg.block TB S.lt (by simpa using hT)).trans S.cell, S.ne, S.locks.kept hg (by simpa using e1), fun k => by
    obtain ⟨a, b, e, k1, k2⟩ := S.at_ k
    exact ⟨a, b, e, k1.but hg hn, k2.but hg hn⟩, S.waits.kept hg (by simpa using e2), S.sorted, S.rising⟩
theorem TabIs.lock {LB : Nat} {va vb : Value} (S : TabIs w TB b1 b2 T f) (L : LockB w LB va vb) (hg : w.grownBy w' (some LB)) : TabIs w' TB b1 b2 T f :=
  S.but hg ⟨_, _, _, L, by decide, by decide⟩
theorem TabIs.nums {base : Nat} {v : Value} {zs : List Int} (S : TabIs w TB b1 b2 T f) (O : w.ownsInts base 23 .u32 v zs) (hg : w.grownBy w' v.ownBlock) : TabIs w' TB b1 b2 T f := by
  rcases O.1.2 with ⟨rfl, _⟩ | ⟨g, cap, cur, rfl, _, hh, _⟩
  · exact S.below (B := w.heap.size) ⟨hg.os, hg.tape, hg.output, hg.size, fun i hi => hg.block i hi (by simp [Value.ownBlock])⟩ (Nat.le_refl _)
  · exact S.but hg ⟨_, _, _, hh, by decide, by decide⟩
theorem Wants.nums {base : Nat} {v u : Value} {zs : List Int} {l : List (Int × Int)} (S : Wants w u l) (O : w.ownsInts base 23 .u32 v zs) (hg : w.grownBy w' v.ownBlock) : Wants w' u l := by
  rcases O.1.2 with ⟨rfl, _⟩ | ⟨g, cap, cur, rfl, _, hh, _⟩
  · exact S.keep (B := w.heap.size) ⟨hg.os, hg.tape, hg.output, hg.size, fun i hi => hg.block i hi (by simp [Value.ownBlock])⟩ (Nat.le_refl _)
  · exact S.but hg (by rintro ⟨cs', fr', h⟩; rw [hh] at h; cases h)
theorem Wants.lock {LB : Nat} {va vb u : Value} {l : List (Int × Int)} (S : Wants w u l) (L : LockB w LB va vb) (hg : w.grownBy w' (some LB)) : Wants w' u l :=
  S.but hg (by rintro ⟨cs', fr', h⟩; rw [show w.heap[LB]? = _ from L] at h; cases h)
theorem LockB.nums {base LB : Nat} {v va vb : Value} {zs : List Int} (L : LockB w LB va vb) (O : w.ownsInts base 23 .u32 v zs) (hg : w.grownBy w' v.ownBlock) : LockB w' LB va vb := by
  refine L.kept hg fun e => ?_
  rcases O.1.2 with ⟨rfl, _⟩ | ⟨g, cap, cur, rfl, _, hh, _⟩
  · cases e
  · cases e
    unfold LockB at L
    rw [hh] at L
    cases L
theorem nums_off {base LB : Nat} {v va vb : Value} {zs : List Int} (O : w.ownsInts base 23 .u32 v zs) (L : LockB w LB va vb) : v.ownBlock = none ∨ v.ownBlock ≠ some LB := by
  right
  intro e
  rcases O.1.2 with ⟨rfl, _⟩ | ⟨g, cap, cur, rfl, _, hh, _⟩
  · cases e
  · cases e
    unfold LockB at L
    rw [hh] at L
    cases L
theorem Two.row {row : Option Nat} (h : Two b1 b2 w w') (hg : w'.grownBy w2 row) (hr : ∀ g, row = some g → w.heap.size ≤ g) : Two b1 b2 w w2 :=
  ⟨hg.os.trans h.os, hg.tape.trans h.tape, hg.output.trans h.output, Nat.le_trans h.size hg.size, fun i hi h1 h2 => (hg.block i (Nat.lt_of_lt_of_le hi h.size) (fun e => by have := hr i e.symm; omega)).trans (h.block i hi h1 h2)⟩
theorem KeysAt.two {a : Option Addr} {ks : List Ky} (h : KeysAt w a ks) (k : Two b1 b2 w w') (n1 : ∀ cs ty fr, w.heap[b1]? ≠ some (.cells cs ty fr)) (n2 : ∀ cs ty fr, w.heap[b2]? ≠ some (.cells cs ty fr)) : KeysAt w' a ks := fun hne => by
  obtain ⟨eb, h1, h2, h3⟩ := h hne
  obtain ⟨x, hx⟩ : ∃ x, ks[0]? = some x := ⟨_, List.getElem?_eq_getElem (List.length_pos_iff.2 hne)⟩
  have hk : ∃ cs ty fr, w.heap[eb]? = some (.cells cs ty fr) := by
    have := (h3 0 x hx).1
    unfold World.cell? at this
    cases ho : w.heap[eb]? with
    | none => simp [ho] at this
    | some o =>
      cases o with
      | cells cs ty fr => exact ⟨_, _, _, rfl⟩
      | _ => simp [ho] at this
  obtain ⟨cs, ty, fr, hk⟩ := hk
  have hb := k.block eb h2 (fun e => n1 _ _ _ (e ▸ hk)) (fun e => n2 _ _ _ (e ▸ hk))
  have hcell : ∀ i, w'.cell? ⟨eb, i, none⟩ = w.cell? ⟨eb, i, none⟩ := fun i => by simp only [World.cell?, hb]
  exact ⟨eb, h1, Nat.lt_of_lt_of_le h2 k.size, fun i k hi => ⟨(hcell _).trans (h3 i k hi).1, (hcell _).trans (h3 i k hi).2.1, (hcell _).trans (h3 i k hi).2.2⟩⟩
/-- One waits no more. -/
theorem TabIs.drop (S : TabIs w TB b1 b2 T f) {x : Int} (hx : U x) (ty : TypeId) :
    ∃ w', (Builtin.delete_ #[73, 23] ty #[.map (some b2), .int .u32 x]).run Try.prog w = .ok (.tuple #[]) w' ∧ TabIs w' TB b1 b2 (dropW T x) f ∧ w.grownBy w' (some b2) := by
  obtain ⟨w', hrun, hM, hg⟩ := S.waits.drop Try.underlying73 (k := x) hx ty (ks' := T.hs.filter fun y => !(y == x)) (fun y => by rw [List.mem_filter]; simp [and_comm])
  have e : delF (fun t => (T.W t).map holdV) x = fun t' => (setW T.W x none t').map holdV := by
    funext t'
    by_cases e : t' = x
    · subst e; simp [delF, setW]
    · simp [delF, setW, e]
  rw [e] at hM
  exact ⟨w', hrun, S.turn2 hg hM (S.rising.filter _), hg⟩
/-- A key is gone. -/
theorem TabIs.dropL (S : TabIs w TB b1 b2 T f) {k : Ky} (hk : KyOk k) (he : T.F k = ([], [])) (ty : TypeId) :
    ∃ w', (Builtin.delete_ #[72, 38] ty #[.map (some b1), kyV k]).run Try.prog w = .ok (.tuple #[]) w' ∧ TabIs w' TB b1 b2 ⟨T.ks.filter fun k' => !(k' == k), T.F, T.hs, T.W⟩ (delF f k) ∧ w.grownBy w' (some b1) := by
  obtain ⟨w', hrun, hM, hg⟩ := S.locks.drop Try.underlying72 (k := k) hk ty (ks' := T.ks.filter fun y => !(y == k)) (fun y => by rw [List.mem_filter]; simp [and_comm])
  refine ⟨w', hrun, S.turn1 hg hM (S.sorted.filter _) fun k' => ?_, hg⟩
  by_cases e : k' = k
  · subst e
    rw [he]
    exact ⟨_, _, by simp [delF, noLk], wants_none _, wants_none _⟩
  · obtain ⟨a', b', e1, e2, e3⟩ := S.at_ k'
    exact ⟨a', b', by simpa [delF, e] using e1, e2, e3⟩
theorem TabIs.drew (S : TabIs w TB b1 b2 T f) : TabIs w.drew TB b1 b2 T f := S.below (RowKit.Below.refl w.heap.size w).drew (Nat.le_refl _)
end
section
variable {w : World} {TB b1 b2 : Nat} {T : Tb} {f : Ky → Option Value} {o : Oper} {a : Act} {K : Act → World → Prop} {Q : Exit → Act → World → Prop}
theorem wp_dropW (m x : Operand) (hop : o.op = Op.call { callee := Callee.builtin Builtin.delete, args := #[m, x], argTypes := #[73, 23] }) (hm : a.eval m = .map (some b2)) (S : TabIs w TB b1 b2 T f) {k : Int} (hk : U k) (hx : a.eval x = .int .u32 k)
    (hK : ∀ w', TabIs w' TB b1 b2 (dropW T k) f → w.grownBy w' (some b2) → K (a.put o.dst (.tuple #[])) w') : o.wp Try.prog a w K Q := by
  obtain ⟨w', hrun, r1, r2⟩ := S.drop hk o.type
  unfold Oper.wp
  simp [execOp, hop, resolve, invoke, builtin, hm, hx, hrun, Result.andThen]
  exact hK w' r1 r2
theorem wpList_dropW {ops : Array Oper} {rest : List Oper} (hgd : o.guard = none) (m x : Operand) (hop : o.op = Op.call { callee := Callee.builtin Builtin.delete, args := #[m, x], argTypes := #[73, 23] }) (hm : a.eval m = .map (some b2)) (S : TabIs w TB b1 b2 T f) {k : Int} (hk : U k) (hx : a.eval x = .int .u32 k)
    (h : ∀ w', TabIs w' TB b1 b2 (dropW T k) f → w.grownBy w' (some b2) → wpList Try.prog ops Q rest (a.put o.dst (.tuple #[])) w') : wpList Try.prog ops Q (o :: rest) a w :=
  wpList_plain hgd fun K hK => wp_dropW m x hop hm S hk hx fun w' h1 h2 => hK _ _ (h w' h1 h2)
theorem wp_dropL (m x : Operand) (hop : o.op = Op.call { callee := Callee.builtin Builtin.delete, args := #[m, x], argTypes := #[72, 38] }) (hm : a.eval m = .map (some b1)) (S : TabIs w TB b1 b2 T f) {k : Ky} (hk : KyOk k) (he : T.F k = ([], [])) (hx : a.eval x = kyV k)
    (hK : ∀ w', TabIs w' TB b1 b2 ⟨T.ks.filter fun k' => !(k' == k), T.F, T.hs, T.W⟩ (delF f k) → w.grownBy w' (some b1) → K (a.put o.dst (.tuple #[])) w') : o.wp Try.prog a w K Q := by
  obtain ⟨w', hrun, r1, r2⟩ := S.dropL hk he o.type
  unfold Oper.wp
  simp [execOp, hop, resolve, invoke, builtin, hm, hx, hrun, Result.andThen]
  exact hK w' r1 r2
end
theorem nums_block {w : World} {base g : Nat} {v : Value} {zs : List Int} (O : w.ownsInts base 23 .u32 v zs) (e : v.ownBlock = some g) : ∃ cs fr, w.heap[g]? = some (.cells cs 23 fr) := by
  rcases O.1.2 with ⟨rfl, _⟩ | ⟨g', cap, cur, rfl, _, hh, _⟩
  · cases e
  · cases e
    exact ⟨_, _, hh⟩
theorem nums_one {w : World} {g : Nat} {x : Int} {ty : TypeId} {fr : Nat × Nat} (h : w.heap[g]? = some (.cells #[.int .u32 x] ty fr)) : Nums w (some ⟨g, 0, none⟩) [x] := fun _ =>
  ⟨g, 0, rfl, (Array.getElem?_eq_some_iff.1 h).1, fun i hi => by
    have : i = 0 := by simp at hi; omega
    subst this
    rw [cell_of_heap h]
    rfl⟩
/-- How long a slice is that lies in a cell. -/
def lenAt (w : World) (B i : Nat) : Nat := match w.cell? ⟨B, i, none⟩ with | some (.slice _ n _) => n | _ => 0
theorem lenAt_lock {w : World} {LB n c : Nat} {va : Value} {a : Option Addr} (L : LockB w LB va (.slice a n c)) : lenAt w LB 1 = n := by simp [lenAt, L.c1]
theorem field_k (a b c : Int) : ∀ w : World, (Instr.field 38 (.agg #[.int .u8 a, .int .u32 b, .int .u32 c]) 0).run Try.prog w = .ok (.int .u8 a) w := fun _ => by kernel_rfl
end Go.Proofs.Ytilknhackmccpaa
