/- Package lock: what the laws are handed: a key, an operation, operations; Package lock: what holds of every table that was played, plainly; Package lock: the invariant of tables: Ask; Package lock: the invariant of tables: Release. -/
import Derived.Test.YtilknhackmccpaaLckT
import Derived.Deep.Slices
set_option linter.unusedVariables false
set_option linter.unusedSimpArgs false
namespace Go.Proofs.Ytilknhackmccpaa
open Go.ChangeShapes Go.WideShapes Go.ChangeAt Go.RowKit

section
variable {H : Type} {enc : TypeId × Value → H} {w : World} {base : Nat} {spare : Nat → Bool} {held : Bool}
theorem u8_of {x : Int} (h : (Lit.int .u8 x).wf = true) : 0 ≤ x ∧ x ≤ 255 := by
  simp only [Lit.wf, Bool.and_eq_true, decide_eq_true_eq] at h
  exact h
theorem open_key {fuel : Nat} {cs : List Value} {x : DataW H × List MemPlace} (h : DataW.trod enc Try.prog w base spare held fuel 38 cs = some x) :
    ∃ k : Ky, KyOk k ∧ cs = kRow k := by
  obtain ⟨xs, n, _, _, hl, hx, hf⟩ := DataW.trod_struct Try.underlying38 h
  have hl7 : cs.length = 3 := hl.trans (by kernel_rfl)
  have hx7 : xs.length = 3 := hx
  have e5 : Try.prog.cellsOf 5 = 1 := by kernel_rfl
  have e22 : Try.prog.cellsOf 23 = 1 := by kernel_rfl
  obtain ⟨a0, g0, w0⟩ := one_int (i := 0) Try.underlying5 e5 (hf 0 _ rfl) (getElem?_isSome hx7 (by omega))
  obtain ⟨a1, g1, w1⟩ := one_int (i := 1) Try.underlying23 e22 (hf 1 _ rfl) (getElem?_isSome hx7 (by omega))
  obtain ⟨a2, g2, w2⟩ := one_int (i := 2) Try.underlying23 e22 (hf 2 _ rfl) (getElem?_isSome hx7 (by omega))
  refine ⟨(a0, a1, a2), ⟨u8_of w0, U.of w1, U.of w2⟩, List.ext_getElem? fun i => ?_⟩
  match i with
  | 0 => exact g0
  | 1 => exact g1
  | 2 => exact g2
  | i + 3 => rw [List.getElem?_eq_none (by omega), List.getElem?_eq_none (by simp [kRow])]
/-- An operation: kind, who, of which key, in which mode. -/
structure Lop where
  kind : Int
  txn : Int
  k : Ky
  mode : Int
structure LopOk (o : Lop) : Prop where
  kind : 0 ≤ o.kind ∧ o.kind ≤ 255
  txn : U o.txn
  k : KyOk o.k
def lRow (o : Lop) : List Value := [.int .u8 o.kind, .int .u32 o.txn, .int .u8 o.k.1, .int .u32 o.k.2.1, .int .u32 o.k.2.2, .int .u8 o.mode]
theorem open_lop {fuel : Nat} {cs : List Value} {x : DataW H × List MemPlace} (h : DataW.trod enc Try.prog w base spare held fuel 47 cs = some x) :
    ∃ o : Lop, LopOk o ∧ cs = lRow o := by
  obtain ⟨xs, n, _, _, hl, hx, hf⟩ := DataW.trod_struct Try.underlying47 h
  have hl6 : cs.length = 6 := hl.trans (by kernel_rfl)
  have hx4 : xs.length = 4 := hx
  have e5 : Try.prog.cellsOf 5 = 1 := by kernel_rfl
  have e22 : Try.prog.cellsOf 23 = 1 := by kernel_rfl
  have e24 : Try.prog.cellsOf 38 = 3 := by kernel_rfl
  obtain ⟨a0, g0, w0⟩ := one_int (i := 0) Try.underlying5 e5 (hf 0 _ rfl) (getElem?_isSome hx4 (by omega))
  obtain ⟨a1, g1, w1⟩ := one_int (i := 1) Try.underlying23 e22 (hf 1 _ rfl) (getElem?_isSome hx4 (by omega))
  obtain ⟨a3, g3, w3⟩ := one_int (i := 5) Try.underlying5 e5 (hf 3 _ rfl) (getElem?_isSome hx4 (by omega))
  have k0 := hf 2 _ rfl
  obtain ⟨y0, hy0⟩ := Option.isSome_iff_exists.1 (getElem?_isSome hx4 (show 2 < 4 by omega))
  rw [hy0] at k0
  obtain ⟨k, hok, hk⟩ := open_key k0
  have hk' : (cs.drop 2).take (Try.prog.cellsOf 38) = kRow k := hk
  rw [e24] at hk'
  refine ⟨⟨a0, a1, k, a3⟩, ⟨u8_of w0, U.of w1, hok⟩, List.ext_getElem? fun i => ?_⟩
  match i with
  | 0 => exact g0
  | 1 => exact g1
  | 2 => have := congrArg (fun l => l[0]?) hk'; simpa [List.getElem?_take, List.getElem?_drop, kRow, lRow] using this
  | 3 => have := congrArg (fun l => l[1]?) hk'; simpa [List.getElem?_take, List.getElem?_drop, kRow, lRow] using this
  | 4 => have := congrArg (fun l => l[2]?) hk'; simpa [List.getElem?_take, List.getElem?_drop, kRow, lRow] using this
  | 5 => exact g3
  | i + 6 => rw [List.getElem?_eq_none (by omega), List.getElem?_eq_none (by simp [lRow])]
instance : Inhabited Lop := ⟨⟨0, 0, (0, 0, 0), 0⟩⟩
/-- A slice of operations that came in. -/
def LopsIn (w : World) (v : Value) (l : List Lop) : Prop := ∃ a cap, v = .slice a l.length cap ∧ (∀ o ∈ l, LopOk o) ∧ (l ≠ [] → ∃ eb off, a = some ⟨eb, off, none⟩ ∧ eb < w.heap.size ∧ ∀ i o, l[i]? = some o → ∀ j v, (lRow o)[j]? = some v → w.cell? ⟨eb, off + i * 6 + j, none⟩ = some v)
theorem open_lops {fuel : Nat} {v : Value} {x : DataW H × List MemPlace} (hv : ∃ a l c, v = .slice a l c) (h : DataW.trod enc Try.prog w 0 (fun _ => true) held fuel 45 v.cells.toList = some x) :
    ∃ s, LopsIn w v s := by
  obtain ⟨a, l, c, rfl⟩ := hv
  have e49 : Try.prog.cellsOf 47 = 6 := by kernel_rfl
  rcases Go.Deep.open_slice Try.underlying45 h with ⟨hcs, _⟩ | ⟨a', l', c', m, n, D, Pl, hcs, _, hl, hm, hmm, _, hel⟩
  · simp [Value.cells] at hcs
    obtain ⟨rfl, rfl, rfl⟩ := hcs
    exact ⟨[], none, 0, rfl, by simp, fun h => absurd rfl h⟩
  · simp [Value.cells] at hcs
    obtain ⟨rfl, rfl, rfl⟩ := hcs
    by_cases h0 : l = 0
    · subst h0
      exact ⟨[], some a', c, rfl, by simp, fun h => absurd rfl h⟩
    · have hm' : m = c := by simpa using hmm
      have key : ∀ i, i < l → ∃ o : Lop, LopOk o ∧ ∀ j v, (lRow o)[j]? = some v → w.cell? ((a'.add (i * 6)).add j) = some v := by
        intro i hi
        obtain ⟨cs', h1, h2⟩ := hel i (by omega)
        rw [e49] at h1
        obtain ⟨_, hlen, hcell⟩ := World.cells?_some h1
        obtain ⟨o, hok, rfl⟩ := open_lop h2
        refine ⟨o, hok, fun j v hj => ?_⟩
        rw [hcell j (by have := (List.getElem?_eq_some_iff.1 hj).1; simpa [lRow] using this)]
        exact hj
      obtain ⟨f, hf⟩ := Go.Deep.choose_lt (p := fun i (o : Lop) => LopOk o ∧ ∀ j v, (lRow o)[j]? = some v → w.cell? ((a'.add (i * 6)).add j) = some v) key
      have hc0 := (hf 0 (by omega)).2 0 _ rfl
      have hlt := World.block_lt_of_cell? _ _ hc0
      have hs := World.cell?_spot hc0
      obtain ⟨b, off, spot⟩ := a'
      have hspot : spot = none := by simpa [Addr.add] using hs
      subst hspot
      obtain ⟨L, hL, hLf⟩ := list_of f l
      refine ⟨L, some ⟨b, off, none⟩, c, by rw [hL], fun o ho => ?_, fun _ => ⟨b, off, rfl, by simpa [Addr.add] using hlt, fun i o hi j v hj => ?_⟩⟩
      · obtain ⟨i, hi, e⟩ := List.mem_iff_getElem.1 ho
        rw [← e, hLf i hi]
        exact (hf i (by omega)).1
      · obtain ⟨hil, e⟩ := List.getElem?_eq_some_iff.1 hi
        rw [hLf i hil] at e
        have h3 := (hf i (by omega)).2 j v (by rw [e]; exact hj)
        rw [Addr.add_lit, Addr.add_lit] at h3
        exact h3
end
end Go.Proofs.Ytilknhackmccpaa

namespace Go.Proofs.Ytilknhackmccpaa
open Go.RowKit Go.Sort Go.Lib Go.Maps

/-- Those that hold: each once, in a mode, none apart. -/
structure HOk (h : List (Int × Int)) : Prop where
  nod : (h.map (·.1)).Nodup
  modes : ∀ p ∈ h, p.2 = 1 ∨ p.2 = 2
  comp : ∀ a ∈ h, ∀ b ∈ h, apartB a b = false
structure QOk (l : List (Int × Int)) : Prop where
  nod : (l.map (·.1)).Nodup
  modes : ∀ p ∈ l, p.2 = 1 ∨ p.2 = 2
/-- A line's head is not free. -/
def Stuck (l : Lk) : Prop := ∀ x r, l.2 = x :: r → freeB l.1 x = false
structure LOk (l : Lk) : Prop where
  h : HOk l.1
  q : QOk l.2
  stuck : Stuck l
theorem hok_nil : HOk [] := ⟨List.nodup_nil, by simp, by simp⟩
theorem qok_nil : QOk [] := ⟨List.nodup_nil, by simp⟩
theorem lok_nil : LOk ([], []) := ⟨hok_nil, qok_nil, by intro x r h; cases h⟩
theorem apart_comm (a b : Int × Int) : apartB a b = apartB b a := by
  unfold apartB
  rw [Bool.or_comm, bne_comm]
theorem modeL_cons (p : Int × Int) (l : List (Int × Int)) (t : Int) : modeL (p :: l) t = if p.1 = t then p.2 else modeL l t := by
  by_cases h : p.1 = t
  · simp [modeL, h]
  · have : (p.1 == t) = false := by simpa using h
    simp [modeL, h, this]
theorem modeL_mem : ∀ {l : List (Int × Int)} {t m : Int}, (l.map (·.1)).Nodup → (t, m) ∈ l → modeL l t = m
  | [], _, _, _, h => by simp at h
  | p :: l, t, m, hn, h => by
    obtain ⟨h1, h2⟩ := List.nodup_cons.1 hn
    rw [modeL_cons]
    rcases List.mem_cons.1 h with rfl | h
    · simp
    · have : p.1 ≠ t := fun e => h1 (List.mem_map.2 ⟨(t, m), h, e.symm⟩)
      rw [if_neg this]
      exact modeL_mem h2 h
theorem modeL_in : ∀ {l : List (Int × Int)} {t : Int}, modeL l t ≠ 0 → (t, modeL l t) ∈ l
  | [], _, h => absurd rfl h
  | p :: l, t, h => by
    rw [modeL_cons] at h ⊢
    by_cases e : p.1 = t
    · rw [if_pos e]
      subst e
      exact List.mem_cons_self ..
    · rw [if_neg e] at h ⊢
      exact List.mem_cons_of_mem _ (modeL_in h)
theorem modeL_pos {l : List (Int × Int)} {t : Int} (hm : ∀ p ∈ l, p.2 = 1 ∨ p.2 = 2) : modeL l t = 0 ∨ modeL l t = 1 ∨ modeL l t = 2 := by
  by_cases h : modeL l t = 0
  · exact .inl h
  · exact .inr (hm _ (modeL_in h))
theorem modeL_zero {l : List (Int × Int)} {t : Int} (hm : ∀ p ∈ l, p.2 = 1 ∨ p.2 = 2) : modeL l t = 0 ↔ ∀ p ∈ l, p.1 ≠ t := by
  refine ⟨fun h p hp e => ?_, modeL_not⟩
  subst e
  induction l with
  | nil => simp at hp
  | cons q l ih =>
    rw [modeL_cons] at h
    by_cases e : q.1 = p.1
    · rw [if_pos e] at h
      have := hm q (by simp)
      omega
    · rw [if_neg e] at h
      rcases List.mem_cons.1 hp with rfl | hp
      · exact e rfl
      · exact ih (fun p hp => hm p (List.mem_cons_of_mem _ hp)) hp h
theorem modeL_notL (l : List (Int × Int)) (t x : Int) : modeL (notL l t) x = if x = t then 0 else modeL l x := by
  induction l with
  | nil => simp [notL, modeL_nil]
  | cons p l ih =>
    by_cases e : p.1 = t
    · have : notL (p :: l) t = notL l t := by simp [notL, e]
      rw [this, ih, modeL_cons]
      by_cases hx : x = t
      · simp [hx]
      · rw [if_neg hx, if_neg hx, if_neg (fun h => hx (h.symm.trans e))]
    · have hb : (p.1 == t) = false := by simpa using e
      have : notL (p :: l) t = p :: notL l t := by simp [notL, hb]
      rw [this, modeL_cons, modeL_cons, ih]
      by_cases hp : p.1 = x
      · have : x ≠ t := fun h => e (hp.trans h)
        simp [hp, this]
      · simp [hp]
theorem modeL_append (a b : List (Int × Int)) (t : Int) : modeL (a ++ b) t = if ∃ p ∈ a, p.1 = t then modeL a t else modeL b t := by
  induction a with
  | nil => simp
  | cons p a ih =>
    rw [List.cons_append, modeL_cons, modeL_cons, ih]
    by_cases hp : p.1 = t
    · simp [hp]
    · have : (∃ q ∈ p :: a, q.1 = t) ↔ ∃ q ∈ a, q.1 = t := by simp [hp]
      simp only [hp, if_false, this]
theorem mem_notL {l : List (Int × Int)} {t : Int} {p : Int × Int} : p ∈ notL l t ↔ p ∈ l ∧ p.1 ≠ t := by
  rw [notL, List.mem_filter]
  simp
theorem notL_nodup {l : List (Int × Int)} (h : (l.map (·.1)).Nodup) (t : Int) : ((notL l t).map (·.1)).Nodup := List.Nodup.sublist ((List.filter_sublist).map _) h
theorem HOk.notL {h : List (Int × Int)} (H : HOk h) (t : Int) : HOk (notL h t) :=
  ⟨notL_nodup H.nod t, fun p hp => H.modes p (mem_notL.1 hp).1, fun a ha b hb => H.comp a (mem_notL.1 ha).1 b (mem_notL.1 hb).1⟩
theorem QOk.notL {h : List (Int × Int)} (H : QOk h) (t : Int) : QOk (Go.Proofs.Ytilknhackmccpaa.notL h t) := ⟨notL_nodup H.nod t, fun p hp => H.modes p (mem_notL.1 hp).1⟩
theorem freeB_iff {h : List (Int × Int)} {x : Int × Int} : freeB h x = true ↔ ∀ y ∈ h, apartB y x = false := by simp [freeB]
theorem HOk.give {h : List (Int × Int)} (H : HOk h) {x : Int × Int} (hx : x.2 = 1 ∨ x.2 = 2) (hf : freeB h x = true) : HOk (Go.Proofs.Ytilknhackmccpaa.notL h x.1 ++ [x]) := by
  have hfr := freeB_iff.1 hf
  refine ⟨?_, fun p hp => ?_, fun a ha b hb => ?_⟩
  · rw [List.map_append, List.nodup_append]
    refine ⟨notL_nodup H.nod x.1, by simp, fun a ha b hb => ?_⟩
    obtain ⟨p, hp, rfl⟩ := List.mem_map.1 ha
    simp only [List.map_cons, List.map_nil, List.mem_singleton] at hb
    rw [hb]
    exact (mem_notL.1 hp).2
  · rcases List.mem_append.1 hp with hp | hp
    · exact H.modes p (mem_notL.1 hp).1
    · rw [List.mem_singleton.1 hp]; exact hx
  · have hself : apartB x x = false := by simp [apartB]
    rcases List.mem_append.1 ha with ha | ha <;> rcases List.mem_append.1 hb with hb | hb
    · exact H.comp a (mem_notL.1 ha).1 b (mem_notL.1 hb).1
    · rw [List.mem_singleton.1 hb]; exact hfr a (mem_notL.1 ha).1
    · rw [List.mem_singleton.1 ha, apart_comm]; exact hfr b (mem_notL.1 hb).1
    · rw [List.mem_singleton.1 ha, List.mem_singleton.1 hb]; exact hself
theorem modeL_give {h : List (Int × Int)} {x : Int × Int} (t : Int) : modeL (notL h x.1 ++ [x]) t = if t = x.1 then x.2 else modeL h t := by
  rw [modeL_append]
  by_cases ht : t = x.1
  · subst ht
    rw [if_neg (by rintro ⟨p, hp, e⟩; exact (mem_notL.1 hp).2 e), if_pos rfl, modeL_cons, if_pos rfl]
  · rw [if_neg ht]
    split
    · rw [modeL_notL, if_neg ht]
    · rename_i hn
      rw [modeL_cons, if_neg (fun e => ht e.symm), modeL_nil]
      exact (modeL_not fun p hp e => hn ⟨p, mem_notL.2 ⟨hp, fun e' => ht (e.symm.trans e')⟩, e⟩).symm
theorem notL_head {x : Int × Int} {r : List (Int × Int)} (h : (((x :: r).map (·.1))).Nodup) : notL (x :: r) x.1 = r := by
  have h1 : notL (x :: r) x.1 = notL r x.1 := by simp [notL]
  rw [h1]
  obtain ⟨h2, _⟩ := List.nodup_cons.1 h
  exact notL_none fun p hp e => h2 (List.mem_map.2 ⟨p, hp, e⟩)
/-- What waking does. -/
theorem wake_spec : ∀ (l h : List (Int × Int)), HOk h → QOk l → ∃ l1 l2 h', wakeL (h, l) = ((h', l2), l1.map (·.1)) ∧ l = l1 ++ l2 ∧ HOk h' ∧ Stuck (h', l2) ∧ ∀ t, modeL h' t = if t ∈ l1.map (·.1) then modeL l1 t else modeL h t
  | [], h, H, _ => ⟨[], [], h, wakeL_nil h, rfl, H, (by intro x r e; cases e), by simp⟩
  | x :: r, h, H, Q => by
    cases hf : freeB h x with
    | false => exact ⟨[], x :: r, h, wakeL_stop hf, rfl, H, (by intro y s e; cases e; exact hf), by simp⟩
    | true =>
      obtain ⟨hx, hr⟩ := List.nodup_cons.1 Q.nod
      have hh := notL_head Q.nod
      obtain ⟨l1, l2, h', e1, e2, e3, e4, e5⟩ := wake_spec r (notL h x.1 ++ [x]) (H.give (Q.modes x (by simp)) hf) ⟨hr, fun p hp => Q.modes p (List.mem_cons_of_mem _ hp)⟩
      refine ⟨x :: l1, l2, h', ?_, by rw [e2]; rfl, e3, e4, fun t => ?_⟩
      · rw [wakeL_step hf, hh, e1]
        rfl
      · rw [e5, modeL_give]
        have hx1 : x.1 ∉ l1.map (·.1) := fun hm => hx (by rw [e2, List.map_append]; exact List.mem_append_left _ hm)
        by_cases h1 : t = x.1
        · subst h1
          rw [if_neg hx1, if_pos rfl, if_pos (by simp), modeL_cons, if_pos rfl]
        · simp only [List.map_cons, List.mem_cons, h1, false_or]
          split
          · rw [modeL_cons, if_neg (fun e => h1 e.symm)]
          · rfl
theorem qok_right {a b : List (Int × Int)} (h : QOk (a ++ b)) : QOk b := by
  refine ⟨?_, fun p hp => h.modes p (List.mem_append_right _ hp)⟩
  have := h.nod
  rw [List.map_append, List.nodup_append] at this
  exact this.2.1
end Go.Proofs.Ytilknhackmccpaa

namespace Go.Proofs.Ytilknhackmccpaa
open Go.RowKit Go.Sort Go.Lib Go.Maps

structure Inv (T : Tb) : Prop where
  lk : ∀ k, LOk (T.F k)
  line : ∀ k t m, (t, m) ∈ (T.F k).2 ↔ T.W t = some (k, m)
  out : ∀ k, k ∉ T.ks → T.F k = ([], [])
  hs : ∀ t, t ∈ T.hs ↔ T.W t ≠ none
  rise : T.ks.Pairwise KLt
theorem inv_none : Inv noTb := ⟨fun _ => lok_nil, fun _ _ _ => by simp [noTb], fun _ _ => rfl, fun _ => by simp [noTb], List.Pairwise.nil⟩
theorem insL_perm (l : List (Int × Int)) (i : Nat) (x : Int × Int) : (insL l i x).Perm (x :: l) := by
  unfold insL
  refine List.perm_middle.trans ?_
  rw [List.take_append_drop]
theorem askM_or (m : Int) : askM m = 1 ∨ askM m = 2 := by unfold askM; split <;> simp
theorem insL_head {l : List (Int × Int)} {i : Nat} {x y : Int × Int} {r : List (Int × Int)} (h : insL l i x = y :: r) : (y = x ∧ (i = 0 ∨ l = [])) ∨ ∃ s, l = y :: s := by
  unfold insL at h
  rcases l with _ | ⟨z, l⟩
  · simp at h
    exact .inl ⟨h.1.symm, .inr rfl⟩
  · rcases i with _ | i
    · simp at h
      exact .inl ⟨h.1.symm, .inl rfl⟩
    · simp at h
      exact .inr ⟨l, by rw [h.1]⟩
theorem inv_ask {T : Tb} (I : Inv T) (t : Int) (k : Ky) (m : Int) : Inv (askT T t k m).2 := by
  unfold askT
  split
  · exact I
  · rename_i hne
    split
    · exact I
    · rename_i hW
      have hW0 : T.W t = none := by simpa using hW
      have hout : ∀ (F' : Ky → Lk), (∀ k', k' ≠ k → F' k' = T.F k') → ∀ k', k' ∉ insK T.ks k → F' k' = ([], []) := fun F' hF k' hk' => by
        have : k' ≠ k ∧ k' ∉ T.ks := ⟨fun e => hk' ((insK_mem T.ks k k').2 (.inl e)), fun h => hk' ((insK_mem T.ks k k').2 (.inr h))⟩
        rw [hF k' this.1]
        exact I.out k' this.2
      have hL := I.lk k
      split
      · rename_i hgot
        simp only [Bool.and_eq_true] at hgot
        have hf := hgot.1
        refine ⟨fun k' => ?_, fun k' x mx => ?_, hout _ (fun k' h => by simp [setF, h]), I.hs, insK_rise I.rise k⟩
        · by_cases hk : k' = k
          · subst hk
            simp only [setF, if_true]
            refine ⟨hL.h.give (askM_or m) hf, hL.q, fun x r hx => ?_⟩
            have hst := hL.stuck x r hx
            have hnf : ∃ y ∈ (T.F k').1, apartB y x = true := by
              by_cases h : ∃ y ∈ (T.F k').1, apartB y x = true
              · exact h
              · have : freeB (T.F k').1 x = true := freeB_iff.2 fun y hy => by
                  cases hb : apartB y x with
                  | false => rfl
                  | true => exact absurd ⟨y, hy, hb⟩ h
                rw [this] at hst
                cases hst
            obtain ⟨y, hy, hyx⟩ := hnf
            cases hfb : freeB (notL (T.F k').1 t ++ [(t, askM m)]) x with
            | false => rfl
            | true =>
              have hall := freeB_iff.1 hfb
              by_cases hyt : y.1 = t
              · have h2 := hall (t, askM m) (by simp)
                have hy2 : y.2 = modeL (T.F k').1 t := (modeL_mem hL.h.nod (by rw [← hyt]; exact hy)).symm
                have hy3 : ¬ y.2 = 2 := fun e => hne (.inl (by rw [← hy2, e]))
                simp only [apartB, Bool.and_eq_true, bne_iff_ne, ne_eq, Bool.or_eq_true, beq_iff_eq] at hyx
                rw [hyt] at hyx
                rcases hyx.2 with h | h
                · exact absurd h hy3
                · simp [apartB, hyx.1, h] at h2
              · have := hall y (List.mem_append_left _ (mem_notL.2 ⟨hy, hyt⟩))
                rw [hyx] at this
                cases this
          · simp only [setF, if_neg hk]
            exact I.lk k'
        · by_cases hk : k' = k
          · subst hk
            simp only [setF, if_true]
            exact I.line k' x mx
          · simp only [setF, if_neg hk]
            exact I.line k' x mx
      · rename_i hgot
        have hnt : ∀ k' p, p ∈ (T.F k').2 → p.1 ≠ t := fun k' p hp e => by
          have := (I.line k' p.1 p.2).1 hp
          rw [e, hW0] at this
          cases this
        refine ⟨fun k' => ?_, fun k' x mx => ?_, hout _ (fun k' h => by simp [setF, h]), fun x => ?_, insK_rise I.rise k⟩
        · by_cases hk : k' = k
          · subst hk
            simp only [setF, if_true]
            have hp := insL_perm (T.F k').2 (place (T.F k').1 (T.F k').2 t) (t, askM m)
            refine ⟨hL.h, ⟨?_, fun p hp' => ?_⟩, fun x r hx => ?_⟩
            · rw [(hp.map _).nodup_iff, List.map_cons, List.nodup_cons]
              exact ⟨fun h => by obtain ⟨p, hp, e⟩ := List.mem_map.1 h; exact hnt k' p hp e, hL.q.nod⟩
            · rcases List.mem_cons.1 (hp.mem_iff.1 hp') with rfl | h
              · exact askM_or m
              · exact hL.q.modes p h
            · rcases insL_head hx with ⟨rfl, hz⟩ | ⟨s, hs⟩
              · cases hfb : freeB (T.F k').1 (t, askM m) with
                | false => rfl
                | true =>
                  exfalso
                  apply hgot
                  rw [hfb, Bool.true_and, Bool.or_eq_true, bne_iff_ne]
                  by_cases h0 : modeL (T.F k').1 t = 0
                  · right
                    rcases hz with hz | hz
                    · rw [place, if_neg (by simpa using h0)] at hz
                      simpa using hz
                    · simp [hz]
                  · exact .inl h0
              · exact hL.stuck x s hs
          · simp only [setF, if_neg hk]
            exact I.lk k'
        · by_cases hk : k' = k
          · subst hk
            simp only [setF, if_true]
            rw [(insL_perm (T.F k').2 (place (T.F k').1 (T.F k').2 t) (t, askM m)).mem_iff, List.mem_cons, I.line k' x mx]
            by_cases hx : x = t
            · subst hx
              simp [setW, hW0, eq_comm]
            · simp [setW, hx]
          · simp only [setF, if_neg hk]
            rw [I.line k' x mx]
            by_cases hx : x = t
            · subst hx
              rw [hW0]
              simp only [setW, if_true, Option.some.injEq, Prod.mk.injEq]
              exact ⟨(fun h => by cases h), fun h => absurd h.1.symm hk⟩
            · simp [setW, hx]
        · rw [insH_mem, I.hs]
          by_cases hx : x = t
          · simp [setW, hx]
          · simp [setW, hx]
/-- What one holds, behind an Ask. -/
theorem ask_mode {T : Tb} (I : Inv T) (t : Int) (k : Ky) (m : Int) : (askT T t k m).1 = (modeL ((askT T t k m).2.F k).1 t == 2 || (modeL ((askT T t k m).2.F k).1 t == 1 && m == 1)) := by
  have hp := modeL_pos (t := t) (I.lk k).h.modes
  unfold askT
  have hm : askM m = 1 ∧ m = 1 ∨ askM m = 2 ∧ m ≠ 1 := by unfold askM; split <;> simp_all
  split
  · rename_i h
    simp only
    rcases h with h | h
    · simp [h]
    · rcases hm with ⟨e, e'⟩ | ⟨e, e'⟩
      · rw [h, e, e']; rfl
      · simp [h, e]
  · rename_i hne
    have h2 : ¬ modeL (T.F k).1 t = 2 := fun e => hne (.inl e)
    have h1 : ¬ (modeL (T.F k).1 t = 1 ∧ m = 1) := fun e => hne (.inr (by rw [e.1]; unfold askM; rw [if_pos e.2]))
    have hfalse : (modeL (T.F k).1 t == 2 || (modeL (T.F k).1 t == 1 && m == 1)) = false := by
      cases hb : (modeL (T.F k).1 t == 2 || (modeL (T.F k).1 t == 1 && m == 1)) with
      | false => rfl
      | true =>
        simp only [Bool.or_eq_true, beq_iff_eq, Bool.and_eq_true] at hb
        rcases hb with h | h
        · exact absurd h h2
        · exact absurd h h1
    split
    · exact hfalse.symm
    · split
      · simp only [setF, if_true]
        rw [modeL_give (x := (t, askM m)), if_pos rfl]
        rcases hm with ⟨e, e'⟩ | ⟨e, e'⟩
        · simp only [e, e']; rfl
        · simp [e]
      · simp only [setF, if_true]
        exact hfalse.symm
end Go.Proofs.Ytilknhackmccpaa

namespace Go.Proofs.Ytilknhackmccpaa
open Go.RowKit Go.Sort Go.Lib Go.Maps

theorem dropAll_W : ∀ (xs : List Int) (T : Tb) (x : Int), (dropAll T xs).W x = if x ∈ xs then none else T.W x
  | [], T, x => by simp [dropAll]
  | y :: xs, T, x => by
    have h : dropAll T (y :: xs) = dropAll (dropW T y) xs := rfl
    rw [h, dropAll_W xs]
    by_cases hx : x ∈ xs
    · simp [hx]
    · by_cases hy : x = y
      · simp [hx, hy, dropW, setW]
      · simp [hx, hy, dropW, setW]
theorem dropAll_hs : ∀ (xs : List Int) (T : Tb) (x : Int), x ∈ (dropAll T xs).hs ↔ x ∈ T.hs ∧ x ∉ xs
  | [], T, x => by simp [dropAll]
  | y :: xs, T, x => by
    have h : dropAll T (y :: xs) = dropAll (dropW T y) xs := rfl
    rw [h, dropAll_hs xs]
    simp only [dropW, List.mem_filter, List.mem_cons, not_or]
    constructor
    · rintro ⟨⟨h1, h2⟩, h3⟩
      exact ⟨h1, by simpa using h2, h3⟩
    · rintro ⟨h1, h2, h3⟩
      exact ⟨⟨h1, by simpa using h2⟩, h3⟩
/-- A release under way: the keys of 'done' are dealt with, 'out' were woken. -/
structure RelSt (T0 T : Tb) (t : Int) (done : List Ky) (out : List Int) : Prop where
  lk : ∀ k, LOk (T.F k)
  line : ∀ k x m, (x, m) ∈ (T.F k).2 ↔ T.W x = some (k, m) ∧ (x ≠ t ∨ k ∉ done)
  w : ∀ x, T.W x = if x ∈ out then none else T0.W x
  who : ∀ x ∈ out, x ≠ t ∧ ∃ k ∈ done, ∃ m, T0.W x = some (k, m)
  mine : ∀ k ∈ done, modeL (T.F k).1 t = 0
  got : ∀ k x m, x ∈ out → T0.W x = some (k, m) → modeL (T.F k).1 x = m
  gone : ∀ k, k ∉ T.ks → T.F k = ([], [])
  hs : ∀ x, x ∈ T.hs ↔ T.W x ≠ none
  rise : T.ks.Pairwise KLt
  rest : ∀ k, k ∉ done → T.F k = T0.F k
theorem relSt_start {T : Tb} (I : Inv T) (t : Int) : RelSt T T t [] [] :=
  ⟨I.lk, fun k x m => by rw [I.line]; simp, fun x => by simp, by simp, by simp, by simp, I.out, I.hs, I.rise, fun _ _ => rfl⟩
theorem relSt_step {T0 T : Tb} {t : Int} {done : List Ky} {out : List Int} (S : RelSt T0 T t done out) {k : Ky} (hk : k ∉ done) : RelSt T0 (relStep t T k).1 t (done ++ [k]) (out ++ (relStep t T k).2) := by
  have hL := S.lk k
  unfold relStep
  split
  · rename_i hz
    simp only [List.append_nil]
    refine ⟨S.lk, fun k' x m => ?_, S.w, fun x hx => ?_, fun k' hk' => ?_, S.got, S.gone, S.hs, S.rise, fun k' hk' => S.rest k' (fun h => hk' (List.mem_append_left _ h))⟩
    · rw [S.line]
      by_cases hkk : k' = k
      · subst hkk
        constructor
        · rintro ⟨h1, _⟩
          refine ⟨h1, .inl fun e => ?_⟩
          have h2 := (S.line k' x m).2 ⟨h1, .inr hk⟩
          rw [e] at h2
          exact (modeL_zero hL.q.modes).1 hz.2 _ h2 rfl
        · rintro ⟨h1, _⟩
          exact ⟨h1, .inr hk⟩
      · simp [hkk]
    · obtain ⟨h1, k', h2, h3⟩ := S.who x hx
      exact ⟨h1, k', List.mem_append_left _ h2, h3⟩
    · rcases List.mem_append.1 hk' with h | h
      · exact S.mine k' h
      · rw [List.mem_singleton.1 h]; exact hz.1
  · rename_i hz
    obtain ⟨l1, l2, h', e1, e2, e3, e4, e5⟩ := wake_spec (notL (T.F k).2 t) (notL (T.F k).1 t) (hL.h.notL t) (hL.q.notL t)
    have hrl : relL (T.F k) t = ((h', l2), l1.map (·.1)) := by rw [relL, if_neg hz, e1]
    rw [hrl]
    simp only
    obtain ⟨ws, hws⟩ : ∃ ws, l1.map (·.1) = ws := ⟨_, rfl⟩
    rw [hws]
    have hq12 : QOk (l1 ++ l2) := e2 ▸ hL.q.notL t
    have hn12 := hq12.nod
    rw [List.map_append, List.nodup_append] at hn12
    -- who is woken stood in this line
    have hin : ∀ x ∈ ws, ∃ m, (x, m) ∈ l1 ∧ (x, m) ∈ (T.F k).2 ∧ x ≠ t ∧ T.W x = some (k, m) := fun x hx => by
      rw [← hws] at hx
      obtain ⟨⟨x', m⟩, hp, rfl⟩ := List.mem_map.1 hx
      have h1 : (x', m) ∈ notL (T.F k).2 t := by rw [e2]; exact List.mem_append_left _ hp
      obtain ⟨h2, h3⟩ := mem_notL.1 h1
      exact ⟨m, hp, h2, h3, ((S.line k x' m).1 h2).1⟩
    have hgone : h' = [] → l2 = [] := fun h => by
      have := wake_gone (notL (T.F k).2 t).length (notL (T.F k).1 t, notL (T.F k).2 t) (Nat.le_refl _) (by rw [show wake _ _ = wakeL (notL (T.F k).1 t, notL (T.F k).2 t) from rfl, e1]; exact h)
      rw [show wake _ _ = wakeL (notL (T.F k).1 t, notL (T.F k).2 t) from rfl, e1] at this
      exact this
    refine ⟨fun k' => ?_, fun k' x m => ?_, fun x => ?_, fun x hx => ?_, fun k' hk' => ?_, fun k' x m hx hw => ?_, fun k' hk' => ?_, fun x => ?_, ?_, fun k' hk' => ?_⟩
    · by_cases hkk : k' = k
      · subst hkk
        simp only [setF, if_true]
        exact ⟨e3, qok_right hq12, e4⟩
      · simp only [setF, if_neg hkk]
        exact S.lk k'
    · rw [dropAll_W]
      by_cases hkk : k' = k
      · subst hkk
        simp only [setF, if_true]
        constructor
        · intro h
          have h1 : (x, m) ∈ notL (T.F k').2 t := by rw [e2]; exact List.mem_append_right _ h
          obtain ⟨h2, h3⟩ := mem_notL.1 h1
          have hxw : x ∉ ws := fun hx => by
            rw [← hws] at hx
            exact hn12.2.2 x hx x (List.mem_map.2 ⟨(x, m), h, rfl⟩) rfl
          rw [if_neg hxw]
          exact ⟨((S.line k' x m).1 h2).1, .inl h3⟩
        · rintro ⟨h1, h2⟩
          have hxw : x ∉ ws := fun hx => by rw [if_pos hx] at h1; cases h1
          rw [if_neg hxw] at h1
          have hxt : x ≠ t := by
            rcases h2 with h | h
            · exact h
            · exact absurd (by simp) h
          have h3 := (S.line k' x m).2 ⟨h1, .inr hk⟩
          have h4 : (x, m) ∈ l1 ++ l2 := by rw [← e2]; exact mem_notL.2 ⟨h3, hxt⟩
          rcases List.mem_append.1 h4 with h | h
          · exact absurd (by rw [← hws]; exact List.mem_map.2 ⟨(x, m), h, rfl⟩) hxw
          · exact h
      · simp only [setF, if_neg hkk]
        rw [S.line]
        have hd : (k' ∉ done ++ [k]) ↔ k' ∉ done := by simp [hkk]
        rw [hd]
        by_cases hxw : x ∈ ws
        · obtain ⟨m', _, _, _, h⟩ := hin x hxw
          rw [if_pos hxw, h]
          constructor
          · rintro ⟨h1, _⟩
            simp only [Option.some.injEq, Prod.mk.injEq] at h1
            exact absurd h1.1.symm hkk
          · rintro ⟨h1, _⟩
            cases h1
        · rw [if_neg hxw]
    · rw [dropAll_W, S.w]
      by_cases h1 : x ∈ ws
      · simp [h1]
      · simp [h1]
    · rcases List.mem_append.1 hx with h | h
      · obtain ⟨h1, k', h2, h3⟩ := S.who x h
        exact ⟨h1, k', List.mem_append_left _ h2, h3⟩
      · obtain ⟨m, _, _, h2, h3⟩ := hin x h
        refine ⟨h2, k, by simp, m, ?_⟩
        rw [S.w] at h3
        split at h3
        · cases h3
        · exact h3
    · rcases List.mem_append.1 hk' with h | h
      · have hkk : k' ≠ k := fun e => hk (e ▸ h)
        simp only [setF, if_neg hkk]
        exact S.mine k' h
      · obtain rfl := List.mem_singleton.1 h
        simp only [setF, if_true]
        rw [e5]
        have htw : t ∉ l1.map (·.1) := fun h => by
          rw [hws] at h
          obtain ⟨_, _, _, h2, _⟩ := hin t h
          exact h2 rfl
        rw [if_neg htw, modeL_notL, if_pos rfl]
    · rcases List.mem_append.1 hx with h | h
      · obtain ⟨_, k2, h2, m2, h3⟩ := S.who x h
        rw [h3] at hw
        simp only [Option.some.injEq, Prod.mk.injEq] at hw
        obtain ⟨rfl, rfl⟩ := hw
        have hkk : k2 ≠ k := fun e => hk (e ▸ h2)
        simp only [setF, if_neg hkk]
        exact S.got k2 x m2 h h3
      · obtain ⟨m2, hp, _, _, h3⟩ := hin x h
        rw [S.w] at h3
        split at h3
        · cases h3
        · rw [hw] at h3
          simp only [Option.some.injEq, Prod.mk.injEq] at h3
          obtain ⟨rfl, rfl⟩ := h3
          simp only [setF, if_true]
          rw [e5, if_pos (by rw [hws]; exact h)]
          exact modeL_mem hn12.1 hp
    · by_cases hkk : k' = k
      · subst hkk
        by_cases hh : h' = []
        · simp [setF, hh, hgone hh]
        · rw [if_neg hh] at hk'
          exact absurd ((insK_mem T.ks k' k').2 (.inl rfl)) hk'
      · simp only [setF, if_neg hkk]
        refine S.gone k' fun h => hk' ?_
        split
        · exact List.mem_filter.2 ⟨(insK_mem T.ks k k').2 (.inr h), by simpa using hkk⟩
        · exact (insK_mem T.ks k k').2 (.inr h)
    · rw [dropAll_hs, dropAll_W, S.hs]
      by_cases h1 : x ∈ ws <;> simp [h1]
    · split
      · exact (insK_rise S.rise k).filter _
      · exact insK_rise S.rise k
    · have h1 : k' ≠ k ∧ k' ∉ done := ⟨fun e => hk' (by simp [e]), fun h => hk' (List.mem_append_left _ h)⟩
      simp only [setF, if_neg h1.1]
      exact S.rest k' h1.2
theorem relSt_fold {T0 : Tb} {t : Int} : ∀ (a : List Ky) (T : Tb) (done : List Ky) (out : List Int), RelSt T0 T t done out → (done ++ a).Nodup → RelSt T0 (relFold t a T).1 t (done ++ a) (out ++ (relFold t a T).2)
  | [], T, done, out, S, _ => by simpa [relFold] using S
  | k :: r, T, done, out, S, hn => by
    have hk : k ∉ done := fun h => by
      rw [List.nodup_append] at hn
      exact hn.2.2 k h k (by simp) rfl
    have hn2 : ((done ++ [k]) ++ r).Nodup := by simpa using hn
    have := relSt_fold r _ _ _ (relSt_step S hk) hn2
    simpa [relFold] using this
/-- What a Release does. -/
structure RelSpec (T : Tb) (t : Int) : Prop where
  inv : Inv (relT T t).1
  w : ∀ x, (relT T t).1.W x = if x = t ∨ x ∈ (relT T t).2 then none else T.W x
  who : ∀ x ∈ (relT T t).2, x ≠ t ∧ ∃ k m, T.W x = some (k, m) ∧ modeL ((relT T t).1.F k).1 x = m
  mine : ∀ k, modeL ((relT T t).1.F k).1 t = 0
theorem rel_spec {T : Tb} (I : Inv T) (t : Int) : RelSpec T t := by
  have hnd : T.ks.Nodup := I.rise.imp fun {a b} hab => by rintro rfl; exact KLt.irrefl a hab
  have S := relSt_fold (t := t) T.ks T [] [] (relSt_start I t) (by simpa using hnd)
  simp only [List.nil_append] at S
  have hW : ∀ x, (relT T t).1.W x = if x = t ∨ x ∈ (relT T t).2 then none else T.W x := fun x => by
    show setW (relFold t T.ks T).1.W t none x = _
    unfold setW
    by_cases hx : x = t
    · simp [hx]
    · rw [if_neg hx, S.w]
      simp only [hx, false_or]
      rfl
  refine ⟨⟨S.lk, fun k x m => ?_, S.gone, fun x => ?_, S.rise⟩, hW, fun x hx => ?_, fun k => ?_⟩
  · show (x, m) ∈ ((relFold t T.ks T).1.F k).2 ↔ setW (relFold t T.ks T).1.W t none x = _
    rw [S.line]
    unfold setW
    by_cases hx : x = t
    · subst hx
      simp only [if_true]
      constructor
      · rintro ⟨h1, h2⟩
        have hk : k ∉ T.ks := by
          rcases h2 with h | h
          · exact absurd rfl h
          · exact h
        have h3 := (S.line k x m).2 ⟨h1, .inr hk⟩
        rw [S.rest k hk, I.out k hk] at h3
        cases h3
      · intro h
        cases h
    · simp [hx]
  · show x ∈ (relFold t T.ks T).1.hs.filter _ ↔ setW (relFold t T.ks T).1.W t none x ≠ none
    rw [List.mem_filter, S.hs]
    unfold setW
    by_cases hx : x = t <;> simp [hx]
  · obtain ⟨h1, k, _, m, h3⟩ := S.who x hx
    exact ⟨h1, k, m, h3, S.got k x m hx h3⟩
  · by_cases hk : k ∈ T.ks
    · exact S.mine k hk
    · show modeL ((relFold t T.ks T).1.F k).1 t = 0
      rw [S.rest k hk, I.out k hk]
      rfl
end Go.Proofs.Ytilknhackmccpaa
