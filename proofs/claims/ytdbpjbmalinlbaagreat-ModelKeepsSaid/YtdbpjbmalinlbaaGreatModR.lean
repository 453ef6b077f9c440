/- What the laws of package model are handed. -/
import Derived.Test.YtdbpjbmalinlbaaGreatModO
namespace Go.Proofs.YtdbpjbmalinlbaaGreat
open Go.ChangeShapes Go.WideShapes Go.ChangeAt Go.RowKit

instance : Inhabited OpV := ⟨⟨0, 0, 0, 0, 0, 0, 0⟩⟩
section
variable {H : Type} {enc : TypeId × Value → H} {w : World} {base : Nat} {spare : Nat → Bool} {held : Bool}

theorem open_keyK {fuel : Nat} {cs : List Value} {x : DataW H × List MemPlace} (h : DataW.trod enc Tryz.prog w base spare held fuel 52 cs = some x) :
    ∃ k : Ky, cs = keyRow k ∧ KyOk k := by
  obtain ⟨xs, n, _, _, hl, hx, hf⟩ := DataW.trod_struct Tryz.underlying52 h
  have hl7 : cs.length = 3 := hl.trans (by kernel_rfl)
  have hx7 : xs.length = 3 := hx
  have e5 : Tryz.prog.cellsOf 5 = 1 := by kernel_rfl
  have e22 : Tryz.prog.cellsOf 23 = 1 := by kernel_rfl
  obtain ⟨a0, g0, w0⟩ := one_int (i := 0) Tryz.underlying5 e5 (hf 0 _ rfl) (getElem?_isSome hx7 (by omega))
  obtain ⟨a1, g1, w1⟩ := one_int (i := 1) Tryz.underlying23 e22 (hf 1 _ rfl) (getElem?_isSome hx7 (by omega))
  obtain ⟨a2, g2, w2⟩ := one_int (i := 2) Tryz.underlying23 e22 (hf 2 _ rfl) (getElem?_isSome hx7 (by omega))
  refine ⟨(a0, a1, a2), List.ext_getElem? fun i => ?_, bounds_u8 w0, bounds_u32 w1, bounds_u32 w2⟩
  match i with
  | 0 => exact g0
  | 1 => exact g1
  | 2 => exact g2
  | i + 3 => rw [List.getElem?_eq_none (by omega), List.getElem?_eq_none (by simp [keyRow])]
theorem open_cellK {fuel : Nat} {cs : List Value} {x : DataW H × List MemPlace} (h : DataW.trod enc Tryz.prog w base spare held fuel 57 cs = some x) :
    ∃ c : Cel, cs = celRow c ∧ KyOk c.k ∧ VlOk c.v := by
  obtain ⟨xs, n, _, _, hl, hx, hf⟩ := DataW.trod_struct Tryz.underlying57 h
  have hl6 : cs.length = 6 := hl.trans (by kernel_rfl)
  have hx3 : xs.length = 3 := hx
  have e24 : Tryz.prog.cellsOf 52 = 3 := by kernel_rfl
  have e47 : Tryz.prog.cellsOf 48 = 2 := by kernel_rfl
  have e4 : Tryz.prog.cellsOf 4 = 1 := by kernel_rfl
  have k0 := hf 0 _ rfl
  have k1 := hf 1 _ rfl
  obtain ⟨y0, hy0⟩ := Option.isSome_iff_exists.1 (getElem?_isSome hx3 (show 0 < 3 by omega))
  obtain ⟨y1, hy1⟩ := Option.isSome_iff_exists.1 (getElem?_isSome hx3 (show 1 < 3 by omega))
  rw [hy0] at k0
  rw [hy1] at k1
  obtain ⟨k, hk, hko⟩ := open_keyK k0
  obtain ⟨v, hv, hok⟩ := open_value k1
  obtain ⟨b, g5⟩ := one_bool (i := 5) Tryz.underlying4 e4 (hf 2 _ rfl) (getElem?_isSome hx3 (by omega))
  have hk' : (cs.drop 0).take (Tryz.prog.cellsOf 52) = keyRow k := hk
  have hv' : (cs.drop 3).take (Tryz.prog.cellsOf 48) = [.int .u64 v.1, .int .u64 v.2] := hv
  rw [e24] at hk'
  rw [e47] at hv'
  refine ⟨⟨k, v, b⟩, List.ext_getElem? fun i => ?_, hko, hok⟩
  match i with
  | 0 => have := congrArg (fun l => l[0]?) hk'; simpa [List.getElem?_take, List.getElem?_drop, keyRow, celRow] using this
  | 1 => have := congrArg (fun l => l[1]?) hk'; simpa [List.getElem?_take, List.getElem?_drop, keyRow, celRow] using this
  | 2 => have := congrArg (fun l => l[2]?) hk'; simpa [List.getElem?_take, List.getElem?_drop, keyRow, celRow] using this
  | 3 => have := congrArg (fun l => l[0]?) hv'; simpa [List.getElem?_take, List.getElem?_drop, celRow] using this
  | 4 => have := congrArg (fun l => l[1]?) hv'; simpa [List.getElem?_take, List.getElem?_drop, celRow] using this
  | 5 => exact g5
  | i + 6 => rw [List.getElem?_eq_none (by omega), List.getElem?_eq_none (by simp [celRow])]

theorem open_celsin {fuel : Nat} {v : Value} {x : DataW H × List MemPlace} (hv : ∃ a l c, v = .slice a l c) (h : DataW.trod enc Tryz.prog w 0 (fun _ => true) held fuel 30 v.cells.toList = some x) :
    ∃ s, CelsIn w v s := by
  obtain ⟨a, l, c, rfl⟩ := hv
  have e49 : Tryz.prog.cellsOf 57 = 6 := by kernel_rfl
  rcases Go.Deep.open_slice Tryz.underlying30 h with ⟨hcs, _⟩ | ⟨a', l', c', m, n, D, Pl, hcs, _, hl, hm, hmm, _, hel⟩
  · simp [Value.cells] at hcs
    obtain ⟨rfl, rfl, rfl⟩ := hcs
    exact ⟨[], ⟨none, 0, rfl, Nat.le_refl _, .inl rfl⟩, by simp⟩
  · simp [Value.cells] at hcs
    obtain ⟨rfl, rfl, rfl⟩ := hcs
    by_cases h0 : l = 0
    · subst h0
      exact ⟨[], ⟨some a', c, rfl, Nat.zero_le _, .inl rfl⟩, by simp⟩
    · have hm' : m = c := by simpa using hmm
      have key : ∀ i, i < l → ∃ cel : Cel, (KyOk cel.k ∧ VlOk cel.v) ∧ ∀ j v, (celRow cel)[j]? = some v → w.cell? ((a'.add (i * 6)).add j) = some v := by
        intro i hi
        obtain ⟨cs', h1, h2⟩ := hel i (by omega)
        rw [e49] at h1
        obtain ⟨_, hlen, hcell⟩ := World.cells?_some h1
        obtain ⟨cel, rfl, hok⟩ := open_cellK h2
        refine ⟨cel, hok, fun j v hj => ?_⟩
        have hj6 : j < 6 := by
          have := (List.getElem?_eq_some_iff.1 hj).1
          simpa [celRow] using this
        rw [hcell j hj6]; exact hj
      obtain ⟨f, hf⟩ := Go.Deep.choose_lt (p := fun i (cel : Cel) => (KyOk cel.k ∧ VlOk cel.v) ∧ ∀ j v, (celRow cel)[j]? = some v → w.cell? ((a'.add (i * 6)).add j) = some v) key
      have hc0 := (hf 0 (by omega)).2 0 _ rfl
      have hlt := World.block_lt_of_cell? _ _ hc0
      have hs := World.cell?_spot hc0
      obtain ⟨b, off, spot⟩ := a'
      have hspot : spot = none := by simpa [Addr.add] using hs
      subst hspot
      have hbl : b < w.heap.size := by simpa [Addr.add] using hlt
      refine ⟨(List.range l).map f, ⟨some ⟨b, off, none⟩, c, by simp, by simpa using hl, .inr ⟨b, off, rfl, hbl, fun i cel hi j v hj => ?_⟩⟩, fun cel hcel => ?_⟩
      · have hil : i < l := by
          have := (List.getElem?_eq_some_iff.1 hi).1
          simpa using this
        have hce : f i = cel := by
          rw [List.getElem?_map, List.getElem?_range hil] at hi
          simpa using hi
        subst hce
        have := (hf i hil).2 j v hj
        rw [Addr.add_lit, Addr.add_lit] at this
        exact this
      · obtain ⟨i, hi, rfl⟩ := List.mem_map.1 hcel
        exact (hf i (by simpa using hi)).1
theorem open_ops {fuel : Nat} {v : Value} {x : DataW H × List MemPlace} (hv : ∃ a l c, v = .slice a l c) (h : DataW.trod enc Tryz.prog w 0 (fun _ => true) held fuel 22 v.cells.toList = some x) :
    ∃ s, OpsIn w v s := by
  obtain ⟨a, l, c, rfl⟩ := hv
  have e7 : Tryz.prog.cellsOf 29 = 7 := by kernel_rfl
  rcases Go.Deep.open_slice Tryz.underlying22 h with ⟨hcs, _⟩ | ⟨a', l', c', m, n, D, Pl, hcs, _, hl, hm, hmm, _, hel⟩
  · simp [Value.cells] at hcs
    obtain ⟨rfl, rfl, rfl⟩ := hcs
    exact ⟨[], ⟨none, 0, rfl, Nat.le_refl _, .inl rfl⟩, by simp⟩
  · simp [Value.cells] at hcs
    obtain ⟨rfl, rfl, rfl⟩ := hcs
    by_cases h0 : l = 0
    · subst h0
      exact ⟨[], ⟨some a', c, rfl, Nat.zero_le _, .inl rfl⟩, by simp⟩
    · have hm' : m = c := by simpa using hmm
      have key : ∀ i, i < l → ∃ o : OpV, OpOk o ∧ ∀ j v, ([.int .u8 o.kind, .int .u32 o.who, .int .u32 o.whom, .int .u32 o.what, .int .u32 o.id, .int .u64 o.n, .int .u64 o.price] : List Value)[j]? = some v → w.cell? ((a'.add (i * 7)).add j) = some v := by
        intro i hi
        obtain ⟨cs', h1, h2⟩ := hel i (by omega)
        rw [e7] at h1
        obtain ⟨_, hlen, hcell⟩ := World.cells?_some h1
        obtain ⟨o, hok, rfl⟩ := open_op h2
        refine ⟨o, hok, fun j v hj => ?_⟩
        have hj7 : j < 7 := by
          have := (List.getElem?_eq_some_iff.1 hj).1
          simpa using this
        rw [hcell j hj7]; exact hj
      obtain ⟨f, hf⟩ := Go.Deep.choose_lt (p := fun i (o : OpV) => OpOk o ∧ ∀ j v, ([.int .u8 o.kind, .int .u32 o.who, .int .u32 o.whom, .int .u32 o.what, .int .u32 o.id, .int .u64 o.n, .int .u64 o.price] : List Value)[j]? = some v → w.cell? ((a'.add (i * 7)).add j) = some v) key
      have hc0 := (hf 0 (by omega)).2 0 _ rfl
      have hlt := World.block_lt_of_cell? _ _ hc0
      have hs := World.cell?_spot hc0
      obtain ⟨b, off, spot⟩ := a'
      have hspot : spot = none := by simpa [Addr.add] using hs
      subst hspot
      have hbl : b < w.heap.size := by simpa [Addr.add] using hlt
      refine ⟨(List.range l).map f, ⟨some ⟨b, off, none⟩, c, by simp, by simpa using hl, .inr ⟨b, off, rfl, hbl, fun i o hi => ?_⟩⟩, fun o ho => ?_⟩
      · have hil : i < l := by
          have := (List.getElem?_eq_some_iff.1 hi).1
          simpa using this
        have hce : f i = o := by
          rw [List.getElem?_map, List.getElem?_range hil] at hi
          simpa using hi
        subst hce
        have e : ∀ j v, ([.int .u8 (f i).kind, .int .u32 (f i).who, .int .u32 (f i).whom, .int .u32 (f i).what, .int .u32 (f i).id, .int .u64 (f i).n, .int .u64 (f i).price] : List Value)[j]? = some v → w.cell? ⟨b, off + i * 7 + j, none⟩ = some v := fun j v hj => by
          have := (hf i hil).2 j v hj
          rw [Addr.add_lit, Addr.add_lit] at this
          exact this
        exact ⟨e 0 _ rfl, e 1 _ rfl, e 2 _ rfl, e 3 _ rfl, e 4 _ rfl, e 5 _ rfl, e 6 _ rfl⟩
      · obtain ⟨i, hi, rfl⟩ := List.mem_map.1 ho
        exact (hf i (by simpa using hi)).1
end
end Go.Proofs.YtdbpjbmalinlbaaGreat
