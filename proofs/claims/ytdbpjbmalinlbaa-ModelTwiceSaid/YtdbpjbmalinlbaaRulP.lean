/- What the laws of package rule are handed: an operation, cells. -/
import Derived.Test.YtdbpjbmalinlbaaRulO
import Derived.ProofKit
import Derived.OpenShut
import Derived.Deep.Slices
namespace Go.Proofs.Ytdbpjbmalinlbaa
open Go.ChangeShapes Go.WideShapes Go.ChangeAt Go.RowKit

section
variable {H : Type} {enc : TypeId × Value → H} {w : World} {base : Nat} {spare : Nat → Bool} {held : Bool}

theorem one_int {t : TypeId} {k : IntKind} {n : Nat} {cs : List Value} {x : Option (DataW H × List MemPlace)} (ht : Try.prog.underlying t = some (.int k)) (hc : Try.prog.cellsOf t = 1) {i : Nat}
    (h : DataW.trod enc Try.prog w base spare held n t ((cs.drop i).take (Try.prog.cellsOf t)) = x) (hx : x.isSome = true) : ∃ a, cs[i]? = some (.int k a) ∧ (Lit.int k a).wf = true := by
  obtain ⟨y, hy⟩ := Option.isSome_iff_exists.1 hx
  rw [hy] at h
  obtain ⟨a, h1, _, h2⟩ := DataW.trod_int ht h
  rw [hc] at h1
  refine ⟨a, ?_, h2⟩
  have := congrArg (fun l => l[0]?) h1
  simpa [List.getElem?_take, List.getElem?_drop] using this
theorem one_bool {t : TypeId} {n : Nat} {cs : List Value} {x : Option (DataW H × List MemPlace)} (ht : Try.prog.underlying t = some .bool) (hc : Try.prog.cellsOf t = 1) {i : Nat}
    (h : DataW.trod enc Try.prog w base spare held n t ((cs.drop i).take (Try.prog.cellsOf t)) = x) (hx : x.isSome = true) : ∃ a, cs[i]? = some (.bool a) := by
  obtain ⟨y, hy⟩ := Option.isSome_iff_exists.1 hx
  rw [hy] at h
  obtain ⟨a, h1, _⟩ := DataW.trod_bool ht h
  rw [hc] at h1
  refine ⟨a, ?_⟩
  have := congrArg (fun l => l[0]?) h1
  simpa [List.getElem?_take, List.getElem?_drop] using this
theorem getElem?_isSome {α : Type} {l : List α} {i n : Nat} (h : l.length = n) (hi : i < n) : (l[i]?).isSome = true := by simp [h, hi]

theorem open_op {fuel : Nat} {cs : List Value} {x : DataW H × List MemPlace} (h : DataW.trod enc Try.prog w base spare held fuel 32 cs = some x) :
    ∃ o, OpOk o ∧ cs = [.int .u8 o.kind, .int .u32 o.who, .int .u32 o.whom, .int .u32 o.what, .int .u32 o.id, .int .u64 o.n, .int .u64 o.price] := by
  obtain ⟨xs, n, _, _, hl, hx, hf⟩ := DataW.trod_struct Try.underlying32 h
  have hl7 : cs.length = 7 := hl.trans (by kernel_rfl)
  have hx7 : xs.length = 7 := hx
  have e5 : Try.prog.cellsOf 5 = 1 := by kernel_rfl
  have e22 : Try.prog.cellsOf 22 = 1 := by kernel_rfl
  have e30 : Try.prog.cellsOf 30 = 1 := by kernel_rfl
  obtain ⟨a0, g0, w0⟩ := one_int (i := 0) Try.underlying5 e5 (hf 0 _ rfl) (getElem?_isSome hx7 (by omega))
  obtain ⟨a1, g1, w1⟩ := one_int (i := 1) Try.underlying22 e22 (hf 1 _ rfl) (getElem?_isSome hx7 (by omega))
  obtain ⟨a2, g2, w2⟩ := one_int (i := 2) Try.underlying22 e22 (hf 2 _ rfl) (getElem?_isSome hx7 (by omega))
  obtain ⟨a3, g3, w3⟩ := one_int (i := 3) Try.underlying22 e22 (hf 3 _ rfl) (getElem?_isSome hx7 (by omega))
  obtain ⟨a4, g4, w4⟩ := one_int (i := 4) Try.underlying22 e22 (hf 4 _ rfl) (getElem?_isSome hx7 (by omega))
  obtain ⟨a5, g5, w5⟩ := one_int (i := 5) Try.underlying30 e30 (hf 5 _ rfl) (getElem?_isSome hx7 (by omega))
  obtain ⟨a6, g6, w6⟩ := one_int (i := 6) Try.underlying30 e30 (hf 6 _ rfl) (getElem?_isSome hx7 (by omega))
  refine ⟨⟨a0, a1, a2, a3, a4, a5, a6⟩, ⟨bounds_u8 w0, bounds_u32 w1, bounds_u32 w2, bounds_u32 w3, bounds_u32 w4, bounds_u64 w5, bounds_u64 w6⟩, List.ext_getElem? fun i => ?_⟩
  match i with
  | 0 => exact g0
  | 1 => exact g1
  | 2 => exact g2
  | 3 => exact g3
  | 4 => exact g4
  | 5 => exact g5
  | 6 => exact g6
  | i + 7 => rw [List.getElem?_eq_none (by omega), List.getElem?_eq_none (by simp)]
theorem open_key {fuel : Nat} {cs : List Value} {x : DataW H × List MemPlace} (h : DataW.trod enc Try.prog w base spare held fuel 24 cs = some x) :
    ∃ k : Ky, cs = keyRow k := by
  obtain ⟨xs, n, _, _, hl, hx, hf⟩ := DataW.trod_struct Try.underlying24 h
  have hl7 : cs.length = 3 := hl.trans (by kernel_rfl)
  have hx7 : xs.length = 3 := hx
  have e5 : Try.prog.cellsOf 5 = 1 := by kernel_rfl
  have e22 : Try.prog.cellsOf 22 = 1 := by kernel_rfl
  obtain ⟨a0, g0, w0⟩ := one_int (i := 0) Try.underlying5 e5 (hf 0 _ rfl) (getElem?_isSome hx7 (by omega))
  obtain ⟨a1, g1, w1⟩ := one_int (i := 1) Try.underlying22 e22 (hf 1 _ rfl) (getElem?_isSome hx7 (by omega))
  obtain ⟨a2, g2, w2⟩ := one_int (i := 2) Try.underlying22 e22 (hf 2 _ rfl) (getElem?_isSome hx7 (by omega))
  refine ⟨(a0, a1, a2), List.ext_getElem? fun i => ?_⟩
  match i with
  | 0 => exact g0
  | 1 => exact g1
  | 2 => exact g2
  | i + 3 => rw [List.getElem?_eq_none (by omega), List.getElem?_eq_none (by simp [keyRow])]
theorem open_value {fuel : Nat} {cs : List Value} {x : DataW H × List MemPlace} (h : DataW.trod enc Try.prog w base spare held fuel 47 cs = some x) :
    ∃ v : Vl, cs = [.int .u64 v.1, .int .u64 v.2] ∧ VlOk v := by
  obtain ⟨xs, n, _, _, hl, hx, hf⟩ := DataW.trod_struct Try.underlying47 h
  have hl7 : cs.length = 2 := hl.trans (by kernel_rfl)
  have hx7 : xs.length = 2 := hx
  have e30 : Try.prog.cellsOf 30 = 1 := by kernel_rfl
  obtain ⟨a0, g0, w0⟩ := one_int (i := 0) Try.underlying30 e30 (hf 0 _ rfl) (getElem?_isSome hx7 (by omega))
  obtain ⟨a1, g1, w1⟩ := one_int (i := 1) Try.underlying30 e30 (hf 1 _ rfl) (getElem?_isSome hx7 (by omega))
  refine ⟨(a0, a1), List.ext_getElem? fun i => ?_, bounds_u64 w0, bounds_u64 w1⟩
  match i with
  | 0 => exact g0
  | 1 => exact g1
  | i + 2 => rw [List.getElem?_eq_none (by omega), List.getElem?_eq_none (by simp)]
theorem open_cell {fuel : Nat} {cs : List Value} {x : DataW H × List MemPlace} (h : DataW.trod enc Try.prog w base spare held fuel 49 cs = some x) :
    ∃ c : Cel, cs = celRow c ∧ VlOk c.v := by
  obtain ⟨xs, n, _, _, hl, hx, hf⟩ := DataW.trod_struct Try.underlying49 h
  have hl6 : cs.length = 6 := hl.trans (by kernel_rfl)
  have hx3 : xs.length = 3 := hx
  have e24 : Try.prog.cellsOf 24 = 3 := by kernel_rfl
  have e47 : Try.prog.cellsOf 47 = 2 := by kernel_rfl
  have e4 : Try.prog.cellsOf 4 = 1 := by kernel_rfl
  have k0 := hf 0 _ rfl
  have k1 := hf 1 _ rfl
  obtain ⟨y0, hy0⟩ := Option.isSome_iff_exists.1 (getElem?_isSome hx3 (show 0 < 3 by omega))
  obtain ⟨y1, hy1⟩ := Option.isSome_iff_exists.1 (getElem?_isSome hx3 (show 1 < 3 by omega))
  rw [hy0] at k0
  rw [hy1] at k1
  obtain ⟨k, hk⟩ := open_key k0
  obtain ⟨v, hv, hok⟩ := open_value k1
  obtain ⟨b, g5⟩ := one_bool (i := 5) Try.underlying4 e4 (hf 2 _ rfl) (getElem?_isSome hx3 (by omega))
  have hk' : (cs.drop 0).take (Try.prog.cellsOf 24) = keyRow k := hk
  have hv' : (cs.drop 3).take (Try.prog.cellsOf 47) = [.int .u64 v.1, .int .u64 v.2] := hv
  rw [e24] at hk'
  rw [e47] at hv'
  refine ⟨⟨k, v, b⟩, List.ext_getElem? fun i => ?_, hok⟩
  match i with
  | 0 => have := congrArg (fun l => l[0]?) hk'; simpa [List.getElem?_take, List.getElem?_drop, keyRow, celRow] using this
  | 1 => have := congrArg (fun l => l[1]?) hk'; simpa [List.getElem?_take, List.getElem?_drop, keyRow, celRow] using this
  | 2 => have := congrArg (fun l => l[2]?) hk'; simpa [List.getElem?_take, List.getElem?_drop, keyRow, celRow] using this
  | 3 => have := congrArg (fun l => l[0]?) hv'; simpa [List.getElem?_take, List.getElem?_drop, celRow] using this
  | 4 => have := congrArg (fun l => l[1]?) hv'; simpa [List.getElem?_take, List.getElem?_drop, celRow] using this
  | 5 => exact g5
  | i + 6 => rw [List.getElem?_eq_none (by omega), List.getElem?_eq_none (by simp [celRow])]

instance : Inhabited Cel := ⟨⟨(0, 0, 0), (0, 0), false⟩⟩
/-- A slice of cells that came in. -/
def SeenIn (w : World) (sv : Value) (s : List Cel) : Prop := SeenAt w.heap.size w sv s ∧ ∀ c ∈ s, VlOk c.v
theorem open_seen {fuel : Nat} {v : Value} {x : DataW H × List MemPlace} (hv : ∃ a l c, v = .slice a l c) (h : DataW.trod enc Try.prog w 0 (fun _ => true) held fuel 33 v.cells.toList = some x) :
    ∃ s, SeenIn w v s := by
  obtain ⟨a, l, c, rfl⟩ := hv
  have e49 : Try.prog.cellsOf 49 = 6 := by kernel_rfl
  rcases Go.Deep.open_slice Try.underlying33 h with ⟨hcs, _⟩ | ⟨a', l', c', m, n, D, Pl, hcs, _, hl, hm, hmm, _, hel⟩
  · simp [Value.cells] at hcs
    obtain ⟨rfl, rfl, rfl⟩ := hcs
    exact ⟨[], ⟨none, 0, rfl, Nat.le_refl _, .inl rfl⟩, by simp⟩
  · simp [Value.cells] at hcs
    obtain ⟨rfl, rfl, rfl⟩ := hcs
    by_cases h0 : l = 0
    · subst h0
      exact ⟨[], ⟨some a', c, rfl, Nat.zero_le _, .inl rfl⟩, by simp⟩
    · have hm' : m = c := by simpa using hmm
      have key : ∀ i, i < l → ∃ cel : Cel, VlOk cel.v ∧ ∀ j v, (celRow cel)[j]? = some v → w.cell? ((a'.add (i * 6)).add j) = some v := by
        intro i hi
        obtain ⟨cs', h1, h2⟩ := hel i (by omega)
        rw [e49] at h1
        obtain ⟨_, hlen, hcell⟩ := World.cells?_some h1
        obtain ⟨cel, rfl, hok⟩ := open_cell h2
        refine ⟨cel, hok, fun j v hj => ?_⟩
        have hj6 : j < 6 := by
          have := (List.getElem?_eq_some_iff.1 hj).1
          simpa [celRow] using this
        rw [hcell j hj6]; exact hj
      obtain ⟨f, hf⟩ := Go.Deep.choose_lt (p := fun i (cel : Cel) => VlOk cel.v ∧ ∀ j v, (celRow cel)[j]? = some v → w.cell? ((a'.add (i * 6)).add j) = some v) key
      have hc0 := (hf 0 (by omega)).2 0 _ rfl
      have hlt := World.block_lt_of_cell? _ _ hc0
      have hs := World.cell?_spot hc0
      obtain ⟨b, off, spot⟩ := a'
      have hspot : spot = none := by simpa [Addr.add] using hs
      subst hspot
      have hbl : b < w.heap.size := by simpa [Addr.add] using hlt
      refine ⟨(List.range l).map f, ⟨some ⟨b, off, none⟩, c, by simp, by simpa using hl, .inr ⟨b, off, rfl, hbl, fun i cel hi j v hj => ?_⟩⟩, fun cel hcel => ?_⟩
      · have hil : i < l := by
          have := (List.getElem?_eq_some_iff.1 hi).1
          simpa using this
        have hce : f i = cel := by
          rw [List.getElem?_map, List.getElem?_range hil] at hi
          simpa using hi
        subst hce
        have := (hf i hil).2 j v hj
        rw [Addr.add_lit, Addr.add_lit] at this
        exact this
      · obtain ⟨i, hi, rfl⟩ := List.mem_map.1 hcel
        exact (hf i (by simpa using hi)).1
end
end Go.Proofs.Ytdbpjbmalinlbaa
