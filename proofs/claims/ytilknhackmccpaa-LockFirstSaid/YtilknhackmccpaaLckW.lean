/- Package lock: what the laws are handed: a key, an operation, operations. -/
import Derived.Test.YtilknhackmccpaaLckV
import Derived.Deep.Slices
namespace Go.Proofs.Ytilknhackmccpaa
open Go.ChangeShapes Go.WideShapes Go.ChangeAt Go.RowKit

section
variable {H : Type} {enc : TypeId × Value → H} {w : World} {base : Nat} {spare : Nat → Bool} {held : Bool}
theorem u8_of {x : Int} (h : (Lit.int .u8 x).wf = true) : 0 ≤ x ∧ x ≤ 255 := by
  simp only [Lit.wf, Bool.and_eq_true, decide_eq_true_eq] at h
  exact h
theorem open_key {fuel : Nat} {cs : List Value} {x : DataW H × List MemPlace} (h : DataW.trod enc Try.prog w base spare held fuel 38 cs = some x) :
    ∃ k : Ky, KyOk k ∧ cs = kRow k := by
  obtain ⟨xs, n, _, _, hl, hx, hf⟩ := DataW.trod_struct Try.underlying38 h
  have hl7 : cs.length = 3 := hl.trans (by kernel_rfl)
  have hx7 : xs.length = 3 := hx
  have e5 : Try.prog.cellsOf 5 = 1 := by kernel_rfl
  have e22 : Try.prog.cellsOf 23 = 1 := by kernel_rfl
  obtain ⟨a0, g0, w0⟩ := one_int (i := 0) Try.underlying5 e5 (hf 0 _ rfl) (getElem?_isSome hx7 (by omega))
  obtain ⟨a1, g1, w1⟩ := one_int (i := 1) Try.underlying23 e22 (hf 1 _ rfl) (getElem?_isSome hx7 (by omega))
  obtain ⟨a2, g2, w2⟩ := one_int (i := 2) Try.underlying23 e22 (hf 2 _ rfl) (getElem?_isSome hx7 (by omega))
  refine ⟨(a0, a1, a2), ⟨u8_of w0, U.of w1, U.of w2⟩, List.ext_getElem? fun i => ?_⟩
  match i with
  | 0 => exact g0
  | 1 => exact g1
  | 2 => exact g2
  | i + 3 => rw [List.getElem?_eq_none (by omega), List.getElem?_eq_none (by simp [kRow])]
/-- An operation: kind, who, of which key, in which mode. -/
structure Lop where
  kind : Int
  txn : Int
  k : Ky
  mode : Int
structure LopOk (o : Lop) : Prop where
  kind : 0 ≤ o.kind ∧ o.kind ≤ 255
  txn : U o.txn
  k : KyOk o.k
def lRow (o : Lop) : List Value := [.int .u8 o.kind, .int .u32 o.txn, .int .u8 o.k.1, .int .u32 o.k.2.1, .int .u32 o.k.2.2, .int .u8 o.mode]
theorem open_lop {fuel : Nat} {cs : List Value} {x : DataW H × List MemPlace} (h : DataW.trod enc Try.prog w base spare held fuel 47 cs = some x) :
    ∃ o : Lop, LopOk o ∧ cs = lRow o := by
  obtain ⟨xs, n, _, _, hl, hx, hf⟩ := DataW.trod_struct Try.underlying47 h
  have hl6 : cs.length = 6 := hl.trans (by kernel_rfl)
  have hx4 : xs.length = 4 := hx
  have e5 : Try.prog.cellsOf 5 = 1 := by kernel_rfl
  have e22 : Try.prog.cellsOf 23 = 1 := by kernel_rfl
  have e24 : Try.prog.cellsOf 38 = 3 := by kernel_rfl
  obtain ⟨a0, g0, w0⟩ := one_int (i := 0) Try.underlying5 e5 (hf 0 _ rfl) (getElem?_isSome hx4 (by omega))
  obtain ⟨a1, g1, w1⟩ := one_int (i := 1) Try.underlying23 e22 (hf 1 _ rfl) (getElem?_isSome hx4 (by omega))
  obtain ⟨a3, g3, w3⟩ := one_int (i := 5) Try.underlying5 e5 (hf 3 _ rfl) (getElem?_isSome hx4 (by omega))
  have k0 := hf 2 _ rfl
  obtain ⟨y0, hy0⟩ := Option.isSome_iff_exists.1 (getElem?_isSome hx4 (show 2 < 4 by omega))
  rw [hy0] at k0
  obtain ⟨k, hok, hk⟩ := open_key k0
  have hk' : (cs.drop 2).take (Try.prog.cellsOf 38) = kRow k := hk
  rw [e24] at hk'
  refine ⟨⟨a0, a1, k, a3⟩, ⟨u8_of w0, U.of w1, hok⟩, List.ext_getElem? fun i => ?_⟩
  match i with
  | 0 => exact g0
  | 1 => exact g1
  | 2 => have := congrArg (fun l => l[0]?) hk'; simpa [List.getElem?_take, List.getElem?_drop, kRow, lRow] using this
  | 3 => have := congrArg (fun l => l[1]?) hk'; simpa [List.getElem?_take, List.getElem?_drop, kRow, lRow] using this
  | 4 => have := congrArg (fun l => l[2]?) hk'; simpa [List.getElem?_take, List.getElem?_drop, kRow, lRow] using this
  | 5 => exact g3
  | i + 6 => rw [List.getElem?_eq_none (by omega), List.getElem?_eq_none (by simp [lRow])]
instance : Inhabited Lop := ⟨⟨0, 0, (0, 0, 0), 0⟩⟩
/-- A slice of operations that came in. -/
def LopsIn (w : World) (v : Value) (l : List Lop) : Prop := ∃ a cap, v = .slice a l.length cap ∧ (∀ o ∈ l, LopOk o) ∧ (l ≠ [] → ∃ eb off, a = some ⟨eb, off, none⟩ ∧ eb < w.heap.size ∧ ∀ i o, l[i]? = some o → ∀ j v, (lRow o)[j]? = some v → w.cell? ⟨eb, off + i * 6 + j, none⟩ = some v)
theorem open_lops {fuel : Nat} {v : Value} {x : DataW H × List MemPlace} (hv : ∃ a l c, v = .slice a l c) (h : DataW.trod enc Try.prog w 0 (fun _ => true) held fuel 45 v.cells.toList = some x) :
    ∃ s, LopsIn w v s := by
  obtain ⟨a, l, c, rfl⟩ := hv
  have e49 : Try.prog.cellsOf 47 = 6 := by kernel_rfl
  rcases Go.Deep.open_slice Try.underlying45 h with ⟨hcs, _⟩ | ⟨a', l', c', m, n, D, Pl, hcs, _, hl, hm, hmm, _, hel⟩
  · simp [Value.cells] at hcs
    obtain ⟨rfl, rfl, rfl⟩ := hcs
    exact ⟨[], none, 0, rfl, by simp, fun h => absurd rfl h⟩
  · simp [Value.cells] at hcs
    obtain ⟨rfl, rfl, rfl⟩ := hcs
    by_cases h0 : l = 0
    · subst h0
      exact ⟨[], some a', c, rfl, by simp, fun h => absurd rfl h⟩
    · have hm' : m = c := by simpa using hmm
      have key : ∀ i, i < l → ∃ o : Lop, LopOk o ∧ ∀ j v, (lRow o)[j]? = some v → w.cell? ((a'.add (i * 6)).add j) = some v := by
        intro i hi
        obtain ⟨cs', h1, h2⟩ := hel i (by omega)
        rw [e49] at h1
        obtain ⟨_, hlen, hcell⟩ := World.cells?_some h1
        obtain ⟨o, hok, rfl⟩ := open_lop h2
        refine ⟨o, hok, fun j v hj => ?_⟩
        rw [hcell j (by have := (List.getElem?_eq_some_iff.1 hj).1; simpa [lRow] using this)]
        exact hj
      obtain ⟨f, hf⟩ := Go.Deep.choose_lt (p := fun i (o : Lop) => LopOk o ∧ ∀ j v, (lRow o)[j]? = some v → w.cell? ((a'.add (i * 6)).add j) = some v) key
      have hc0 := (hf 0 (by omega)).2 0 _ rfl
      have hlt := World.block_lt_of_cell? _ _ hc0
      have hs := World.cell?_spot hc0
      obtain ⟨b, off, spot⟩ := a'
      have hspot : spot = none := by simpa [Addr.add] using hs
      subst hspot
      obtain ⟨L, hL, hLf⟩ := list_of f l
      refine ⟨L, some ⟨b, off, none⟩, c, by rw [hL], fun o ho => ?_, fun _ => ⟨b, off, rfl, by simpa [Addr.add] using hlt, fun i o hi j v hj => ?_⟩⟩
      · obtain ⟨i, hi, e⟩ := List.mem_iff_getElem.1 ho
        rw [← e, hLf i hi]
        exact (hf i (by omega)).1
      · obtain ⟨hil, e⟩ := List.getElem?_eq_some_iff.1 hi
        rw [hLf i hil] at e
        have h3 := (hf i (by omega)).2 j v (by rw [e]; exact hj)
        rw [Addr.add_lit, Addr.add_lit] at h3
        exact h3
end
end Go.Proofs.Ytilknhackmccpaa
