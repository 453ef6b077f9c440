/- What the laws on rings are handed: edges, numbers; the fixed example. -/
import Derived.Test.YtilknhackmccpaaKntI
import Derived.ProofKit
import Derived.OpenShut
import Derived.Deep.Slices
set_option linter.unusedVariables false
set_option linter.unusedSimpArgs false
namespace Go.Proofs.Ytilknhackmccpaa
open Go.ChangeShapes Go.WideShapes Go.ChangeAt Go.RowKit

section
variable {H : Type} {enc : TypeId × Value → H} {w : World} {base : Nat} {spare : Nat → Bool} {held : Bool}
theorem one_int {t : TypeId} {k : IntKind} {n : Nat} {cs : List Value} {x : Option (DataW H × List MemPlace)} (ht : Try.prog.underlying t = some (.int k)) (hc : Try.prog.cellsOf t = 1) {i : Nat}
    (h : DataW.trod enc Try.prog w base spare held n t ((cs.drop i).take (Try.prog.cellsOf t)) = x) (hx : x.isSome = true) : ∃ a, cs[i]? = some (.int k a) ∧ (Lit.int k a).wf = true := by
  obtain ⟨y, hy⟩ := Option.isSome_iff_exists.1 hx
  rw [hy] at h
  obtain ⟨a, h1, _, h2⟩ := DataW.trod_int ht h
  rw [hc] at h1
  refine ⟨a, ?_, h2⟩
  have := congrArg (fun l => l[0]?) h1
  simpa [List.getElem?_take, List.getElem?_drop] using this
theorem getElem?_isSome {α : Type} {l : List α} {i n : Nat} (h : l.length = n) (hi : i < n) : (l[i]?).isSome = true := by simp [h, hi]
theorem open_edge {fuel : Nat} {cs : List Value} {x : DataW H × List MemPlace} (h : DataW.trod enc Try.prog w base spare held fuel 35 cs = some x) :
    ∃ p : Int × Int, (U p.1 ∧ U p.2) ∧ cs = [.int .u32 p.1, .int .u32 p.2] := by
  obtain ⟨xs, n, _, _, hl, hx, hf⟩ := DataW.trod_struct Try.underlying35 h
  have hl7 : cs.length = 2 := hl.trans (by kernel_rfl)
  have hx7 : xs.length = 2 := hx
  have e22 : Try.prog.cellsOf 23 = 1 := by kernel_rfl
  obtain ⟨a0, g0, w0⟩ := one_int (i := 0) Try.underlying23 e22 (hf 0 _ rfl) (getElem?_isSome hx7 (by omega))
  obtain ⟨a1, g1, w1⟩ := one_int (i := 1) Try.underlying23 e22 (hf 1 _ rfl) (getElem?_isSome hx7 (by omega))
  refine ⟨(a0, a1), ⟨U.of w0, U.of w1⟩, List.ext_getElem? fun i => ?_⟩
  match i with
  | 0 => exact g0
  | 1 => exact g1
  | i + 2 => rw [List.getElem?_eq_none (by omega), List.getElem?_eq_none (by simp)]

/-- A slice of edges. -/
def EdgesIn (w : World) (v : Value) (l : List (Int × Int)) : Prop := ∃ a cap, v = .slice a l.length cap ∧ Edg w a l ∧ UE l
/-- A slice of numbers. -/
def NumsIn (w : World) (v : Value) (l : List Int) : Prop := ∃ a cap, v = .slice a l.length cap ∧ Nums w a l ∧ ∀ z ∈ l, U z
theorem list_of {α : Type} (f : Nat → α) (n : Nat) : ∃ l : List α, l.length = n ∧ ∀ i (h : i < l.length), l[i] = f i :=
  ⟨(List.range n).map f, by simp, fun i h => by simp⟩
theorem open_edges {fuel : Nat} {v : Value} {x : DataW H × List MemPlace} (hv : ∃ a l c, v = .slice a l c) (h : DataW.trod enc Try.prog w 0 (fun _ => true) held fuel 22 v.cells.toList = some x) :
    ∃ l, EdgesIn w v l := by
  obtain ⟨a, l, c, rfl⟩ := hv
  have e49 : Try.prog.cellsOf 35 = 2 := by kernel_rfl
  rcases Go.Deep.open_slice Try.underlying22 h with ⟨hcs, _⟩ | ⟨a', l', c', m, n, D, Pl, hcs, _, hl, hm, hmm, _, hel⟩
  · simp [Value.cells] at hcs
    obtain ⟨rfl, rfl, rfl⟩ := hcs
    exact ⟨[], none, 0, rfl, fun h => absurd rfl h, by simp [UE]⟩
  · simp [Value.cells] at hcs
    obtain ⟨rfl, rfl, rfl⟩ := hcs
    by_cases h0 : l = 0
    · subst h0
      exact ⟨[], some a', c, rfl, fun h => absurd rfl h, by simp [UE]⟩
    · have hm' : m = c := by simpa using hmm
      have key : ∀ i, i < l → ∃ p : Int × Int, (U p.1 ∧ U p.2) ∧ w.cell? ((a'.add (i * 2)).add 0) = some (.int .u32 p.1) ∧ w.cell? ((a'.add (i * 2)).add 1) = some (.int .u32 p.2) := by
        intro i hi
        obtain ⟨cs', h1, h2⟩ := hel i (by omega)
        rw [e49] at h1
        obtain ⟨_, hlen, hcell⟩ := World.cells?_some h1
        obtain ⟨p, hok, rfl⟩ := open_edge h2
        exact ⟨p, hok, by rw [hcell 0 (by omega)]; rfl, by rw [hcell 1 (by omega)]; rfl⟩
      obtain ⟨f, hf⟩ := Go.Deep.choose_lt (p := fun i (p : Int × Int) => (U p.1 ∧ U p.2) ∧ w.cell? ((a'.add (i * 2)).add 0) = some (.int .u32 p.1) ∧ w.cell? ((a'.add (i * 2)).add 1) = some (.int .u32 p.2)) key
      have hc0 := (hf 0 (by omega)).2.1
      have hlt := World.block_lt_of_cell? _ _ hc0
      have hs := World.cell?_spot hc0
      obtain ⟨b, off, spot⟩ := a'
      have hspot : spot = none := by simpa [Addr.add] using hs
      subst hspot
      obtain ⟨L, hL, hLf⟩ := list_of f l
      refine ⟨L, some ⟨b, off, none⟩, c, by rw [hL], fun _ => ⟨b, off, rfl, by simpa [Addr.add] using hlt, fun i hi => ?_⟩, fun p hp => ?_⟩
      · have h1 := hf i (by omega)
        have h2 : L.getD i (0, 0) = f i := by rw [List.getD_eq_getElem?_getD, List.getElem?_eq_getElem hi]; exact hLf i hi
        rw [h2]
        have h3 := h1.2
        rw [Addr.add_lit, Addr.add_lit, Addr.add_lit] at h3
        exact h3
      · obtain ⟨i, hi, e⟩ := List.mem_iff_getElem.1 hp
        rw [← e, hLf i hi]
        exact (hf i (by omega)).1
theorem open_nums {fuel : Nat} {v : Value} {x : DataW H × List MemPlace} (hv : ∃ a l c, v = .slice a l c) (h : DataW.trod enc Try.prog w 0 (fun _ => true) held fuel 24 v.cells.toList = some x) :
    ∃ l, NumsIn w v l := by
  obtain ⟨a, l, c, rfl⟩ := hv
  have e49 : Try.prog.cellsOf 23 = 1 := by kernel_rfl
  rcases Go.Deep.open_slice Try.underlying24 h with ⟨hcs, _⟩ | ⟨a', l', c', m, n, D, Pl, hcs, _, hl, hm, hmm, _, hel⟩
  · simp [Value.cells] at hcs
    obtain ⟨rfl, rfl, rfl⟩ := hcs
    exact ⟨[], none, 0, rfl, fun h => absurd rfl h, by simp⟩
  · simp [Value.cells] at hcs
    obtain ⟨rfl, rfl, rfl⟩ := hcs
    by_cases h0 : l = 0
    · subst h0
      exact ⟨[], some a', c, rfl, fun h => absurd rfl h, by simp⟩
    · have hm' : m = c := by simpa using hmm
      have key : ∀ i, i < l → ∃ p : Int, U p ∧ w.cell? ((a'.add (i * 1)).add 0) = some (.int .u32 p) := by
        intro i hi
        obtain ⟨cs', h1, h2⟩ := hel i (by omega)
        rw [e49] at h1
        obtain ⟨_, hlen, hcell⟩ := World.cells?_some h1
        obtain ⟨p, g1, _, g2⟩ := DataW.trod_int Try.underlying23 h2
        refine ⟨p, U.of g2, ?_⟩
        rw [hcell 0 (by omega), g1]
        rfl
      obtain ⟨f, hf⟩ := Go.Deep.choose_lt (p := fun i (p : Int) => U p ∧ w.cell? ((a'.add (i * 1)).add 0) = some (.int .u32 p)) key
      have hc0 := (hf 0 (by omega)).2
      have hlt := World.block_lt_of_cell? _ _ hc0
      have hs := World.cell?_spot hc0
      obtain ⟨b, off, spot⟩ := a'
      have hspot : spot = none := by simpa [Addr.add] using hs
      subst hspot
      obtain ⟨L, hL, hLf⟩ := list_of f l
      refine ⟨L, some ⟨b, off, none⟩, c, by rw [hL], fun _ => ⟨b, off, rfl, by simpa [Addr.add] using hlt, fun i hi => ?_⟩, fun p hp => ?_⟩
      · have h1 := hf i (by omega)
        have h2 : L.getD i 0 = f i := by rw [List.getD_eq_getElem?_getD, List.getElem?_eq_getElem hi]; exact hLf i hi
        rw [h2]
        have h3 := h1.2
        rw [Addr.add_lit, Addr.add_lit, Nat.mul_one] at h3
        exact h3
      · obtain ⟨i, hi, e⟩ := List.mem_iff_getElem.1 hp
        rw [← e, hLf i hi]
        exact (hf i (by omega)).1
end
end Go.Proofs.Ytilknhackmccpaa
