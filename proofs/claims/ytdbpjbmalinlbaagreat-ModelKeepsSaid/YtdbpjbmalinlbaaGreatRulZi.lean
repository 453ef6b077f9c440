/- The chapter's example in the statement; The walk of RuleKeys; What the laws of package rule are handed: an operation, cells; The walk of RuleErrs; The laws' own functions: SamePuts; what look holds on to; The law's own look. -/
import Derived.Test.YtdbpjbmalinlbaaGreatRulM
import Derived.Deep.RegionHeld2
import Derived.ProofKit
import Derived.OpenShut
import Derived.Deep.Slices
import Derived.Deep.DeepCutAuto
import Derived.Test.YtdbpjbmalinlbaaGreatRulZg
namespace Go.Proofs.YtdbpjbmalinlbaaGreat
open Go.RowKit

theorem keepA {w : World} {a : Addr} {v : Value} {ob : Obj} (h : w.cell? a = some v) : (w.alloc ob).cell? a = some v := by
  rw [World.cell?_of_block (w := w) (Below.heap_alloc _ _ _ (World.block_lt_of_cell? _ _ h))]; exact h
theorem keepD {w : World} {a : Addr} {v : Value} (h : w.cell? a = some v) : w.drew.cell? a = some v := h

/-- No cell is to be seen. -/
theorem seen_nil (w : World) : SeenAt w.heap.size w (.slice none 0 0) [] := ⟨none, 0, rfl, Nat.le_refl _, .inl rfl⟩
/-- One cell, in a new block. -/
theorem seen_one (w : World) (c : Cel) (t : TypeId) : SeenAt (w.heap.size + 1) (w.alloc (.cells #[.int .u8 c.k.1, .int .u32 c.k.2.1, .int .u32 c.k.2.2, .int .u64 c.v.1, .int .u64 c.v.2, .bool c.is] t)) (.slice (some ⟨w.heap.size, 0, none⟩) 1 1) [c] := by
  refine ⟨_, 1, rfl, Nat.le_refl _, .inr ⟨w.heap.size, 0, rfl, by omega, ?_⟩⟩
  intro i d hd j v hv
  match i, hd with
  | 0, hd =>
    simp at hd; subst hd
    rw [cell_of_heap (heap_alloc_new w _)]
    simp only [celRow] at hv
    simpa using hv
  | i + 1, hd => simp at hd

theorem ex_next_calls (w : World) : Calls Tryz.prog 16 #[.agg #[.int .u8 2, .int .u32 1, .int .u32 0, .int .u32 0, .int .u32 0, .int .u64 3, .int .u64 0], .slice none 0 0] w fun e w' => e = .returned (.tuple #[.agg #[.int .u8 1, .int .u32 1, .int .u32 0], .bool true]) ∧ Below w.heap.size w w' :=
  (next_any (o := exO) (seen_nil w) (by simp) exO_ok (by simp) ex_runs).mono fun e w' ⟨h1, h2⟩ => ⟨h2, h1⟩
theorem ex_do_calls (w : World) (N : Nat) (hN : w.heap.size = N) : Calls Tryz.prog 17 #[.agg #[.int .u8 2, .int .u32 1, .int .u32 0, .int .u32 0, .int .u32 0, .int .u64 3, .int .u64 0], .slice (some ⟨N, 0, none⟩) 1 1] (w.alloc (.cells #[.int .u8 0, .int .u32 0, .int .u32 0, .int .u64 5, .int .u64 0, .bool true] 57))
    fun e w' => ∃ g cap, e = .returned (.tuple #[.slice (some ⟨g, 0, none⟩) 1 cap, .agg #[.int .u16 0, .int .u64 8, .int .u64 0, .int .u64 0]]) ∧ Below w.heap.size w w' ∧ w'.cell? ⟨g, 0, none⟩ = some (.int .u8 1) ∧ w'.cell? ⟨g, 1, none⟩ = some (.int .u32 1) ∧ w'.cell? ⟨g, 2, none⟩ = some (.int .u32 0) ∧ w'.cell? ⟨g, 3, none⟩ = some (.int .u64 8) ∧ w'.cell? ⟨g, 4, none⟩ = some (.int .u64 0) ∧ w'.cell? ⟨g, 5, none⟩ = some (.bool false) := by
  subst hN
  have hs := seen_one w ⟨(0, 0, 0), (5, 0), true⟩ 57
  rw [← World.size_alloc w (.cells #[.int .u8 0, .int .u32 0, .int .u32 0, .int .u64 5, .int .u64 0, .bool true] 57)] at hs
  refine (do_any (o := exO) hs (by simp) exO_ok (by intro c hc; simp at hc; subst hc; unfold VlOk; decide) ex_runs).mono ?_
  rintro e w' ⟨B, v, rfl, hown⟩
  rw [ex_do] at hown ⊢
  rcases hown.2 with ⟨_, h2⟩ | ⟨g, cap, cur, rfl, h2, h3, h4, h5, h6, h7⟩
  · simp [doR] at h2
  · refine ⟨g, cap, rfl, ((Below.refl _ _).alloc (Nat.le_refl _) _).trans (B.mono (by simp)), ?_⟩
    simp only [doR, List.length_cons, List.length_nil] at h7 h6 h4
    have hg : ∀ i v, (ptCells [⟨(1, 1, 0), (8, 0), false⟩])[i]? = some v → w'.cell? ⟨g, i, none⟩ = some v := by
      intro i v hv
      rw [cell_of_heap h3, ← Array.getElem?_toList]
      rw [← h7, List.getElem?_take] at hv
      split at hv
      · exact hv
      · cases hv
    exact ⟨hg 0 _ rfl, hg 1 _ rfl, hg 2 _ rfl, hg 3 _ rfl, hg 4 _ rfl, hg 5 _ rfl⟩

end Go.Proofs.YtdbpjbmalinlbaaGreat

namespace Go.Proofs.YtdbpjbmalinlbaaGreat
open Go.RowKit

/-- A contract from an elder world on. -/
theorem from_old {f : FuncId} {args : Array Value} {v : Value} {w0 w : World} (h : Calls Tryz.prog f args w fun e w' => e = .returned v ∧ Below w.heap.size w w') (B : Below w0.heap.size w0 w) :
    Calls Tryz.prog f args w fun e w' => e = .returned v ∧ Below w0.heap.size w0 w' := h.mono fun _ _ ⟨h1, h2⟩ => ⟨h1, below_trans B h2⟩
theorem as_below {f : FuncId} {args : Array Value} {v : Value} {w : World} {o : Obj} (h : Calls Tryz.prog f args w fun e w' => e = .returned v ∧ w.alloc o = w') :
    Calls Tryz.prog f args w fun e w' => e = .returned v ∧ Below w.heap.size w w' := h.mono fun _ _ ⟨h1, h2⟩ => ⟨h1, by rw [← h2]; exact below_alloc _ _⟩

end Go.Proofs.YtdbpjbmalinlbaaGreat

namespace Go.Proofs.YtdbpjbmalinlbaaGreat
open Go.ChangeShapes Go.WideShapes Go.ChangeAt Go.RowKit

section
variable {H : Type} {enc : TypeId × Value → H} {w : World} {base : Nat} {spare : Nat → Bool} {held : Bool}

theorem one_int {t : TypeId} {k : IntKind} {n : Nat} {cs : List Value} {x : Option (DataW H × List MemPlace)} (ht : Tryz.prog.underlying t = some (.int k)) (hc : Tryz.prog.cellsOf t = 1) {i : Nat}
    (h : DataW.trod enc Tryz.prog w base spare held n t ((cs.drop i).take (Tryz.prog.cellsOf t)) = x) (hx : x.isSome = true) : ∃ a, cs[i]? = some (.int k a) ∧ (Lit.int k a).wf = true := by
  obtain ⟨y, hy⟩ := Option.isSome_iff_exists.1 hx
  rw [hy] at h
  obtain ⟨a, h1, _, h2⟩ := DataW.trod_int ht h
  rw [hc] at h1
  refine ⟨a, ?_, h2⟩
  have := congrArg (fun l => l[0]?) h1
  simpa [List.getElem?_take, List.getElem?_drop] using this
theorem one_bool {t : TypeId} {n : Nat} {cs : List Value} {x : Option (DataW H × List MemPlace)} (ht : Tryz.prog.underlying t = some .bool) (hc : Tryz.prog.cellsOf t = 1) {i : Nat}
    (h : DataW.trod enc Tryz.prog w base spare held n t ((cs.drop i).take (Tryz.prog.cellsOf t)) = x) (hx : x.isSome = true) : ∃ a, cs[i]? = some (.bool a) := by
  obtain ⟨y, hy⟩ := Option.isSome_iff_exists.1 hx
  rw [hy] at h
  obtain ⟨a, h1, _⟩ := DataW.trod_bool ht h
  rw [hc] at h1
  refine ⟨a, ?_⟩
  have := congrArg (fun l => l[0]?) h1
  simpa [List.getElem?_take, List.getElem?_drop] using this
theorem getElem?_isSome {α : Type} {l : List α} {i n : Nat} (h : l.length = n) (hi : i < n) : (l[i]?).isSome = true := by simp [h, hi]

theorem open_op {fuel : Nat} {cs : List Value} {x : DataW H × List MemPlace} (h : DataW.trod enc Tryz.prog w base spare held fuel 29 cs = some x) :
    ∃ o, OpOk o ∧ cs = [.int .u8 o.kind, .int .u32 o.who, .int .u32 o.whom, .int .u32 o.what, .int .u32 o.id, .int .u64 o.n, .int .u64 o.price] := by
  obtain ⟨xs, n, _, _, hl, hx, hf⟩ := DataW.trod_struct Tryz.underlying29 h
  have hl7 : cs.length = 7 := hl.trans (by kernel_rfl)
  have hx7 : xs.length = 7 := hx
  have e5 : Tryz.prog.cellsOf 5 = 1 := by kernel_rfl
  have e22 : Tryz.prog.cellsOf 23 = 1 := by kernel_rfl
  have e30 : Tryz.prog.cellsOf 27 = 1 := by kernel_rfl
  obtain ⟨a0, g0, w0⟩ := one_int (i := 0) Tryz.underlying5 e5 (hf 0 _ rfl) (getElem?_isSome hx7 (by omega))
  obtain ⟨a1, g1, w1⟩ := one_int (i := 1) Tryz.underlying23 e22 (hf 1 _ rfl) (getElem?_isSome hx7 (by omega))
  obtain ⟨a2, g2, w2⟩ := one_int (i := 2) Tryz.underlying23 e22 (hf 2 _ rfl) (getElem?_isSome hx7 (by omega))
  obtain ⟨a3, g3, w3⟩ := one_int (i := 3) Tryz.underlying23 e22 (hf 3 _ rfl) (getElem?_isSome hx7 (by omega))
  obtain ⟨a4, g4, w4⟩ := one_int (i := 4) Tryz.underlying23 e22 (hf 4 _ rfl) (getElem?_isSome hx7 (by omega))
  obtain ⟨a5, g5, w5⟩ := one_int (i := 5) Tryz.underlying27 e30 (hf 5 _ rfl) (getElem?_isSome hx7 (by omega))
  obtain ⟨a6, g6, w6⟩ := one_int (i := 6) Tryz.underlying27 e30 (hf 6 _ rfl) (getElem?_isSome hx7 (by omega))
  refine ⟨⟨a0, a1, a2, a3, a4, a5, a6⟩, ⟨bounds_u8 w0, bounds_u32 w1, bounds_u32 w2, bounds_u32 w3, bounds_u32 w4, bounds_u64 w5, bounds_u64 w6⟩, List.ext_getElem? fun i => ?_⟩
  match i with
  | 0 => exact g0
  | 1 => exact g1
  | 2 => exact g2
  | 3 => exact g3
  | 4 => exact g4
  | 5 => exact g5
  | 6 => exact g6
  | i + 7 => rw [List.getElem?_eq_none (by omega), List.getElem?_eq_none (by simp)]
theorem open_key {fuel : Nat} {cs : List Value} {x : DataW H × List MemPlace} (h : DataW.trod enc Tryz.prog w base spare held fuel 52 cs = some x) :
    ∃ k : Ky, cs = keyRow k := by
  obtain ⟨xs, n, _, _, hl, hx, hf⟩ := DataW.trod_struct Tryz.underlying52 h
  have hl7 : cs.length = 3 := hl.trans (by kernel_rfl)
  have hx7 : xs.length = 3 := hx
  have e5 : Tryz.prog.cellsOf 5 = 1 := by kernel_rfl
  have e22 : Tryz.prog.cellsOf 23 = 1 := by kernel_rfl
  obtain ⟨a0, g0, w0⟩ := one_int (i := 0) Tryz.underlying5 e5 (hf 0 _ rfl) (getElem?_isSome hx7 (by omega))
  obtain ⟨a1, g1, w1⟩ := one_int (i := 1) Tryz.underlying23 e22 (hf 1 _ rfl) (getElem?_isSome hx7 (by omega))
  obtain ⟨a2, g2, w2⟩ := one_int (i := 2) Tryz.underlying23 e22 (hf 2 _ rfl) (getElem?_isSome hx7 (by omega))
  refine ⟨(a0, a1, a2), List.ext_getElem? fun i => ?_⟩
  match i with
  | 0 => exact g0
  | 1 => exact g1
  | 2 => exact g2
  | i + 3 => rw [List.getElem?_eq_none (by omega), List.getElem?_eq_none (by simp [keyRow])]
theorem open_value {fuel : Nat} {cs : List Value} {x : DataW H × List MemPlace} (h : DataW.trod enc Tryz.prog w base spare held fuel 48 cs = some x) :
    ∃ v : Vl, cs = [.int .u64 v.1, .int .u64 v.2] ∧ VlOk v := by
  obtain ⟨xs, n, _, _, hl, hx, hf⟩ := DataW.trod_struct Tryz.underlying48 h
  have hl7 : cs.length = 2 := hl.trans (by kernel_rfl)
  have hx7 : xs.length = 2 := hx
  have e30 : Tryz.prog.cellsOf 27 = 1 := by kernel_rfl
  obtain ⟨a0, g0, w0⟩ := one_int (i := 0) Tryz.underlying27 e30 (hf 0 _ rfl) (getElem?_isSome hx7 (by omega))
  obtain ⟨a1, g1, w1⟩ := one_int (i := 1) Tryz.underlying27 e30 (hf 1 _ rfl) (getElem?_isSome hx7 (by omega))
  refine ⟨(a0, a1), List.ext_getElem? fun i => ?_, bounds_u64 w0, bounds_u64 w1⟩
  match i with
  | 0 => exact g0
  | 1 => exact g1
  | i + 2 => rw [List.getElem?_eq_none (by omega), List.getElem?_eq_none (by simp)]
theorem open_cell {fuel : Nat} {cs : List Value} {x : DataW H × List MemPlace} (h : DataW.trod enc Tryz.prog w base spare held fuel 57 cs = some x) :
    ∃ c : Cel, cs = celRow c ∧ VlOk c.v := by
  obtain ⟨xs, n, _, _, hl, hx, hf⟩ := DataW.trod_struct Tryz.underlying57 h
  have hl6 : cs.length = 6 := hl.trans (by kernel_rfl)
  have hx3 : xs.length = 3 := hx
  have e24 : Tryz.prog.cellsOf 52 = 3 := by kernel_rfl
  have e47 : Tryz.prog.cellsOf 48 = 2 := by kernel_rfl
  have e4 : Tryz.prog.cellsOf 4 = 1 := by kernel_rfl
  have k0 := hf 0 _ rfl
  have k1 := hf 1 _ rfl
  obtain ⟨y0, hy0⟩ := Option.isSome_iff_exists.1 (getElem?_isSome hx3 (show 0 < 3 by omega))
  obtain ⟨y1, hy1⟩ := Option.isSome_iff_exists.1 (getElem?_isSome hx3 (show 1 < 3 by omega))
  rw [hy0] at k0
  rw [hy1] at k1
  obtain ⟨k, hk⟩ := open_key k0
  obtain ⟨v, hv, hok⟩ := open_value k1
  obtain ⟨b, g5⟩ := one_bool (i := 5) Tryz.underlying4 e4 (hf 2 _ rfl) (getElem?_isSome hx3 (by omega))
  have hk' : (cs.drop 0).take (Tryz.prog.cellsOf 52) = keyRow k := hk
  have hv' : (cs.drop 3).take (Tryz.prog.cellsOf 48) = [.int .u64 v.1, .int .u64 v.2] := hv
  rw [e24] at hk'
  rw [e47] at hv'
  refine ⟨⟨k, v, b⟩, List.ext_getElem? fun i => ?_, hok⟩
  match i with
  | 0 => have := congrArg (fun l => l[0]?) hk'; simpa [List.getElem?_take, List.getElem?_drop, keyRow, celRow] using this
  | 1 => have := congrArg (fun l => l[1]?) hk'; simpa [List.getElem?_take, List.getElem?_drop, keyRow, celRow] using this
  | 2 => have := congrArg (fun l => l[2]?) hk'; simpa [List.getElem?_take, List.getElem?_drop, keyRow, celRow] using this
  | 3 => have := congrArg (fun l => l[0]?) hv'; simpa [List.getElem?_take, List.getElem?_drop, celRow] using this
  | 4 => have := congrArg (fun l => l[1]?) hv'; simpa [List.getElem?_take, List.getElem?_drop, celRow] using this
  | 5 => exact g5
  | i + 6 => rw [List.getElem?_eq_none (by omega), List.getElem?_eq_none (by simp [celRow])]

instance : Inhabited Cel := ⟨⟨(0, 0, 0), (0, 0), false⟩⟩
/-- A slice of cells that came in. -/
def SeenIn (w : World) (sv : Value) (s : List Cel) : Prop := SeenAt w.heap.size w sv s ∧ ∀ c ∈ s, VlOk c.v
theorem open_seen {fuel : Nat} {v : Value} {x : DataW H × List MemPlace} (hv : ∃ a l c, v = .slice a l c) (h : DataW.trod enc Tryz.prog w 0 (fun _ => true) held fuel 30 v.cells.toList = some x) :
    ∃ s, SeenIn w v s := by
  obtain ⟨a, l, c, rfl⟩ := hv
  have e49 : Tryz.prog.cellsOf 57 = 6 := by kernel_rfl
  rcases Go.Deep.open_slice Tryz.underlying30 h with ⟨hcs, _⟩ | ⟨a', l', c', m, n, D, Pl, hcs, _, hl, hm, hmm, _, hel⟩
  · simp [Value.cells] at hcs
    obtain ⟨rfl, rfl, rfl⟩ := hcs
    exact ⟨[], ⟨none, 0, rfl, Nat.le_refl _, .inl rfl⟩, by simp⟩
  · simp [Value.cells] at hcs
    obtain ⟨rfl, rfl, rfl⟩ := hcs
    by_cases h0 : l = 0
    · subst h0
      exact ⟨[], ⟨some a', c, rfl, Nat.zero_le _, .inl rfl⟩, by simp⟩
    · have hm' : m = c := by simpa using hmm
      have key : ∀ i, i < l → ∃ cel : Cel, VlOk cel.v ∧ ∀ j v, (celRow cel)[j]? = some v → w.cell? ((a'.add (i * 6)).add j) = some v := by
        intro i hi
        obtain ⟨cs', h1, h2⟩ := hel i (by omega)
        rw [e49] at h1
        obtain ⟨_, hlen, hcell⟩ := World.cells?_some h1
        obtain ⟨cel, rfl, hok⟩ := open_cell h2
        refine ⟨cel, hok, fun j v hj => ?_⟩
        have hj6 : j < 6 := by
          have := (List.getElem?_eq_some_iff.1 hj).1
          simpa [celRow] using this
        rw [hcell j hj6]; exact hj
      obtain ⟨f, hf⟩ := Go.Deep.choose_lt (p := fun i (cel : Cel) => VlOk cel.v ∧ ∀ j v, (celRow cel)[j]? = some v → w.cell? ((a'.add (i * 6)).add j) = some v) key
      have hc0 := (hf 0 (by omega)).2 0 _ rfl
      have hlt := World.block_lt_of_cell? _ _ hc0
      have hs := World.cell?_spot hc0
      obtain ⟨b, off, spot⟩ := a'
      have hspot : spot = none := by simpa [Addr.add] using hs
      subst hspot
      have hbl : b < w.heap.size := by simpa [Addr.add] using hlt
      refine ⟨(List.range l).map f, ⟨some ⟨b, off, none⟩, c, by simp, by simpa using hl, .inr ⟨b, off, rfl, hbl, fun i cel hi j v hj => ?_⟩⟩, fun cel hcel => ?_⟩
      · have hil : i < l := by
          have := (List.getElem?_eq_some_iff.1 hi).1
          simpa using this
        have hce : f i = cel := by
          rw [List.getElem?_map, List.getElem?_range hil] at hi
          simpa using hi
        subst hce
        have := (hf i hil).2 j v hj
        rw [Addr.add_lit, Addr.add_lit] at this
        exact this
      · obtain ⟨i, hi, rfl⟩ := List.mem_map.1 hcel
        exact (hf i (by simpa using hi)).1
end
end Go.Proofs.YtdbpjbmalinlbaaGreat

namespace Go.Proofs.YtdbpjbmalinlbaaGreat
open Go.RowKit

theorem next_stop {o : OpV} (ho : OpOk o) (hb : beginE o ≠ 0) (w : World) :
    Calls Tryz.prog 16 #[opV o, .slice none 0 0] w fun e w' => e = .returned (.tuple #[.agg #[.int .u8 0, .int .u32 0, .int .u32 0], .bool false]) ∧ Below w.heap.size w w' :=
  (next_any (seen_nil w) (by simp) ho (by simp) (run_stop hb)).mono fun e w' ⟨h1, h2⟩ => ⟨h2, h1⟩
theorem do_stop {o : OpV} {s : List Cel} {sv : Value} {w : World} {c : Int} (ho : OpOk o) (hc : beginE o = c) (h0 : c ≠ 0) (hs : SeenIn w sv s) (hl : s.length ≤ 40) :
    Calls Tryz.prog 17 #[opV o, sv] w fun e w' => ∃ a cap, e = .returned (.tuple #[.slice a 0 cap, .agg #[.int .u16 c, .int .u64 0, .int .u64 0, .int .u64 0]]) ∧ Below w.heap.size w w' := by
  subst hc
  refine (do_any hs.1 (by omega) ho hs.2 (run_stop h0)).mono ?_
  rintro e w' ⟨B, v, rfl, hown⟩
  rcases hown.2 with ⟨rfl, _⟩ | ⟨g, cap, cur, rfl, _⟩
  · exact ⟨none, 0, rfl, B⟩
  · exact ⟨_, cap, rfl, B⟩

/-- The law's five operations. -/
def errOps (o : OpV) : List OpV :=
  [{ o with who := 0 }, { o with kind := 0 }, { o with kind := 19 + o.kind % 200 }, { o with who := max o.who 1, whom := max o.who 1, kind := 11 }, { o with who := max o.who 1, kind := 2, n := 0 }]
theorem errOps_ok {o : OpV} (ho : OpOk o) : ∀ q ∈ errOps o, OpOk q := by
  obtain ⟨h1, h2, h3, h4, h5, h6, h7⟩ := ho
  intro q hq
  simp only [errOps, List.mem_cons, List.not_mem_nil, or_false] at hq
  rcases hq with rfl | rfl | rfl | rfl | rfl <;> (refine ⟨?_, ?_, ?_, ?_, ?_, ?_, ?_⟩ <;> simp only <;> omega)
theorem errOps_begin {o : OpV} (ho : OpOk o) (k : Nat) (q : OpV) (hq : (errOps o)[k]? = some q) : beginE q = if k = 3 then 212 else 1 := by
  obtain ⟨h1, h2, h3, h4, h5, h6, h7⟩ := ho
  match k, hq with
  | 0, hq =>
    simp [errOps] at hq; subst hq
    have : soundB { o with who := 0 } = false := by unfold soundB; repeat' split <;> simp
    simp [beginE, this]
  | 1, hq =>
    simp [errOps] at hq; subst hq
    simp [beginE, soundB]
  | 2, hq =>
    simp [errOps] at hq; subst hq
    have : soundB { o with kind := 19 + o.kind % 200 } = false := by
      unfold soundB
      simp only
      have hk : 19 ≤ 19 + o.kind % 200 := by omega
      repeat' rw [if_neg (by omega)]
    simp [beginE, this]
  | 3, hq =>
    simp [errOps] at hq; subst hq
    have hm : 0 < max o.who 1 := by omega
    simp [beginE, soundB, hm]
  | 4, hq =>
    simp [errOps] at hq; subst hq
    simp [beginE, soundB]
  | k + 5, hq => simp [errOps] at hq

theorem SeenIn.below {w w' : World} {sv : Value} {s : List Cel} (h : SeenIn w sv s) (B : Below w.heap.size w w') : SeenIn w' sv s :=
  ⟨(h.1.keep fun b hb => B.block b hb).mono B.size, h.2⟩

/-- The five operations lie in block L. -/
def ErrAt (o : OpV) (L : Nat) (w : World) : Prop := ∀ (k : Nat) (q : OpV), (errOps o)[k]? = some q →
  w.cell? ⟨L, k * 7, none⟩ = some (.int .u8 q.kind) ∧ w.cell? ⟨L, k * 7 + 1, none⟩ = some (.int .u32 q.who) ∧ w.cell? ⟨L, k * 7 + 2, none⟩ = some (.int .u32 q.whom) ∧ w.cell? ⟨L, k * 7 + 3, none⟩ = some (.int .u32 q.what) ∧
    w.cell? ⟨L, k * 7 + 4, none⟩ = some (.int .u32 q.id) ∧ w.cell? ⟨L, k * 7 + 5, none⟩ = some (.int .u64 q.n) ∧ w.cell? ⟨L, k * 7 + 6, none⟩ = some (.int .u64 q.price)
theorem ErrAt.keep {o : OpV} {L : Nat} {w w' : World} (h : ErrAt o L w) (hL : L < w.heap.size) (B : Below w.heap.size w w') : ErrAt o L w' := by
  intro k q hq
  obtain ⟨e0, e1, e2, e3, e4, e5, e6⟩ := h k q hq
  exact ⟨(B.cell hL).trans e0, (B.cell hL).trans e1, (B.cell hL).trans e2, (B.cell hL).trans e3, (B.cell hL).trans e4, (B.cell hL).trans e5, (B.cell hL).trans e6⟩
theorem errAt_new {o : OpV} {w : World} {L : Nat} {t : TypeId} (hL : w.heap.size = L) : ErrAt o L (w.alloc (.cells #[.int .u8 o.kind, .int .u32 0, .int .u32 o.whom, .int .u32 o.what, .int .u32 o.id, .int .u64 o.n, .int .u64 o.price,
    .int .u8 0, .int .u32 o.who, .int .u32 o.whom, .int .u32 o.what, .int .u32 o.id, .int .u64 o.n, .int .u64 o.price,
    .int .u8 (19 + o.kind % 200), .int .u32 o.who, .int .u32 o.whom, .int .u32 o.what, .int .u32 o.id, .int .u64 o.n, .int .u64 o.price,
    .int .u8 11, .int .u32 (max o.who 1), .int .u32 (max o.who 1), .int .u32 o.what, .int .u32 o.id, .int .u64 o.n, .int .u64 o.price,
    .int .u8 2, .int .u32 (max o.who 1), .int .u32 o.whom, .int .u32 o.what, .int .u32 o.id, .int .u64 0, .int .u64 o.price] t)) := by
  subst hL
  intro k q hq
  simp only [cell_of_heap (heap_alloc_new w _)]
  match k, hq with
  | 0, hq => simp [errOps] at hq; subst hq; simp
  | 1, hq => simp [errOps] at hq; subst hq; simp
  | 2, hq => simp [errOps] at hq; subst hq; simp
  | 3, hq => simp [errOps] at hq; subst hq; simp
  | 4, hq => simp [errOps] at hq; subst hq; simp
  | k + 5, hq => simp [errOps] at hq

theorem op_kept {w w1 : World} {a b c d e f g : Value} {t : TypeId} (B : Below (w.alloc (.cells #[a, b, c, d, e, f, g] t)).heap.size (w.alloc (.cells #[a, b, c, d, e, f, g] t)) w1) :
    w1.cell? ⟨w.heap.size, 0, none⟩ = some a ∧ w1.cell? ⟨w.heap.size, 1, none⟩ = some b ∧ w1.cell? ⟨w.heap.size, 2, none⟩ = some c ∧ w1.cell? ⟨w.heap.size, 3, none⟩ = some d ∧ w1.cell? ⟨w.heap.size, 4, none⟩ = some e ∧ w1.cell? ⟨w.heap.size, 5, none⟩ = some f ∧ w1.cell? ⟨w.heap.size, 6, none⟩ = some g ∧ w.heap.size < w1.heap.size ∧ Below w.heap.size w w1 := by
  have hs := B.size
  simp at hs
  refine ⟨?_, ?_, ?_, ?_, ?_, ?_, ?_, by omega, below_trans (below_alloc _ _) B⟩ <;>
    (rw [B.cell (by simp), cell_of_heap (heap_alloc_new w _)]; rfl)

end Go.Proofs.YtdbpjbmalinlbaaGreat

namespace Go.Proofs.YtdbpjbmalinlbaaGreat
open Go.RowKit

theorem ptCells_at {l : List Pt} : ∀ (j : Nat) (q : Pt) (i : Nat), l[j]? = some q → i < 6 → (ptCells l)[j * 6 + i]? = (ptRow q)[i]? := by
  induction l with
  | nil => intro j b i h; simp at h
  | cons q l ih =>
    intro j b i h hi
    have hc : ptCells (q :: l) = ptRow q ++ ptCells l := rfl
    rw [hc]
    cases j with
    | zero =>
      simp at h; subst h
      rw [List.getElem?_append_left (by simp [ptRow]; omega)]
      simp
    | succ j =>
      rw [List.getElem?_append_right (by simp [ptRow]; omega), ← ih j b i (by simpa using h) hi]
      congr 1
      simp [ptRow]; omega
theorem owns_shape {w : World} {base n size : Nat} {e : TypeId} {v : Value} {xs : List Value} (h : w.ownsRow base e size v n xs) : ∃ a c, v = .slice a n c := by
  rcases h.2 with ⟨rfl, h0⟩ | ⟨g, c, _, rfl, _⟩
  · exact ⟨none, 0, by rw [h0]⟩
  · exact ⟨_, c, rfl⟩
theorem owns_max {w : World} {base n size : Nat} {e : TypeId} {v : Value} {xs : List Value} (h : w.ownsRow base e size v n xs) : n ≤ 9223372036854775807 := by
  rcases h.2 with ⟨_, h0⟩ | ⟨g, c, _, _, _, _, hn, hm, _⟩
  · omega
  · unfold maxLen at hm; omega
theorem owns_row {w : World} {base n m size c : Nat} {e : TypeId} {a : Option Addr} {xs : List Value} (h : w.ownsRow base e size (.slice a m c) n xs) (hn : 0 < n) : ∃ g, a = some ⟨g, 0, none⟩ := by
  rcases h.2 with ⟨_, h0⟩ | ⟨g, _, _, h, _⟩
  · omega
  · simp at h; exact ⟨g, h.1⟩
theorem put_cells {w : World} {base g c : Nat} {l : List Pt} (h : w.ownsRow base 66 6 (.slice (some ⟨g, 0, none⟩) l.length c) l.length (ptCells l)) {j : Nat} {q : Pt} (hj : l[j]? = some q) :
    w.cell? ⟨g, j * 6, none⟩ = some (.int .u8 q.k.1) ∧ w.cell? ⟨g, j * 6 + 1, none⟩ = some (.int .u32 q.k.2.1) ∧ w.cell? ⟨g, j * 6 + 2, none⟩ = some (.int .u32 q.k.2.2) ∧ w.cell? ⟨g, j * 6 + 3, none⟩ = some (.int .u64 q.v.1) ∧ w.cell? ⟨g, j * 6 + 4, none⟩ = some (.int .u64 q.v.2) ∧
      w.cell? ⟨g, j * 6 + 5, none⟩ = some (.bool q.gone) ∧ g < w.heap.size := by
  have hlt := (List.getElem?_eq_some_iff.1 hj).1
  have e : ∀ i, i < 6 → w.cell? ⟨g, j * 6 + i, none⟩ = (ptRow q)[i]? := fun i hi => (h.cellAt (j * 6 + i) (by omega)).trans (ptCells_at j q i hj hi)
  exact ⟨e 0 (by omega), e 1 (by omega), e 2 (by omega), e 3 (by omega), e 4 (by omega), e 5 (by omega), (owns_lt (b := g) h rfl).2⟩

end Go.Proofs.YtdbpjbmalinlbaaGreat

namespace Go.Proofs.YtdbpjbmalinlbaaGreat
open Go.RowKit

theorem Tryz.infoCel : (Tryz.prog.info? 57).map (fun i => (i.zero, i.size, i.bytes)) = some (some (.agg #[.int .u8 0, .int .u32 0, .int .u32 0, .int .u64 0, .int .u64 0, .bool false]), 6, 40) := by kernel_rfl

def celCells (l : List Cel) : List Value := l.flatMap celRow
theorem celCells_snoc (l : List Cel) (c : Cel) : celCells (l ++ [c]) = celCells l ++ celRow c := by simp [celCells]
theorem celCells_at {l : List Cel} : ∀ (j : Nat) (q : Cel) (i : Nat), l[j]? = some q → i < 6 → (celCells l)[j * 6 + i]? = (celRow q)[i]? := by
  induction l with
  | nil => intro j b i h; simp at h
  | cons q l ih =>
    intro j b i h hi
    have hc : celCells (q :: l) = celRow q ++ celCells l := rfl
    rw [hc]
    cases j with
    | zero =>
      simp at h; subst h
      rw [List.getElem?_append_left (by simp [celRow]; omega)]
      simp
    | succ j =>
      rw [List.getElem?_append_right (by simp [celRow]; omega), ← ih j b i (by simpa using h) hi]
      congr 1
      simp [celRow]; omega
theorem keysCells_at {l : List Ky} : ∀ (j : Nat) (q : Ky) (i : Nat), l[j]? = some q → i < 3 → (keysCells l)[j * 3 + i]? = (keyRow q)[i]? := by
  induction l with
  | nil => intro j b i h; simp at h
  | cons q l ih =>
    intro j b i h hi
    have hc : keysCells (q :: l) = keyRow q ++ keysCells l := rfl
    rw [hc]
    cases j with
    | zero =>
      simp at h; subst h
      rw [List.getElem?_append_left (by simp [keyRow]; omega)]
      simp
    | succ j =>
      rw [List.getElem?_append_right (by simp [keyRow]; omega), ← ih j b i (by simpa using h) hi]
      congr 1
      simp [keyRow]; omega
theorem cel_cells {w : World} {base g c : Nat} {l : List Cel} (h : w.ownsRow base 57 6 (.slice (some ⟨g, 0, none⟩) l.length c) l.length (celCells l)) {j : Nat} {q : Cel} (hj : l[j]? = some q) :
    w.cell? ⟨g, j * 6, none⟩ = some (.int .u8 q.k.1) ∧ w.cell? ⟨g, j * 6 + 1, none⟩ = some (.int .u32 q.k.2.1) ∧ w.cell? ⟨g, j * 6 + 2, none⟩ = some (.int .u32 q.k.2.2) ∧ w.cell? ⟨g, j * 6 + 3, none⟩ = some (.int .u64 q.v.1) ∧ w.cell? ⟨g, j * 6 + 4, none⟩ = some (.int .u64 q.v.2) ∧
      w.cell? ⟨g, j * 6 + 5, none⟩ = some (.bool q.is) ∧ g < w.heap.size := by
  have hlt := (List.getElem?_eq_some_iff.1 hj).1
  have e : ∀ i, i < 6 → w.cell? ⟨g, j * 6 + i, none⟩ = (celRow q)[i]? := fun i hi => (h.cellAt (j * 6 + i) (by omega)).trans (celCells_at j q i hj hi)
  exact ⟨e 0 (by omega), e 1 (by omega), e 2 (by omega), e 3 (by omega), e 4 (by omega), e 5 (by omega), (owns_lt (b := g) h rfl).2⟩
theorem key_cells {w : World} {base g c : Nat} {l : List Ky} (h : w.ownsRow base 52 3 (.slice (some ⟨g, 0, none⟩) l.length c) l.length (keysCells l)) {j : Nat} {q : Ky} (hj : l[j]? = some q) :
    w.cell? ⟨g, j * 3, none⟩ = some (.int .u8 q.1) ∧ w.cell? ⟨g, j * 3 + 1, none⟩ = some (.int .u32 q.2.1) ∧ w.cell? ⟨g, j * 3 + 2, none⟩ = some (.int .u32 q.2.2) ∧ g < w.heap.size := by
  have hlt := (List.getElem?_eq_some_iff.1 hj).1
  have e : ∀ i, i < 3 → w.cell? ⟨g, j * 3 + i, none⟩ = (keyRow q)[i]? := fun i hi => (h.cellAt (j * 3 + i) (by omega)).trans (keysCells_at j q i hj hi)
  exact ⟨e 0 (by omega), e 1 (by omega), e 2 (by omega), (owns_lt (b := g) h rfl).2⟩
theorem seen_of_owns {w : World} {base : Nat} {v : Value} {cs : List Cel} (h : w.ownsRow base 57 6 v cs.length (celCells cs)) : SeenAt w.heap.size w v cs := by
  have hf := h
  rcases h.2 with ⟨rfl, h0⟩ | ⟨g, cap, cur, rfl, hb, hg, hn, _⟩
  · have := List.eq_nil_of_length_eq_zero h0
    subst this
    exact ⟨none, 0, rfl, Nat.le_refl _, .inl rfl⟩
  · refine ⟨_, cap, rfl, hn, .inr ⟨g, 0, rfl, (owns_lt (b := g) hf rfl).2, fun i c hi j v hj => ?_⟩⟩
    have hlt := (List.getElem?_eq_some_iff.1 hi).1
    have hj6 : j < 6 := by have := (List.getElem?_eq_some_iff.1 hj).1; simpa [celRow] using this
    rw [Nat.zero_add, hf.cellAt (i * 6 + j) (by omega), celCells_at i c j hi hj6]
    exact hj

/-- What look knows of a cell: nothing is above what it was handed. -/
def CelOk (vs : List Cel) (c : Cel) : Prop := VlOk c.v ∧ ∀ M : Int, 0 ≤ M → (∀ v ∈ vs, v.v.1 ≤ M) → c.v.1 ≤ M
theorem celOk_zero (vs : List Cel) (k : Ky) : CelOk vs ⟨k, (0, 0), false⟩ := ⟨(show VlOk (0, 0) from ⟨by decide, by decide⟩), fun _ h _ => h⟩
def LookOk (t : T (List Pt × Rp)) (vs : List Cel) (ks : List Ky) (cs : List Cel) : Prop :=
  ks.length = cs.length ∧ (∀ n, n < cs.length → ∃ k, t.run (cs.take n) = .need k) ∧ ∀ c ∈ cs, CelOk vs c
theorem lookOk_nil (t : T (List Pt × Rp)) (vs : List Cel) : LookOk t vs [] [] := ⟨rfl, fun _ h => by simp at h, by simp⟩
theorem LookOk.short {o : OpV} (ho : OpOk o) {vs : List Cel} {ks : List Ky} {cs : List Cel} (h : LookOk (runT o) vs ks cs) : cs.length ≤ 12 := by
  rcases Nat.eq_zero_or_pos cs.length with h0 | h0
  · omega
  · obtain ⟨k, hk⟩ := h.2.1 (cs.length - 1) (by omega)
    have := Fine.need (V := Vb False) (Q := Lf False) (fine_run ho) (fun _ _ hB => hB.elim) hk
    simp at this; omega
theorem LookOk.snoc {t : T (List Pt × Rp)} {vs : List Cel} {ks : List Ky} {cs : List Cel} {k k' : Ky} {c : Cel} (h : LookOk t vs ks cs) (hr : t.run cs = .need k') (hc : CelOk vs c) : LookOk t vs (ks ++ [k]) (cs ++ [c]) := by
  refine ⟨by simp [h.1], fun n hn => ?_, fun q hq => ?_⟩
  · rcases Nat.lt_or_ge n cs.length with hl | hl
    · rw [List.take_append_of_le_length (by omega)]
      exact h.2.1 n hl
    · have : n = cs.length := by simp at hn; omega
      subst this
      rw [List.take_append_of_le_length (by omega), List.take_length]
      exact ⟨_, hr⟩
  · rcases List.mem_append.1 hq with hq | hq
    · exact h.2.2 q hq
    · obtain rfl := List.mem_singleton.1 hq
      exact hc

/-- The world of look: the operation in block BO, the keys and the cells in rows of their own behind it. -/
structure LookSt (w : World) (o : OpV) (BO : Nat) (u7 u8 : Value) (ks : List Ky) (cs : List Cel) (wr : World) : Prop where
  below : Below BO w wr
  op : wr.heap[BO]? = some (.cells #[.int .u8 o.kind, .int .u32 o.who, .int .u32 o.whom, .int .u32 o.what, .int .u32 o.id, .int .u64 o.n, .int .u64 o.price] 29)
  keys : wr.ownsRow (BO + 1) 52 3 u7 ks.length (keysCells ks)
  seen : wr.ownsRow (BO + 1) 57 6 u8 cs.length (celCells cs)
  apart : ∀ b, u7.ownBlock = some b → u8.ownBlock ≠ some b
section
variable {w wr wx w3 : World} {o : OpV} {BO : Nat} {u7 u8 : Value} {ks : List Ky} {cs : List Cel}
theorem LookSt.lt (L : LookSt w o BO u7 u8 ks cs wr) : BO < wr.heap.size := (Array.getElem?_eq_some_iff.1 L.op).1
theorem LookSt.step (L : LookSt w o BO u7 u8 ks cs wr) (B : Below wr.heap.size wr wx) : LookSt w o BO u7 u8 ks cs wx :=
  ⟨L.below.trans (B.mono (Nat.le_of_lt L.lt)), (B.block _ L.lt).trans L.op, owns_keep L.keys fun _ hb => B.block _ (owns_lt L.keys hb).2, owns_keep L.seen fun _ hb => B.block _ (owns_lt L.seen hb).2, L.apart⟩
theorem LookSt.cells (L : LookSt w o BO u7 u8 ks cs wr) : wr.cell? ⟨BO, 0, none⟩ = some (.int .u8 o.kind) ∧ wr.cell? ⟨BO, 1, none⟩ = some (.int .u32 o.who) ∧ wr.cell? ⟨BO, 2, none⟩ = some (.int .u32 o.whom) ∧ wr.cell? ⟨BO, 3, none⟩ = some (.int .u32 o.what) ∧ wr.cell? ⟨BO, 4, none⟩ = some (.int .u32 o.id) ∧
    wr.cell? ⟨BO, 5, none⟩ = some (.int .u64 o.n) ∧ wr.cell? ⟨BO, 6, none⟩ = some (.int .u64 o.price) := by
  refine ⟨?_, ?_, ?_, ?_, ?_, ?_, ?_⟩ <;> simp [cell_of_heap L.op]
theorem grown_heap {ob : Obj} {row : Option Nat} {b : Nat} (hg : (wx.alloc ob).grownBy w3 row) (hb : b < wx.heap.size) (hne : row ≠ some b) : w3.heap[b]? = wx.heap[b]? := by
  rw [hg.block b (by simp; omega) (fun e => hne e.symm)]
  exact Below.heap_alloc _ _ _ hb
theorem LookSt.pushKey {g cap n H : Nat} {k : Ky} {ob : Obj} (L : LookSt w o BO u7 u8 ks cs wx) (hg : (wx.alloc ob).grownBy w3 u7.ownBlock) (hown : w3.ownsRow (BO + 1) 52 3 (.slice (some ⟨g, 0, none⟩) n cap) n (keysCells ks ++ keyRow k))
    (hn : n = ks.length + 1) (hat : u7.ownBlock = some g ∨ g = H) (hH : H = wx.heap.size + 1) : LookSt w o BO (.slice (some ⟨g, 0, none⟩) n cap) u8 (ks ++ [k]) cs w3 := by
  have lo := L.lt
  have lk := fun b hb => owns_lt (b := b) L.keys hb
  have ls := fun b hb => owns_lt (b := b) L.seen hb
  have hgs := hg.size
  simp at hgs
  refine ⟨⟨hg.os.trans L.below.os, hg.tape.trans L.below.tape, hg.output.trans L.below.output, by have := L.below.size; omega, fun b hb => ?_⟩, ?_, ?_, owns_keep L.seen fun b hb => ?_, fun b hb hb2 => ?_⟩
  · exact (grown_heap hg (by omega) (fun e => by have := (lk b e).1; omega)).trans (L.below.block b hb)
  · exact (grown_heap hg lo (fun e => by have := (lk _ e).1; omega)).trans L.op
  · rw [keysCells_snoc, List.length_append]
    subst hn
    exact hown
  · exact grown_heap hg (ls b hb).2 (fun e => L.apart b e hb)
  · simp [Value.ownBlock] at hb
    subst hb
    rcases hat with e | e
    · exact L.apart _ e hb2
    · have := (ls _ hb2).2; omega
theorem LookSt.pushCel {g cap n H : Nat} {c : Cel} {ob : Obj} (L : LookSt w o BO u7 u8 ks cs wx) (hg : (wx.alloc ob).grownBy w3 u8.ownBlock) (hown : w3.ownsRow (BO + 1) 57 6 (.slice (some ⟨g, 0, none⟩) n cap) n (celCells cs ++ celRow c))
    (hn : n = cs.length + 1) (hat : u8.ownBlock = some g ∨ g = H) (hH : H = wx.heap.size + 1) : LookSt w o BO u7 (.slice (some ⟨g, 0, none⟩) n cap) ks (cs ++ [c]) w3 := by
  have lo := L.lt
  have lk := fun b hb => owns_lt (b := b) L.keys hb
  have ls := fun b hb => owns_lt (b := b) L.seen hb
  have hgs := hg.size
  simp at hgs
  refine ⟨⟨hg.os.trans L.below.os, hg.tape.trans L.below.tape, hg.output.trans L.below.output, by have := L.below.size; omega, fun b hb => ?_⟩, ?_, owns_keep L.keys fun b hb => ?_, ?_, fun b hb hb2 => ?_⟩
  · exact (grown_heap hg (by omega) (fun e => by have := (ls b e).1; omega)).trans (L.below.block b hb)
  · exact (grown_heap hg lo (fun e => by have := (ls _ e).1; omega)).trans L.op
  · exact grown_heap hg (lk b hb).2 (fun e => L.apart b hb e)
  · rw [celCells_snoc, List.length_append]
    subst hn
    exact hown
  · simp [Value.ownBlock] at hb2
    subst hb2
    rcases hat with e | e
    · exact L.apart _ hb e
    · have := (lk _ hb).2; omega
theorem look_next (ho : OpOk o) (L : LookSt w o BO u7 u8 ks cs wr) (hc : ∀ c ∈ cs, VlOk c.v) (hl : cs.length ≤ 4000) {k : Ky} (hr : (runT o).run cs = .need k) :
    Calls Tryz.prog 16 #[opV o, u8] wr fun e w' => e = .returned (.tuple #[.agg #[.int .u8 k.1, .int .u32 k.2.1, .int .u32 k.2.2], .bool true]) ∧ Below wr.heap.size wr w' := by
  refine (next_any (t := runT o) (seen_of_owns L.seen) hl ho hc (run_any o)).mono fun e w' ⟨h1, h2⟩ => ⟨?_, h1⟩
  rw [hr] at h2
  exact h2
theorem look_stop (ho : OpOk o) (L : LookSt w o BO u7 u8 ks cs wr) (hc : ∀ c ∈ cs, VlOk c.v) (hl : cs.length ≤ 4000) (hr : ∀ k, (runT o).run cs ≠ .need k) :
    Calls Tryz.prog 16 #[opV o, u8] wr fun e w' => (∃ k : Ky, e = .returned (.tuple #[.agg #[.int .u8 k.1, .int .u32 k.2.1, .int .u32 k.2.2], .bool false])) ∧ Below wr.heap.size wr w' := by
  refine (next_any (t := runT o) (seen_of_owns L.seen) hl ho hc (run_any o)).mono fun e w' ⟨h1, h2⟩ => ⟨⟨nextK ((runT o).run cs), ?_⟩, h1⟩
  have : nextB ((runT o).run cs) = false := by
    cases h : (runT o).run cs with
    | need k => exact absurd h (hr k)
    | ok a s => rfl
    | over c => rfl
  rw [this] at h2
  exact h2
/-- A box of six cells is written over. -/
theorem fill6 {B : Nat} {a b c d e f : Value} {ty : TypeId} (h : wr.heap[B]? = some (.cells #[a, b, c, d, e, f] ty)) (a' b' c' d' e' f' : Value) :
    ((((((wr.setCell ⟨B, 0, none⟩ a').setCell ⟨B, 1, none⟩ b').setCell ⟨B, 2, none⟩ c').setCell ⟨B, 3, none⟩ d').setCell ⟨B, 4, none⟩ e').setCell ⟨B, 5, none⟩ f').heap[B]? = some (.cells #[a', b', c', d', e', f'] ty) := by
  simp [World.setCell, Array.getElem?_modify, h]
theorem fill2 {B : Nat} {a b c d e f : Value} {ty : TypeId} (h : wr.heap[B]? = some (.cells #[a, b, c, d, e, f] ty)) (d' e' : Value) :
    ((wr.setCell ⟨B, 3, none⟩ d').setCell ⟨B, 4, none⟩ e').heap[B]? = some (.cells #[a, b, c, d', e', f] ty) := by
  simp [World.setCell, Array.getElem?_modify, h]
theorem fill1 {B : Nat} {a b c d e f : Value} {ty : TypeId} (h : wr.heap[B]? = some (.cells #[a, b, c, d, e, f] ty)) (f' : Value) :
    (wr.setCell ⟨B, 5, none⟩ f').heap[B]? = some (.cells #[a, b, c, d, e, f'] ty) := by
  simp [World.setCell, Array.getElem?_modify, h]
end
end Go.Proofs.YtdbpjbmalinlbaaGreat
