/- Contracts of finish's closure. -/
import Derived.Test.YtdbpjbmalinlbaaGreatRulJ
import Derived.Tactics
import Derived.Tactics2
import Derived.Defers
import Derived.Recover
namespace Go.Proofs.YtdbpjbmalinlbaaGreat
open Go.RowKit

theorem as_needs_yes (v : Value) : ∀ w : World, (Instr.typeAssert (.iface 101 v) 20 101 true).run Tryz.prog w = .ok (.tuple #[v, .bool true]) w := fun _ => by kernel_rfl
theorem as_needs_no (v : Value) : ∀ w : World, (Instr.typeAssert (.iface 102 v) 20 101 true).run Tryz.prog w = .ok (.tuple #[.agg #[.int .u8 0, .int .u32 0, .int .u32 0], .bool false]) w := fun _ => by kernel_rfl
theorem as_over_yes (v : Value) : ∀ w : World, (Instr.typeAssert (.iface 102 v) 20 102 true).run Tryz.prog w = .ok (.tuple #[v, .bool true]) w := fun _ => by kernel_rfl

theorem frame_25 (n : Nat) (p q t : Value) (h : n = 25) : #[p, q, t] ++ Array.replicate (n - (#[p, q, t] : Array Value).size) undef = #[p, q, t, undef, undef, undef, undef, undef, undef, undef, undef, undef, undef, undef, undef, undef, undef, undef, undef, undef, undef, undef, undef, undef, undef] := by
  subst h
  simp [Array.replicate, List.replicate]

set_option maxRecDepth 100000 in
set_option maxHeartbeats 1000000 in
theorem clos_idle (p q t : Addr) (w : World) :
    CallsD Tryz.prog 42 #[.pointer (some p), .pointer (some q), .pointer (some t)] .returning w fun e u' w' => e = .returned (.tuple #[]) ∧ u' = .returning ∧ w' = w := by
  refine callsD_of_wpS Tryz.func42 rfl fun c₀ cs hu => ?_
  rw [frame_25 _ _ _ _ Tryz.ntmps42]
  apply wpS_seq
  apply wpS_region
  simp [wpOpsS, go_sem, recoverD, hu, Exit.thenS]
  refine wpS_of_wp ?_
  go_wp2_with fail
  cases c₀
  simp_all [bodyPostS, results, Tryz.results42, go_sem]

set_option maxRecDepth 100000 in
set_option maxHeartbeats 1000000 in
theorem clos_needs (bp bq : Nat) (t : Addr) (k : Ky) (w : World) (_ : bp ≠ bq) (u0 u1 u2 u3 : Value)
    (h0 : w.cell? ⟨bp, 0, none⟩ = some u0) (h1 : w.cell? ⟨bp, 1, none⟩ = some u1) (h2 : w.cell? ⟨bp, 2, none⟩ = some u2) (h3 : w.cell? ⟨bq, 0, none⟩ = some u3)
    (f0 : w.frozen? ⟨bp, 0, none⟩ = false) (f1 : w.frozen? ⟨bp, 1, none⟩ = false) (f2 : w.frozen? ⟨bp, 2, none⟩ = false) (f3 : w.frozen? ⟨bq, 0, none⟩ = false) :
    CallsD Tryz.prog 42 #[.pointer (some ⟨bp, 0, none⟩), .pointer (some ⟨bq, 0, none⟩), .pointer (some t)] (.panicking [{ v := .iface 101 (keyV k), recovered := false }]) w fun e u' w' => e = .returned (.tuple #[]) ∧ u' = .panicking [{ v := .iface 101 (keyV k), recovered := true }] ∧ w' = ((((w.setCell ⟨bp, 0, none⟩ (.int .u8 k.1)).setCell ⟨bp, 1, none⟩ (.int .u32 k.2.1)).setCell ⟨bp, 2, none⟩ (.int .u32 k.2.2)).setCell ⟨bq, 0, none⟩ (.bool true)).alloc (.cells #[.int .u8 k.1, .int .u32 k.2.1, .int .u32 k.2.2] 101) := by
  have lp : bp < w.heap.size := World.block_lt_of_cell? _ _ h0
  have lq : bq < w.heap.size := World.block_lt_of_cell? _ _ h3
  refine callsD_of_wpS Tryz.func42 rfl fun c₀ cs hu => ?_
  rw [frame_25 _ _ _ _ Tryz.ntmps42]
  apply wpS_seq
  apply wpS_region
  simp [wpOpsS, go_sem, recoverD, hu, Exit.thenS]
  refine wpS_of_wp ?_
  unfold keyV
  have a1 := as_needs_yes (.agg #[.int .u8 k.1, .int .u32 k.2.1, .int .u32 k.2.2])
  go_wp2_with fail
  exact ⟨rfl, _, rfl, .tuple #[], by simp [results, Tryz.results42, go_sem], rfl, rfl, rfl⟩

set_option maxRecDepth 100000 in
set_option maxHeartbeats 1000000 in
theorem clos_over (p q : Addr) (t x : Nat) (c : Int) (w : World) (u0 u1 u2 u3 u4 : Value) (ht : w.cell? ⟨t, 0, none⟩ = some (.pointer (some ⟨x, 0, none⟩))) (_ : t ≠ x)
    (h0 : w.cell? ⟨x, 8, none⟩ = some u0) (h1 : w.cell? ⟨x, 9, none⟩ = some u1) (h2 : w.cell? ⟨x, 10, none⟩ = some u2) (h3 : w.cell? ⟨x, 11, none⟩ = some u3) (h4 : w.cell? ⟨x, 12, none⟩ = some u4)
    (fr : ∀ i, w.frozen? ⟨x, i, none⟩ = false) :
    CallsD Tryz.prog 42 #[.pointer (some p), .pointer (some q), .pointer (some ⟨t, 0, none⟩)] (.panicking [{ v := .iface 102 (.int .u16 c), recovered := false }]) w fun e u' w' => e = .returned (.tuple #[]) ∧ u' = .panicking [{ v := .iface 102 (.int .u16 c), recovered := true }] ∧ w' = ((((w.setCell ⟨x, 8, none⟩ (.slice none 0 0)).setCell ⟨x, 9, none⟩ (.int .u16 c)).setCell ⟨x, 10, none⟩ (.int .u64 0)).setCell ⟨x, 11, none⟩ (.int .u64 0)).setCell ⟨x, 12, none⟩ (.int .u64 0) := by
  have f8 := fr 8
  have f9 := fr 9
  have f10 := fr 10
  have f11 := fr 11
  have f12 := fr 12
  refine callsD_of_wpS Tryz.func42 rfl fun c₀ cs hu => ?_
  rw [frame_25 _ _ _ _ Tryz.ntmps42]
  apply wpS_seq
  apply wpS_region
  simp [wpOpsS, go_sem, recoverD, hu, Exit.thenS]
  refine wpS_of_wp ?_
  have a1 := as_needs_no (.int .u16 c)
  have a2 := as_over_yes (.int .u16 c)
  go_wp2_with fail
  exact ⟨rfl, _, rfl, .tuple #[], by simp [results, Tryz.results42, go_sem], rfl, rfl, rfl⟩

section
variable {x : Nat} {o : OpV} {s : List Cel} {p : List Pt} {r : Rp} {w w' : World}

/-- How finish ends. -/
def Fin (x : Nat) (o : OpV) (w : World) (res : Res (List Pt × Rp)) (e : Ending) (w' : World) : Prop :=
  Below x w w' ∧ match res with
    | .ok a s => e = .returned (.tuple #[.agg #[.int .u8 0, .int .u32 0, .int .u32 0], .bool false]) ∧ Hand x o s a.1 a.2 w'
    | .need k => e = .returned (.tuple #[.agg #[.int .u8 k.1, .int .u32 k.2.1, .int .u32 k.2.2], .bool true])
    | .over c => e = .returned (.tuple #[.agg #[.int .u8 0, .int .u32 0, .int .u32 0], .bool false]) ∧ ∃ s, Hand x o s [] ⟨c, 0, 0, 0⟩ w'

theorem fin_blocks {A B C : Obj} (h : Hand x o s p r w) (S : Step x (((w.alloc A).alloc B).alloc C) w') :
    (w'.heap[w.heap.size]? = some A ∧ w'.heap[w.heap.size + 1]? = some B ∧ w'.heap[w.heap.size + 1 + 1]? = some C) ∧ Far x w' (w.heap.size + 1) ∧ Far x w' (w.heap.size + 1 + 1) := by
  have hx := h.lt
  have x1 : x < (w.alloc A).heap.size := by simp; omega
  have x2 : x < ((w.alloc A).alloc B).heap.size := by simp; omega
  have e1 := World.size_alloc w A
  have e2 := World.size_alloc (w.alloc A) B
  refine ⟨⟨?_, ?_, ?_⟩, ?_, ?_⟩
  · rw [S.block _ (((h.farNew A).alloc x1 B).alloc x2 C), Below.heap_alloc _ _ _ (by omega), Below.heap_alloc _ _ _ (by omega)]
    exact heap_alloc_new w A
  · have F := ((h.alloc A).farNew B).alloc x2 C
    rw [e1] at F
    rw [S.block _ F, Below.heap_alloc _ _ _ (by omega)]
    have := heap_alloc_new (w.alloc A) B
    rwa [e1] at this
  · have F := ((h.alloc A).alloc B).farNew C
    rw [e2, e1] at F
    rw [S.block _ F]
    have := heap_alloc_new ((w.alloc A).alloc B) C
    rwa [e2, e1] at this
  · have F := ((h.alloc A).farNew B).alloc x2 C
    rw [e1] at F
    exact S.far _ F
  · have F := ((h.alloc A).alloc B).farNew C
    rw [e2, e1] at F
    exact S.far _ F

theorem fin_hand {b1 b2 : Nat} (h : Hand x o s p r w) (f1 : Far x w b1) (f2 : Far x w b2) (l1 : x < b1) (l2 : x < b2) (u1 u2 u3 u4 : Value) :
    Hand x o s p r ((((w.setCell ⟨b1, 0, none⟩ u1).setCell ⟨b1, 1, none⟩ u2).setCell ⟨b1, 2, none⟩ u3).setCell ⟨b2, 0, none⟩ u4) := by
  have n1 : b1 ≠ x := by omega
  have g1 : Far x (w.setCell ⟨b1, 0, none⟩ u1) b1 := f1.setCell n1 _
  have g2 : Far x ((w.setCell ⟨b1, 0, none⟩ u1).setCell ⟨b1, 1, none⟩ u2) b1 := g1.setCell n1 _
  have g3 : Far x (((w.setCell ⟨b1, 0, none⟩ u1).setCell ⟨b1, 1, none⟩ u2).setCell ⟨b1, 2, none⟩ u3) b2 := ((f2.setCell n1 _).setCell n1 _).setCell n1 _
  exact (((h.setFar (q := ⟨b1, 0, none⟩) f1 l1 u1).setFar (q := ⟨b1, 1, none⟩) g1 l1 u2).setFar (q := ⟨b1, 2, none⟩) g2 l1 u3).setFar (q := ⟨b2, 0, none⟩) g3 l2 u4

theorem over_hand (h : Hand x o s p r w) (c : Int) :
    Hand x o s [] ⟨c, 0, 0, 0⟩ (((((w.setCell ⟨x, 8, none⟩ (.slice none 0 0)).setCell ⟨x, 9, none⟩ (.int .u16 c)).setCell ⟨x, 10, none⟩ (.int .u64 0)).setCell ⟨x, 11, none⟩ (.int .u64 0)).setCell ⟨x, 12, none⟩ (.int .u64 0)) := by
  have h8 : Hand x o s [] r (w.setCell ⟨x, 8, none⟩ (.slice none 0 0)) := by
    obtain ⟨sv, pv, h1, h2, h3, h4⟩ := h
    refine ⟨sv, .slice none 0 0, ?_, h2.keep fun b hb => Below.heap_setCell _ _ _ _ (by show b ≠ x; omega), ⟨rfl, .inl ⟨rfl, rfl⟩⟩, ⟨by simp, h4.1.2⟩, h4.2⟩
    simp [World.setCell, Array.getElem?_modify, h1, handCells]
  have h9 : Hand x o s [] { r with err := c } ((w.setCell ⟨x, 8, none⟩ (.slice none 0 0)).setCell ⟨x, 9, none⟩ (.int .u16 c)) := h8.set fun _ _ => by simp [handCells]
  exact ((h9.setA 0).setB 0).setC 0

set_option maxRecDepth 100000 in
set_option maxHeartbeats 1000000 in
theorem finish_any (t : T (List Pt × Rp)) (h : Hand x o s p r w)
    (hrun : ∀ w : World, Hand x o s p r w → Calls Tryz.prog 43 #[.pointer (some ⟨x, 0, none⟩)] w (Mets x o s w t)) :
    Calls Tryz.prog 26 #[.pointer (some ⟨x, 0, none⟩)] w (Fin x o w (t.run s)) := by
  have hx := h.lt
  have hmf : ∀ (fn : Fn) (first cap : Array Value) (w : World), (Instr.makeFunc fn first cap).run Tryz.prog w = .ok (.func fn first cap) w := fun _ _ _ _ => rfl
  have hh := Lib.hid h
  have h3 := Lib.hid (((h.alloc (.cells #[.pointer (some ⟨x, 0, none⟩)] 76)).alloc (.cells #[.int .u8 0, .int .u32 0, .int .u32 0] 52)).alloc (.cells #[.bool false] 4))
  have S3 := (((Step.refl x w).alloc hx (.cells #[.pointer (some ⟨x, 0, none⟩)] 76)).alloc (by simp; omega) (.cells #[.int .u8 0, .int .u32 0, .int .u32 0] 52)).alloc (by simp; omega) (.cells #[.bool false] 4)
  clear h
  go_enter_defers Tryz.func26, Tryz.ntmps26
  go_wp2_with fail
  refine (hrun _ h3.out).mono ?_
  rintro e w1 M
  obtain ⟨S, ⟨a, s', he, rfl, H⟩ | ⟨k, he, rfl, D⟩ | ⟨c, he, rfl, D⟩⟩ := Met.split M
  · obtain ⟨⟨b1, b2, b3⟩, y1, y2⟩ := fin_blocks hh.out S
    have hx1 := H.lt
    have l2 := (Array.getElem?_eq_some_iff.1 b2).1
    have l3 := (Array.getElem?_eq_some_iff.1 b3).1
    have k0 := cell_of_heap b2 0
    have k1 := cell_of_heap b2 1
    have k2 := cell_of_heap b2 2
    have k3 := cell_of_heap b3 0
    have g0 := frozen_of_heap b2 0
    have g1 := frozen_of_heap b2 1
    have g2 := frozen_of_heap b2 2
    have g3 := frozen_of_heap b3 0
    clear M
    go_wp2_with fail
    refine leaves_cons (f := 42) (args := #[.pointer (some ⟨w.heap.size + 1, 0, none⟩), .pointer (some ⟨w.heap.size + 1 + 1, 0, none⟩), .pointer (some ⟨w.heap.size, 0, none⟩)]) (by simp) (by simp [go_sem]) ?_
    refine (clos_idle _ _ _ _).mono ?_
    rintro e u' w'' ⟨rfl, rfl, rfl⟩
    simp [Leaves, settle, results, Tryz.results26, go_sem, k0, k1, k2, k3]
    rw [he.out]
    exact ⟨((((S3.trans S).below.setCell (by show x ≤ w.heap.size + 1; omega) _).setCell (by show x ≤ w.heap.size + 1; omega) _).setCell (by show x ≤ w.heap.size + 1; omega) _).setCell (by show x ≤ w.heap.size + 1 + 1; omega) _, rfl, fin_hand H y1 y2 (by omega) (by omega) _ _ _ _⟩
  · obtain ⟨⟨b1, b2, b3⟩, y1, y2⟩ := fin_blocks hh.out S
    have l1 := (Array.getElem?_eq_some_iff.1 b1).1
    have l2 := (Array.getElem?_eq_some_iff.1 b2).1
    have l3 := (Array.getElem?_eq_some_iff.1 b3).1
    have k0 := cell_of_heap b2 0
    have k1 := cell_of_heap b2 1
    have k2 := cell_of_heap b2 2
    have k3 := cell_of_heap b3 0
    clear M
    go_wp2_with fail
    refine leaves_cons (f := 42) (args := #[.pointer (some ⟨w.heap.size + 1, 0, none⟩), .pointer (some ⟨w.heap.size + 1 + 1, 0, none⟩), .pointer (some ⟨w.heap.size, 0, none⟩)]) (by simp) (by simp [go_sem]) ?_
    refine (clos_needs _ _ _ k _ (by omega) _ _ _ _ k0 k1 k2 k3 (frozen_of_heap b2 0) (frozen_of_heap b2 1) (frozen_of_heap b2 2) (frozen_of_heap b3 0)).mono ?_
    rintro e u' w'' ⟨rfl, rfl, rfl⟩
    simp [Leaves, settle, results, Tryz.results26, go_sem, k0, k1, k2, k3, l2, l3]
    rw [he.out]
    exact ⟨(((((S3.trans S).below.setCell (by show x ≤ w.heap.size + 1; omega) _).setCell (by show x ≤ w.heap.size + 1; omega) _).setCell (by show x ≤ w.heap.size + 1; omega) _).setCell (by show x ≤ w.heap.size + 1 + 1; omega) _).alloc (by simp [World.setCell]; omega) _, rfl⟩
  · obtain ⟨⟨b1, b2, b3⟩, y1, y2⟩ := fin_blocks hh.out S
    have l1 := (Array.getElem?_eq_some_iff.1 b1).1
    have l2 := (Array.getElem?_eq_some_iff.1 b2).1
    have l3 := (Array.getElem?_eq_some_iff.1 b3).1
    have k0 := cell_of_heap b2 0
    have k1 := cell_of_heap b2 1
    have k2 := cell_of_heap b2 2
    have k3 := cell_of_heap b3 0
    obtain ⟨s', p', r', D⟩ := D
    have D' := Lib.hid D
    have fr := D.frozen
    obtain ⟨sv, pv, d1, d2, d3, d4⟩ := D
    clear M
    go_wp2_with fail
    refine leaves_cons (f := 42) (args := #[.pointer (some ⟨w.heap.size + 1, 0, none⟩), .pointer (some ⟨w.heap.size + 1 + 1, 0, none⟩), .pointer (some ⟨w.heap.size, 0, none⟩)]) (by simp) (by simp [go_sem]) ?_
    refine (clos_over _ _ _ x c _ _ _ _ _ _ (cell_of_heap b1 0) (by omega) (cell_of_heap d1 8) (cell_of_heap d1 9) (cell_of_heap d1 10) (cell_of_heap d1 11) (cell_of_heap d1 12) fr).mono ?_
    rintro e u' w'' ⟨rfl, rfl, rfl⟩
    simp [Leaves, settle, results, Tryz.results26, go_sem, k0, k1, k2, k3]
    rw [he.out]
    exact ⟨(((((S3.trans S).below.setCell (Nat.le_refl _) _).setCell (Nat.le_refl _) _).setCell (Nat.le_refl _) _).setCell (Nat.le_refl _) _).setCell (Nat.le_refl _) _, rfl, _, over_hand D'.out c⟩
end
end Go.Proofs.YtdbpjbmalinlbaaGreat
