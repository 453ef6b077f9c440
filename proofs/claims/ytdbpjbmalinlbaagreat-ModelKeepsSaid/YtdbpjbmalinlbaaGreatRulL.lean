/- Contracts of Next, Do, whatever the operation's own contract is. -/
import Derived.Test.YtdbpjbmalinlbaaGreatRulK
namespace Go.Proofs.YtdbpjbmalinlbaaGreat
open Go.RowKit

abbrev opV (o : OpV) : Value := .agg #[.int .u8 o.kind, .int .u32 o.who, .int .u32 o.whom, .int .u32 o.what, .int .u32 o.id, .int .u64 o.n, .int .u64 o.price]
abbrev repV (r : Rp) : Value := .agg #[.int .u16 r.err, .int .u64 r.a, .int .u64 r.b, .int .u64 r.c]
def rp0 : Rp := ⟨0, 0, 0, 0⟩
/-- The key that is needed next. -/
def nextK {α : Type} : Res α → Ky
  | .need k => k
  | _ => (0, 0, 0)
def nextB {α : Type} : Res α → Bool
  | .need _ => true
  | _ => false
/-- What is put and answered. -/
def doR : Res (List Pt × Rp) → List Pt × Rp
  | .ok a _ => a
  | .need _ => ([], ⟨1, 0, 0, 0⟩)
  | .over c => ([], ⟨c, 0, 0, 0⟩)

theorem SeenAt.mono {x y : Nat} {w : World} {sv : Value} {s : List Cel} (h : SeenAt x w sv s) (hy : x ≤ y) : SeenAt y w sv s := by
  obtain ⟨a, cap, h1, h2, h3⟩ := h
  refine ⟨a, cap, h1, h2, ?_⟩
  rcases h3 with h3 | ⟨b, off, h3, h4, h5⟩
  · exact .inl h3
  · exact .inr ⟨b, off, h3, by omega, h5⟩

/-- The operation's contract: whatever it has seen. -/
def RunsTo (o : OpV) (t : T (List Pt × Rp)) : Prop :=
  ∀ (x : Nat) (s : List Cel) (w : World), Hand x o s [] rp0 w → Calls Tryz.prog 43 #[.pointer (some ⟨x, 0, none⟩)] w (Mets x o s w t)

/-- A hand that was just made. -/
theorem hand_new {o : OpV} {s : List Cel} {w w1 : World} {sv : Value} {x : Nat} (hs : SeenAt w.heap.size w sv s) (B : Below w.heap.size w w1) (hx : w1.heap.size = x) (hl : s.length ≤ 4000) (ho : OpOk o) (hv : ∀ c ∈ s, VlOk c.v) :
    Hand x o s [] rp0 (w1.alloc (.cells #[.int .u8 o.kind, .int .u32 o.who, .int .u32 o.whom, .int .u32 o.what, .int .u32 o.id, .int .u64 o.n, .int .u64 o.price, sv, .slice none 0 0, .int .u16 0, .int .u64 0, .int .u64 0, .int .u64 0] 78)) := by
  subst hx
  have h1 : SeenAt w1.heap.size w1 sv s := (hs.keep fun b hb => B.block b hb).mono B.size
  exact ⟨sv, .slice none 0 0, heap_alloc_new w1 _, h1.keep fun b hb => Below.heap_alloc _ _ _ hb, ⟨rfl, .inl ⟨rfl, rfl⟩⟩, ⟨by simp, hl⟩, ho, hv⟩

theorem Fin.cases {x : Nat} {o : OpV} {w w' : World} {res : Res (List Pt × Rp)} {e : Ending} (h : Fin x o w res e w') :
    Below x w w' ∧ ((Hid (nextB res = false) ∧ Hid (nextK res = (0, 0, 0)) ∧ e = .returned (.tuple #[.agg #[.int .u8 0, .int .u32 0, .int .u32 0], .bool false]) ∧ ∃ s, Hand x o s (doR res).1 (doR res).2 w') ∨
      (∃ k, Hid (res = .need k) ∧ e = .returned (.tuple #[.agg #[.int .u8 k.1, .int .u32 k.2.1, .int .u32 k.2.2], .bool true]))) := by
  obtain ⟨B, h⟩ := h
  refine ⟨B, ?_⟩
  cases res with
  | ok a s => exact .inl ⟨Lib.hid rfl, Lib.hid rfl, h.1, s, h.2⟩
  | need k => exact .inr ⟨k, Lib.hid rfl, h⟩
  | over c => exact .inl ⟨Lib.hid rfl, Lib.hid rfl, h.1, h.2⟩

set_option maxRecDepth 100000 in
set_option maxHeartbeats 1000000 in
theorem next_any {o : OpV} {s : List Cel} {w : World} {sv : Value} {t : T (List Pt × Rp)} (hs : SeenAt w.heap.size w sv s) (hl : s.length ≤ 4000) (ho : OpOk o) (hv : ∀ c ∈ s, VlOk c.v) (hr : RunsTo o t) :
    Calls Tryz.prog 16 #[opV o, sv] w fun e w' => Below w.heap.size w w' ∧ e = .returned (.tuple #[.agg #[.int .u8 (nextK (t.run s)).1, .int .u32 (nextK (t.run s)).2.1, .int .u32 (nextK (t.run s)).2.2], .bool (nextB (t.run s))]) := by
  have B := ((Below.refl w.heap.size w).alloc (Nat.le_refl _) (.cells #[.int .u8 o.kind, .int .u32 o.who, .int .u32 o.whom, .int .u32 o.what, .int .u32 o.id, .int .u64 o.n, .int .u64 o.price] 29)).alloc (by simp) (.cells #[.int .u8 0, .int .u32 0, .int .u32 0] 52)
  have H := Lib.hid (hand_new (x := w.heap.size + 1 + 1) hs B (by simp) hl ho hv)
  obtain ⟨a, cap, rfl, _⟩ := hs
  go_enter Tryz.func16, Tryz.ntmps16
  go_wp2_with fail
  refine (finish_any t H.out (fun w h => hr _ _ w h)).mono ?_
  rintro e w1 F
  obtain ⟨B1, F⟩ := F.cases
  have hl1 := B1.size
  simp at hl1
  have hh : w.heap.size + 1 < w1.heap.size := by omega
  have c0 := (B1.cell (p := ⟨w.heap.size + 1, 0, none⟩) (by show w.heap.size + 1 < w.heap.size + 1 + 1; omega)).trans (by simp [go_sem] : _ = some (.int .u8 0))
  have c1 := (B1.cell (p := ⟨w.heap.size + 1, 1, none⟩) (by show w.heap.size + 1 < w.heap.size + 1 + 1; omega)).trans (by simp [go_sem] : _ = some (.int .u32 0))
  have c2 := (B1.cell (p := ⟨w.heap.size + 1, 2, none⟩) (by show w.heap.size + 1 < w.heap.size + 1 + 1; omega)).trans (by simp [go_sem] : _ = some (.int .u32 0))
  have f0 := (B1.frozen (p := ⟨w.heap.size + 1, 0, none⟩) (by show w.heap.size + 1 < w.heap.size + 1 + 1; omega)).trans (by simp [go_sem] : _ = false)
  have f1 := (B1.frozen (p := ⟨w.heap.size + 1, 1, none⟩) (by show w.heap.size + 1 < w.heap.size + 1 + 1; omega)).trans (by simp [go_sem] : _ = false)
  have f2 := (B1.frozen (p := ⟨w.heap.size + 1, 2, none⟩) (by show w.heap.size + 1 < w.heap.size + 1 + 1; omega)).trans (by simp [go_sem] : _ = false)
  rcases F with ⟨hb, hk, rfl, F⟩ | ⟨k, hk, rfl⟩
  · go_wp2_with fail
    have BB := ((((B.alloc (by simp; omega) (.cells #[.int .u8 o.kind, .int .u32 o.who, .int .u32 o.whom, .int .u32 o.what, .int .u32 o.id, .int .u64 o.n, .int .u64 o.price, .slice a s.length cap, .slice none 0 0, .int .u16 0, .int .u64 0, .int .u64 0, .int .u64 0] 78)).trans (B1.mono (by omega))).setCell (p := ⟨w.heap.size + 1, 0, none⟩) (by show w.heap.size ≤ w.heap.size + 1; omega) (.int .u8 0)).setCell (p := ⟨w.heap.size + 1, 1, none⟩) (by show w.heap.size ≤ w.heap.size + 1; omega) (.int .u32 0)).setCell (p := ⟨w.heap.size + 1, 2, none⟩) (by show w.heap.size ≤ w.heap.size + 1; omega) (.int .u32 0)
    refine bodyPost_ret (v := .tuple #[.agg #[.int .u8 0, .int .u32 0, .int .u32 0], .bool false]) (by simp [results, Tryz.results16, go_sem, c0, c1, c2]) rfl ⟨BB, by rw [hb.out, hk.out]⟩
  · go_wp2_with fail
    have BB := ((((B.alloc (by simp; omega) (.cells #[.int .u8 o.kind, .int .u32 o.who, .int .u32 o.whom, .int .u32 o.what, .int .u32 o.id, .int .u64 o.n, .int .u64 o.price, .slice a s.length cap, .slice none 0 0, .int .u16 0, .int .u64 0, .int .u64 0, .int .u64 0] 78)).trans (B1.mono (by omega))).setCell (p := ⟨w.heap.size + 1, 0, none⟩) (by show w.heap.size ≤ w.heap.size + 1; omega) (.int .u8 k.1)).setCell (p := ⟨w.heap.size + 1, 1, none⟩) (by show w.heap.size ≤ w.heap.size + 1; omega) (.int .u32 k.2.1)).setCell (p := ⟨w.heap.size + 1, 2, none⟩) (by show w.heap.size ≤ w.heap.size + 1; omega) (.int .u32 k.2.2)
    refine bodyPost_ret (v := .tuple #[.agg #[.int .u8 k.1, .int .u32 k.2.1, .int .u32 k.2.2], .bool true]) (by simp [results, Tryz.results16, go_sem, c0, c1, c2]) rfl ⟨BB, by rw [hk.out]; rfl⟩

theorem Hand.cells9 {x : Nat} {o : OpV} {s : List Cel} {p : List Pt} {r : Rp} {w : World} (h : Hand x o s p r w) : ∃ pv, w.cell? ⟨x, 8, none⟩ = some pv ∧ w.ownsRow (x + 1) 66 6 pv p.length (ptCells p) ∧
    w.cell? ⟨x, 9, none⟩ = some (.int .u16 r.err) ∧ w.cell? ⟨x, 10, none⟩ = some (.int .u64 r.a) ∧ w.cell? ⟨x, 11, none⟩ = some (.int .u64 r.b) ∧ w.cell? ⟨x, 12, none⟩ = some (.int .u64 r.c) := by
  obtain ⟨sv, pv, h1, _, h3, _⟩ := h
  exact ⟨pv, by simp [cell_of_heap h1, handCells], h3, by simp [cell_of_heap h1, handCells], by simp [cell_of_heap h1, handCells], by simp [cell_of_heap h1, handCells], by simp [cell_of_heap h1, handCells]⟩

theorem four_below {w w1 : World} (B : Below w.heap.size w w1) (u0 u1 u2 u3 : Value) (ob : Obj) :
    Below w.heap.size w (((((w1.setCell ⟨w.heap.size + 1, 0, none⟩ u0).setCell ⟨w.heap.size + 1, 1, none⟩ u1).setCell ⟨w.heap.size + 1, 2, none⟩ u2).setCell ⟨w.heap.size + 1, 3, none⟩ u3).alloc ob) :=
  ((((B.setCell (p := ⟨w.heap.size + 1, 0, none⟩) (by show w.heap.size ≤ w.heap.size + 1; omega) u0).setCell (p := ⟨w.heap.size + 1, 1, none⟩) (by show w.heap.size ≤ w.heap.size + 1; omega) u1).setCell (p := ⟨w.heap.size + 1, 2, none⟩) (by show w.heap.size ≤ w.heap.size + 1; omega) u2).setCell (p := ⟨w.heap.size + 1, 3, none⟩) (by show w.heap.size ≤ w.heap.size + 1; omega) u3).alloc (by have := B.size; simpa [World.setCell] using this) ob
theorem four_owns {w1 : World} {n : Nat} {e : TypeId} {pv : Value} {m : Nat} {xs : List Value} (h : w1.ownsRow (n + 1 + 1 + 1) e 6 pv m xs) (u0 u1 u2 u3 : Value) (ob : Obj) :
    (((((w1.setCell ⟨n + 1, 0, none⟩ u0).setCell ⟨n + 1, 1, none⟩ u1).setCell ⟨n + 1, 2, none⟩ u2).setCell ⟨n + 1, 3, none⟩ u3).alloc ob).ownsRow n e 6 pv m xs := by
  refine owns_keep (owns_mono h (by omega)) fun b hb => ?_
  have := owns_lt h hb
  rw [Below.heap_alloc _ _ _ (by simp [World.setCell]; omega), Below.heap_setCell _ _ _ _ (by show b ≠ n + 1; omega), Below.heap_setCell _ _ _ _ (by show b ≠ n + 1; omega), Below.heap_setCell _ _ _ _ (by show b ≠ n + 1; omega), Below.heap_setCell _ _ _ _ (by show b ≠ n + 1; omega)]

set_option maxRecDepth 100000 in
set_option maxHeartbeats 1000000 in
theorem do_any {o : OpV} {s : List Cel} {w : World} {sv : Value} {t : T (List Pt × Rp)} (hs : SeenAt w.heap.size w sv s) (hl : s.length ≤ 4000) (ho : OpOk o) (hv : ∀ c ∈ s, VlOk c.v) (hr : RunsTo o t) :
    Calls Tryz.prog 17 #[opV o, sv] w fun e w' => Below w.heap.size w w' ∧ ∃ v, e = .returned (.tuple #[v, repV (doR (t.run s)).2]) ∧ w'.ownsRow w.heap.size 66 6 v (doR (t.run s)).1.length (ptCells (doR (t.run s)).1) := by
  have B := ((Below.refl w.heap.size w).alloc (Nat.le_refl _) (.cells #[.int .u8 o.kind, .int .u32 o.who, .int .u32 o.whom, .int .u32 o.what, .int .u32 o.id, .int .u64 o.n, .int .u64 o.price] 29)).alloc (by simp) (.cells #[.int .u16 0, .int .u64 0, .int .u64 0, .int .u64 0] 35)
  have H := Lib.hid (hand_new (x := w.heap.size + 1 + 1) hs B (by simp) hl ho hv)
  obtain ⟨a, cap, rfl, _⟩ := hs
  go_enter Tryz.func17, Tryz.ntmps17
  go_wp2_with fail
  refine (finish_any t H.out (fun w h => hr _ _ w h)).mono ?_
  rintro e w1 F
  obtain ⟨B1, F⟩ := F.cases
  have hl1 := B1.size
  simp at hl1
  have hh : w.heap.size + 1 < w1.heap.size := by omega
  have c0 := (B1.cell (p := ⟨w.heap.size + 1, 0, none⟩) (by show w.heap.size + 1 < w.heap.size + 1 + 1; omega)).trans (by simp [go_sem] : _ = some (.int .u16 0))
  have c1 := (B1.cell (p := ⟨w.heap.size + 1, 1, none⟩) (by show w.heap.size + 1 < w.heap.size + 1 + 1; omega)).trans (by simp [go_sem] : _ = some (.int .u64 0))
  have c2 := (B1.cell (p := ⟨w.heap.size + 1, 2, none⟩) (by show w.heap.size + 1 < w.heap.size + 1 + 1; omega)).trans (by simp [go_sem] : _ = some (.int .u64 0))
  have c3 := (B1.cell (p := ⟨w.heap.size + 1, 3, none⟩) (by show w.heap.size + 1 < w.heap.size + 1 + 1; omega)).trans (by simp [go_sem] : _ = some (.int .u64 0))
  have f0 := (B1.frozen (p := ⟨w.heap.size + 1, 0, none⟩) (by show w.heap.size + 1 < w.heap.size + 1 + 1; omega)).trans (by simp [go_sem] : _ = false)
  have f1 := (B1.frozen (p := ⟨w.heap.size + 1, 1, none⟩) (by show w.heap.size + 1 < w.heap.size + 1 + 1; omega)).trans (by simp [go_sem] : _ = false)
  have f2 := (B1.frozen (p := ⟨w.heap.size + 1, 2, none⟩) (by show w.heap.size + 1 < w.heap.size + 1 + 1; omega)).trans (by simp [go_sem] : _ = false)
  have f3 := (B1.frozen (p := ⟨w.heap.size + 1, 3, none⟩) (by show w.heap.size + 1 < w.heap.size + 1 + 1; omega)).trans (by simp [go_sem] : _ = false)
  have B2 := (B.alloc (by simp; omega) (.cells #[.int .u8 o.kind, .int .u32 o.who, .int .u32 o.whom, .int .u32 o.what, .int .u32 o.id, .int .u64 o.n, .int .u64 o.price, .slice a s.length cap, .slice none 0 0, .int .u16 0, .int .u64 0, .int .u64 0, .int .u64 0] 78)).trans (B1.mono (by omega))
  clear B
  rcases F with ⟨hb, hk, rfl, s', F⟩ | ⟨k, hk, rfl⟩
  · have hx := F.lt
    obtain ⟨pv, d8, d, d9, d10, d11, d12⟩ := F.cells9
    have D := Lib.hid d
    clear d F
    go_upto_region 5 with fail
    go_region_with (fail)
    all_goals (
      go_wp2_with fail
      exact bodyPost_ret (v := .tuple #[pv, repV (doR (t.run s)).2]) (by simp [results, Tryz.results17, go_sem, c0, c1, c2, c3, hh]) rfl ⟨(four_below B2 _ _ _ _ _).drew, pv, rfl, (four_owns D.out _ _ _ _ _).drew⟩)
  · go_wp2_with fail
    refine bodyPost_ret (v := .tuple #[.slice none 0 0, repV ⟨1, 0, 0, 0⟩]) (by simp [results, Tryz.results17, go_sem, c0, c1, c2, c3, hh]) rfl ⟨four_below B2 _ _ _ _ _, .slice none 0 0, by rw [hk.out]; rfl, by rw [hk.out]; exact ⟨rfl, .inl ⟨rfl, rfl⟩⟩⟩
end Go.Proofs.YtdbpjbmalinlbaaGreat
