/- The shelf: things that are looked up and changed, in order. -/
import Derived.Test.YtdbpjbmalinlbaaGreatRulY
import Derived.StillTactics
import Derived.Laws.Pointers
import Derived.Deep.RegionLaw
import Derived.Deep.AppendLies
namespace Go.Proofs.YtdbpjbmalinlbaaGreat
open Go.RowKit

theorem Tryz.infoKey : (Tryz.prog.info? 52).map (fun i => (i.zero, i.size, i.bytes)) = some (some (.agg #[.int .u8 0, .int .u32 0, .int .u32 0]), 3, 12) := by kernel_rfl
theorem Tryz.infoU64 : (Tryz.prog.info? 27).map (fun i => (i.zero, i.size, i.bytes)) = some (some (.int .u64 0), 1, 8) := by kernel_rfl

def keysCells (l : List Ky) : List Value := l.flatMap keyRow
def amtCells (l : List Int) : List Value := l.map (.int .u64 ·)
theorem keysCells_snoc (l : List Ky) (k : Ky) : keysCells (l ++ [k]) = keysCells l ++ keyRow k := by simp [keysCells]
theorem amtCells_snoc (l : List Int) (a : Int) : amtCells (l ++ [a]) = amtCells l ++ [.int .u64 a] := by simp [amtCells]

/-- A shelf in block SB. -/
def ShelfR (SB : Nat) (kv av : Value) (ks : List Ky) (am : List Int) (w : World) : Prop :=
  w.heap[SB]? = some (.cells #[kv, av] 145 (0, 0)) ∧ w.ownsRow (SB + 1) 52 3 kv ks.length (keysCells ks) ∧ w.ownsRow (SB + 1) 27 1 av am.length (amtCells am) ∧ ∀ b, kv.ownBlock = some b → av.ownBlock ≠ some b
/-- What a call on a shelf leaves am it was. -/
structure Chg (SB : Nat) (kv av : Value) (w w' : World) : Prop where
  os : w'.os = w.os
  tape : w'.tape = w.tape
  output : w'.output = w.output
  size : w.heap.size ≤ w'.heap.size
  block : ∀ b, b < w.heap.size → b ≠ SB → kv.ownBlock ≠ some b → av.ownBlock ≠ some b → w'.heap[b]? = w.heap[b]?

theorem shelf_mid {SB : Nat} {kv av : Value} {ks : List Ky} {am : List Int} {k : Ky} {w W w1 : World} {gg gcap n : Nat} (h : ShelfR SB kv av ks am w) (B : Below w.heap.size w W) (hg : W.grownBy w1 kv.ownBlock)
    (hown : w1.ownsRow (SB + 1) 52 3 (.slice (some ⟨gg, 0, none⟩) n gcap) n (keysCells ks ++ keyRow k)) (hn : n = ks.length + 1) (hat : kv.ownBlock = some gg ∨ gg = W.heap.size) :
    ShelfR SB (.slice (some ⟨gg, 0, none⟩) n gcap) av (ks ++ [k]) am (w1.setCell ⟨SB, 0, none⟩ (.slice (some ⟨gg, 0, none⟩) n gcap)) ∧ Chg SB kv av w (w1.setCell ⟨SB, 0, none⟩ (.slice (some ⟨gg, 0, none⟩) n gcap)) ∧ (kv.ownBlock = some gg ∨ w.heap.size ≤ gg) := by
  obtain ⟨h1, h2, h3, h4⟩ := h
  have hS := (Array.getElem?_eq_some_iff.1 h1).1
  have hBs := B.size
  have hgs := hg.size
  have lk := fun b hb => owns_lt (b := b) h2 hb
  have la := fun b hb => owns_lt (b := b) h3 hb
  have lg := owns_lt (b := gg) hown rfl
  have hblk : ∀ b, b < w.heap.size → b ≠ SB → kv.ownBlock ≠ some b → (w1.setCell ⟨SB, 0, none⟩ (.slice (some ⟨gg, 0, none⟩) n gcap)).heap[b]? = w.heap[b]? := by
    intro b hb n1 n2
    rw [Below.heap_setCell _ _ _ _ n1, hg.block b (by omega) (fun hq => n2 hq.symm)]
    exact B.block b hb
  have hSB : w1.heap[SB]? = w.heap[SB]? := by
    rw [hg.block SB (by omega) (fun hq => by have := (lk SB hq.symm).1; omega)]
    exact B.block SB hS
  refine ⟨⟨?_, ?_, ?_, ?_⟩, ⟨?_, ?_, ?_, ?_, fun b hb n1 n2 _ => hblk b hb n1 n2⟩, ?_⟩
  · simp [World.setCell, Array.getElem?_modify, hSB, h1]
  · have hl : (ks ++ [k]).length = n := by simp [hn]
    rw [hl, keysCells_snoc]
    exact owns_keep hown fun b hb => Below.heap_setCell _ _ _ _ (by simp [Value.ownBlock] at hb; show b ≠ SB; omega)
  · exact owns_keep h3 fun b hb => hblk b (la b hb).2 (by have := (la b hb).1; omega) (fun hq => h4 b hq hb)
  · intro b hb hq
    simp [Value.ownBlock] at hb
    subst hb
    rcases hat with hat | hat
    · exact h4 _ hat hq
    · have := (la _ hq).2; omega
  · exact hg.os.trans B.os
  · exact hg.tape.trans B.tape
  · exact hg.output.trans B.output
  · simp [World.setCell]; omega
  · rcases hat with hat | hat
    · exact .inl hat
    · exact .inr (by omega)
theorem shelf_mid2 {SB : Nat} {kv av : Value} {ks : List Ky} {am : List Int} {a : Int} {w W w1 : World} {gg gcap n : Nat} (h : ShelfR SB kv av ks am w) (B : Below w.heap.size w W) (hg : W.grownBy w1 av.ownBlock)
    (hown : w1.ownsRow (SB + 1) 27 1 (.slice (some ⟨gg, 0, none⟩) n gcap) n (amtCells am ++ [.int .u64 a])) (hn : n = am.length + 1) (hat : av.ownBlock = some gg ∨ gg = W.heap.size) :
    ShelfR SB kv (.slice (some ⟨gg, 0, none⟩) n gcap) ks (am ++ [a]) (w1.setCell ⟨SB, 1, none⟩ (.slice (some ⟨gg, 0, none⟩) n gcap)) ∧ Chg SB kv av w (w1.setCell ⟨SB, 1, none⟩ (.slice (some ⟨gg, 0, none⟩) n gcap)) ∧ (av.ownBlock = some gg ∨ w.heap.size ≤ gg) := by
  obtain ⟨h1, h2, h3, h4⟩ := h
  have hS := (Array.getElem?_eq_some_iff.1 h1).1
  have hBs := B.size
  have hgs := hg.size
  have lk := fun b hb => owns_lt (b := b) h2 hb
  have la := fun b hb => owns_lt (b := b) h3 hb
  have lg := owns_lt (b := gg) hown rfl
  have hblk : ∀ b, b < w.heap.size → b ≠ SB → av.ownBlock ≠ some b → (w1.setCell ⟨SB, 1, none⟩ (.slice (some ⟨gg, 0, none⟩) n gcap)).heap[b]? = w.heap[b]? := by
    intro b hb n1 n2
    rw [Below.heap_setCell _ _ _ _ n1, hg.block b (by omega) (fun hq => n2 hq.symm)]
    exact B.block b hb
  have hSB : w1.heap[SB]? = w.heap[SB]? := by
    rw [hg.block SB (by omega) (fun hq => by have := (la SB hq.symm).1; omega)]
    exact B.block SB hS
  refine ⟨⟨?_, ?_, ?_, ?_⟩, ⟨?_, ?_, ?_, ?_, fun b hb n1 _ n2 => hblk b hb n1 n2⟩, ?_⟩
  · simp [World.setCell, Array.getElem?_modify, hSB, h1]
  · exact owns_keep h2 fun b hb => hblk b (lk b hb).2 (by have := (lk b hb).1; omega) (h4 b hb)
  · have hl : (am ++ [a]).length = n := by simp [hn]
    rw [hl, amtCells_snoc]
    exact owns_keep hown fun b hb => Below.heap_setCell _ _ _ _ (by simp [Value.ownBlock] at hb; show b ≠ SB; omega)
  · intro b hb hq
    simp [Value.ownBlock] at hq
    subst hq
    rcases hat with hat | hat
    · exact h4 _ hb hat
    · have := (lk _ hb).2; omega
  · exact hg.os.trans B.os
  · exact hg.tape.trans B.tape
  · exact hg.output.trans B.output
  · simp [World.setCell]; omega
  · rcases hat with hat | hat
    · exact .inl hat
    · exact .inr (by omega)
theorem Chg.trans {SB : Nat} {kv av kv' : Value} {a b c : World} (h : Chg SB kv av a b) (g : Chg SB kv' av b c) (hk : ∀ q, kv'.ownBlock = some q → kv.ownBlock = some q ∨ a.heap.size ≤ q) : Chg SB kv av a c :=
  ⟨g.os.trans h.os, g.tape.trans h.tape, g.output.trans h.output, Nat.le_trans h.size g.size, fun q hq n1 n2 n3 => (g.block q (Nat.lt_of_lt_of_le hq h.size) n1 (fun e => by rcases hk q e with e | e; exact n2 e; omega) n3).trans (h.block q hq n1 n2 n3)⟩

set_option maxRecDepth 100000 in
set_option maxHeartbeats 2000000 in
theorem add_any' (SB : Nat) (kv av : Value) (ks : List Ky) (am : List Int) (k : Ky) (a : Int) (w : World) (h : ShelfR SB kv av ks am w) (hk : ks.length ≤ 100) (ha : am.length ≤ 100) :
    Calls Tryz.prog 89 #[.pointer (some ⟨SB, 0, none⟩), .agg #[.int .u8 k.1, .int .u32 k.2.1, .int .u32 k.2.2], .int .u64 a] w fun e w' => e = .returned (.tuple #[]) ∧
      ∃ kv' av', ShelfR SB kv' av' (ks ++ [k]) (am ++ [a]) w' ∧ Chg SB kv av w w' ∧ (∀ b, kv'.ownBlock = some b → kv.ownBlock = some b ∨ w.heap.size ≤ b) ∧ (∀ b, av'.ownBlock = some b → av.ownBlock = some b ∨ w.heap.size ≤ b) := by
  obtain ⟨i0, hi, hz0, hz1, hz2⟩ := info_parts Tryz.infoKey
  obtain ⟨i1, hj, hy0, hy1, hy2⟩ := info_parts Tryz.infoU64
  obtain ⟨h1, h2, h3, h4⟩ := h
  have hS := (Array.getElem?_eq_some_iff.1 h1).1
  have c0 : w.cell? ⟨SB, 0, none⟩ = some kv := by simp [cell_of_heap h1]
  have c1 : w.cell? ⟨SB, 1, none⟩ = some av := by simp [cell_of_heap h1]
  have f0 := frozen_of_heap h1 0
  have f1 := frozen_of_heap h1 1
  have H1 := Lib.hid h1
  have H2 := Lib.hid h2
  have H3 := Lib.hid h3
  have H4 := Lib.hid h4
  clear h1 h2 h3 h4
  have hS1 : SB < w.heap.size + 1 := by omega
  have hS2 : SB < w.heap.size + 1 + 1 := by omega
  have hne : some SB ≠ kv.ownBlock := fun hq => by have := (owns_lt H2.out hq.symm).1; omega
  have hne2 : some SB ≠ av.ownBlock := fun hq => by have := (owns_lt H3.out hq.symm).1; omega
  have hnew : Hid (((w.alloc (.cells #[.int .u8 k.1, .int .u32 k.2.1, .int .u32 k.2.2] 52)).alloc (.cells #[.int .u8 k.1, .int .u32 k.2.1, .int .u32 k.2.2] 52)).drew.heap[w.heap.size + 1]? = some (.cells #[.int .u8 k.1, .int .u32 k.2.1, .int .u32 k.2.2] 52 (0, 0))) := by
    have := heap_alloc_new (w.alloc (.cells #[.int .u8 k.1, .int .u32 k.2.1, .int .u32 k.2.2] 52)) (.cells #[.int .u8 k.1, .int .u32 k.2.1, .int .u32 k.2.2] 52)
    rw [World.size_alloc] at this
    exact Lib.hid this
  go_enter Tryz.func89, Tryz.ntmps89
  go_upto_region 1 with fail
  go_region_law (first
    | (refine step_append_lies _ (by rfl) _ _ _ (by rfl) (SB + 1) 52 i0 _ 3 12 Tryz.underlying143 hi hz0 hz1 hz2 rfl (by omega) kv ks.length (keysCells ks) (by rfl) (((H2.out.alloc _).alloc _).drew)
            ⟨w.heap.size + 1, 0, none⟩ 1 1 (keyRow k) (by rfl) (by rfl) (World.news_of_block hnew.out) (by simp [Value.oneCell', keyRow])
            (by omega) (by unfold maxLen; omega) (by omega) (by simp; omega) (w.heap.size + 1 + 1) (by simp) ?_
       intro gg gcap w1 hown' hgrow hat hlt'
       have g8 : w1.cell? ⟨SB, 0, none⟩ = some kv := (hgrow.cell_far _ (by simp; omega) hne).trans ((Below.cell (((Below.refl w.heap.size w).alloc (Nat.le_refl _) _).alloc (by simp) _).drew hS).trans c0)
       have g9 : w1.cell? ⟨SB, 1, none⟩ = some av := (hgrow.cell_far _ (by simp; omega) hne).trans ((Below.cell (((Below.refl w.heap.size w).alloc (Nat.le_refl _) _).alloc (by simp) _).drew hS).trans c1)
       have gf : w1.frozen? ⟨SB, 0, none⟩ = false := (hgrow.frozen_far _ (by simp; omega) hne).trans ((Below.frozen (((Below.refl w.heap.size w).alloc (Nat.le_refl _) _).alloc (by simp) _).drew hS).trans f0)
       have gf1 : w1.frozen? ⟨SB, 1, none⟩ = false := (hgrow.frozen_far _ (by simp; omega) hne).trans ((Below.frozen (((Below.refl w.heap.size w).alloc (Nat.le_refl _) _).alloc (by simp) _).drew hS).trans f1)
       have lS1 : SB < w1.heap.size := by have := hgrow.size; simp at this; omega))
  all_goals (
    obtain ⟨hR, hC, hG⟩ := shelf_mid ⟨H1.out, H2.out, H3.out, H4.out⟩ (((Below.refl w.heap.size w).alloc (Nat.le_refl _) _).alloc (by simp) _).drew hgrow hown' rfl (by simpa using hat)
    generalize w1.setCell ⟨SB, 0, none⟩ (.slice (some ⟨gg, 0, none⟩) (ks.length + 1) gcap) = w2 at hR hC ⊢
    clear hown' hgrow g8 g9 gf gf1 hnew
    have HR := Lib.hid hR
    obtain ⟨r1, r2, r3, r4⟩ := hR
    have d1 : w2.cell? ⟨SB, 1, none⟩ = some av := by simp [cell_of_heap r1]
    have e1 := frozen_of_heap r1 1
    have lS2 := (Array.getElem?_eq_some_iff.1 r1).1
    have lS3 : SB < w2.heap.size + 1 := by omega
    have R3 := Lib.hid r3
    clear r1 r2 r3 r4
    have hnew2 := Lib.hid (heap_alloc_new w2 (.cells #[.int .u64 a] 27))
    go_wp2_with (first
      | (refine wpList_append_lies _ (by rfl) _ _ _ (by rfl) (SB + 1) 27 i1 _ 1 8 Tryz.underlying68 hj hy0 hy1 hy2 rfl (by omega) av am.length (amtCells am) (by rfl) (R3.out.alloc _)
              ⟨w2.heap.size, 0, none⟩ 1 1 [.int .u64 a] (by rfl) (by rfl) (World.news_of_block hnew2.out) (by simp [Value.oneCell'])
              (by omega) (by unfold maxLen; omega) (by omega) (by simp; omega) (w2.heap.size + 1) (by simp) ?_
         intro gg2 gcap2 w3 hown2 hgrow2 hat2 hlt2
         have g1 : w3.cell? ⟨SB, 1, none⟩ = some av := (hgrow2.cell_far _ (by simp; omega) hne2).trans ((Below.cell (below_alloc w2 _) lS2).trans d1)
         have gf : w3.frozen? ⟨SB, 1, none⟩ = false := (hgrow2.frozen_far _ (by simp; omega) hne2).trans ((Below.frozen (below_alloc w2 _) lS2).trans e1)
         have lS4 : SB < w3.heap.size := by have := hgrow2.size; simp at this; omega))
    go_end0
    obtain ⟨hR2, hC2, hG2⟩ := shelf_mid2 HR.out (below_alloc w2 _) hgrow2 hown2 rfl (by simpa using hat2)
    refine ⟨rfl, _, _, hR2, hC.trans hC2 (fun q hq => ?_), fun q hq => ?_, fun q hq => ?_⟩
    · simp [Value.ownBlock] at hq
      subst hq
      exact hG
    · simp [Value.ownBlock] at hq
      subst hq
      exact hG
    · simp [Value.ownBlock] at hq
      subst hq
      rcases hG2 with h | h
      · exact .inl h
      · exact .inr (by have := hC.size; omega))

section
variable {x SB : Nat} {o : OpV} {w0 w w' : World} {R : Res (List Pt × Rp)} {s : List Cel} {p : List Pt} {r : Rp} {t : T (List Pt × Rp)} {ks : List Ky} {am : List Int}

/-- A shelf that has nothing to do with the hand. -/
def Shelf (x SB : Nat) (ks : List Ky) (am : List Int) (w : World) : Prop :=
  ∃ kv av, ShelfR SB kv av ks am w ∧ Far x w SB ∧ (∀ b, kv.ownBlock = some b → Far x w b) ∧ ∀ b, av.ownBlock = some b → Far x w b
theorem Shelf.new (h : St x o w0 R p r t s w) : Shelf x w.heap.size [] [] (w.alloc (.cells #[.slice none 0 0, .slice none 0 0] 145)) :=
  ⟨.slice none 0 0, .slice none 0 0, ⟨heap_alloc_new w _, ⟨rfl, .inl ⟨rfl, rfl⟩⟩, ⟨rfl, .inl ⟨rfl, rfl⟩⟩, by simp [Value.ownBlock]⟩, h.hand.farNew _, by simp [Value.ownBlock], by simp [Value.ownBlock]⟩
theorem Shelf.step (h : Shelf x SB ks am w) (S : Step x w w') : Shelf x SB ks am w' := by
  obtain ⟨kv, av, ⟨h1, h2, h3, h4⟩, f1, f2, f3⟩ := h
  exact ⟨kv, av, ⟨(S.block _ f1).trans h1, owns_keep h2 fun b hb => S.block _ (f2 b hb), owns_keep h3 fun b hb => S.block _ (f3 b hb), h4⟩, S.far _ f1, fun b hb => S.far _ (f2 b hb), fun b hb => S.far _ (f3 b hb)⟩
theorem St.add {k : Ky} {a : Int} (H : St x o w0 R p r t s w) (A : Shelf x SB ks am w) (hx0 : x < w0.heap.size) (hSB : w0.heap.size ≤ SB) (hk : ks.length ≤ 100) (ha : am.length ≤ 100) :
    Calls Tryz.prog 89 #[.pointer (some ⟨SB, 0, none⟩), .agg #[.int .u8 k.1, .int .u32 k.2.1, .int .u32 k.2.2], .int .u64 a] w fun e w' => e = .returned (.tuple #[]) ∧
      St x o w0 R p r t s w' ∧ Shelf x SB (ks ++ [k]) (am ++ [a]) w' ∧ ∀ B ob, B < SB → Box x B ob w → Box x B ob w' := by
  obtain ⟨kv, av, hR, f1, f2, f3⟩ := A
  refine (add_any' SB kv av ks am k a w hR hk ha).mono fun e w' ⟨he, kv', av', hR', C, gk, ga⟩ => ?_
  have lk := fun b hb => owns_lt (b := b) hR.2.1 hb
  have la := fun b hb => owns_lt (b := b) hR.2.2.1 hb
  have lk' := fun b hb => owns_lt (b := b) hR'.2.1 hb
  have la' := fun b hb => owns_lt (b := b) hR'.2.2.1 hb
  have hxw := H.lt
  have hX : w'.heap[x]? = w.heap[x]? := C.block x hxw (fun e => f1.2.1 e.symm) (fun e => (f2 x e).2.1 rfl) (fun e => (f3 x e).2.1 rfl)
  have hfar : ∀ b, Far x w b → Far x w' b := fun b hb => ⟨Nat.lt_of_lt_of_le hb.1 C.size, hb.2.1, fun cs ty fr pv h1 h2 => hb.2.2 cs ty fr pv (by rw [← hX]; exact h1) h2⟩
  have hold : ∀ b, b < w.heap.size → b < SB → w'.heap[b]? = w.heap[b]? := fun b hb hlt => C.block b hb (by omega) (fun e => by have := (lk b e).1; omega) (fun e => by have := (la b e).1; omega)
  obtain ⟨S, Hh, hRes⟩ := H
  have hnewfar : ∀ b, w.heap.size ≤ b → b < w'.heap.size → Far x w' b := by
    obtain ⟨sv, pv, h1, _, h3, _⟩ := Hh
    intro b hb hb'
    refine ⟨hb', by omega, fun cs ty fr qv h5 h6 h7 => ?_⟩
    rw [hX, h1] at h5
    cases h5
    simp [handCells] at h6
    subst h6
    have := (owns_lt h3 h7).2
    omega
  refine ⟨he, ⟨⟨⟨C.os.trans S.below.os, C.tape.trans S.below.tape, C.output.trans S.below.output, Nat.le_trans S.size C.size, fun b hb => ?_⟩, fun b hb => hfar b (S.far b hb), fun b hb => ?_⟩, Hh.keep fun b hb hc => ?_, hRes⟩, ⟨kv', av', hR', hfar _ f1, fun b hb => ?_, fun b hb => ?_⟩, fun B ob hB hbox => ⟨hfar _ hbox.1, (hold B hbox.lt hB).trans hbox.2⟩⟩
  · exact (hold b (by omega) (by omega)).trans (S.below.block b hb)
  · exact (hold b (S.far b hb).1 (by have := hb.1; omega)).trans (S.block b hb)
  · rcases hc with hc | hc
    · exact hold b hb (by omega)
    · exact C.block b hb (fun e => hc (e ▸ f1)) (fun e => hc (f2 b e)) (fun e => hc (f3 b e))
  · rcases gk b hb with e | e
    · exact hfar b (f2 b e)
    · exact hnewfar b e (lk' b hb).2
  · rcases ga b hb with e | e
    · exact hfar b (f3 b e)
    · exact hnewfar b e (la' b hb).2

/-- A shelf whose rows are known by their blocks. -/
def ShelfF (x SB gk ck ga ca n : Nat) (ks : List Ky) (am : List Int) (w : World) : Prop :=
  ks.length = n ∧ am.length = n ∧ ShelfR SB (.slice (some ⟨gk, 0, none⟩) n ck) (.slice (some ⟨ga, 0, none⟩) n ca) ks am w ∧ Far x w SB ∧ Far x w gk ∧ Far x w ga
theorem Shelf.fix {n : Nat} (A : Shelf x SB ks am w) (hk : ks.length = n) (ha : am.length = n) (hn : 0 < n) : ∃ gk ck ga ca, ShelfF x SB gk ck ga ca n ks am w := by
  obtain ⟨kv, av, ⟨h1, h2, h3, h4⟩, f1, f2, f3⟩ := A
  rcases h2.2 with ⟨_, h⟩ | ⟨gk, ck, _, rfl, _⟩
  · omega
  · rcases h3.2 with ⟨_, h⟩ | ⟨ga, ca, _, rfl, _⟩
    · omega
    · subst hk
      rw [ha] at h1 h3 h4 f3
      exact ⟨gk, ck, ga, ca, rfl, ha, ⟨h1, h2, by rw [ha]; exact h3, h4⟩, f1, f2 gk rfl, f3 ga rfl⟩
theorem ShelfF.step {gk ck ga ca n : Nat} (A : ShelfF x SB gk ck ga ca n ks am w) (S : Step x w w') : ShelfF x SB gk ck ga ca n ks am w' := by
  obtain ⟨a1, a2, ⟨h1, h2, h3, h4⟩, f1, f2, f3⟩ := A
  exact ⟨a1, a2, ⟨(S.block _ f1).trans h1, owns_keep h2 fun b hb => by simp [Value.ownBlock] at hb; subst hb; exact S.block _ f2, owns_keep h3 fun b hb => by simp [Value.ownBlock] at hb; subst hb; exact S.block _ f3, h4⟩, S.far _ f1, S.far _ f2, S.far _ f3⟩
theorem ShelfF.facts {gk ck ga ca n : Nat} (A : ShelfF x SB gk ck ga ca n ks am w) :
    w.cell? ⟨SB, 0, none⟩ = some (.slice (some ⟨gk, 0, none⟩) n ck) ∧ w.cell? ⟨SB, 1, none⟩ = some (.slice (some ⟨ga, 0, none⟩) n ca) ∧ SB < w.heap.size ∧ gk < w.heap.size ∧ ga < w.heap.size ∧ (∀ j, w.frozen? ⟨ga, j, none⟩ = false) ∧ SB < ga ∧ x ≠ ga := by
  obtain ⟨a1, a2, ⟨h1, h2, h3, h4⟩, f1, f2, f3⟩ := A
  rw [a2] at h3
  exact ⟨by simp [cell_of_heap h1], by simp [cell_of_heap h1], f1.1, f2.1, f3.1, fun j => h3.frozenAt j, (owns_lt h3 rfl).1, fun e => f3.2.1 e.symm⟩
theorem ShelfF.amt {gk ck ga ca n : Nat} (A : ShelfF x SB gk ck ga ca n ks am w) {j : Nat} {a : Int} (hj : am[j]? = some a) : w.cell? ⟨ga, j, none⟩ = some (.int .u64 a) := by
  obtain ⟨a1, a2, ⟨h1, h2, h3, h4⟩, f1, f2, f3⟩ := A
  have hlt := (List.getElem?_eq_some_iff.1 hj).1
  have hl : j < am.length * 1 := by omega
  have := (h3 : w.ownsRow _ _ _ _ _ _)
  rw [a2] at this
  have := this.cellAt j (by omega)
  rw [this]
  simp [amtCells, hj]
theorem ShelfF.key {gk ck ga ca n : Nat} (A : ShelfF x SB gk ck ga ca n ks am w) {j : Nat} {k : Ky} (hj : ks[j]? = some k) :
    w.cell? ⟨gk, j * 3, none⟩ = some (.int .u8 k.1) ∧ w.cell? ⟨gk, j * 3 + 1, none⟩ = some (.int .u32 k.2.1) ∧ w.cell? ⟨gk, j * 3 + 2, none⟩ = some (.int .u32 k.2.2) := by
  obtain ⟨a1, a2, ⟨h1, h2, h3, h4⟩, f1, f2, f3⟩ := A
  have hlt := (List.getElem?_eq_some_iff.1 hj).1
  rw [a1] at h2
  have key : ∀ (l : List Ky) (j : Nat), l[j]? = some k → (keysCells l)[j * 3]? = some (.int .u8 k.1) ∧ (keysCells l)[j * 3 + 1]? = some (.int .u32 k.2.1) ∧ (keysCells l)[j * 3 + 2]? = some (.int .u32 k.2.2) := by
    intro l
    induction l with
    | nil => intro j h; simp at h
    | cons q l ih =>
      intro j h
      have hc : keysCells (q :: l) = keyRow q ++ keysCells l := by simp [keysCells]
      rw [hc]
      cases j with
      | zero => simp at h; subst h; simp [keyRow]
      | succ j =>
        have := ih j (by simpa using h)
        have e : ∀ i, (keyRow q ++ keysCells l)[(j + 1) * 3 + i]? = (keysCells l)[j * 3 + i]? := by
          intro i
          rw [List.getElem?_append_right (by simp [keyRow]; omega)]
          congr 1
          simp [keyRow]; omega
        exact ⟨(e 0).trans this.1, (e 1).trans this.2.1, (e 2).trans this.2.2⟩
  obtain ⟨e0, e1, e2⟩ := key ks j hj
  exact ⟨(h2.cellAt (j * 3) (by omega)).trans e0, (h2.cellAt (j * 3 + 1) (by omega)).trans e1, (h2.cellAt (j * 3 + 2) (by omega)).trans e2⟩
theorem ShelfF.pick {gk ck ga ca n j : Nat} (A : ShelfF x SB gk ck ga ca n ks am w) (hj : j < n) : ∃ k a, ks[j]? = some k ∧ am[j]? = some a := by
  obtain ⟨a1, a2, _⟩ := A
  exact ⟨_, _, List.getElem?_eq_getElem (by omega), List.getElem?_eq_getElem (by omega)⟩
theorem ShelfF.world {gk ck ga ca n : Nat} (_ : ShelfF x SB gk ck ga ca n ks am w) : ∃ v, v = w := ⟨w, rfl⟩
/-- An amount is written over. -/
theorem ShelfF.set {gk ck ga ca n : Nat} (A : ShelfF x SB gk ck ga ca n ks am w) (H : St x o w0 R p r t s w) (hx0 : x < w0.heap.size) (hSB : w0.heap.size ≤ SB) (j : Nat) (v : Int) :
    St x o w0 R p r t s (w.setCell ⟨ga, j, none⟩ (.int .u64 v)) ∧ ShelfF x SB gk ck ga ca n ks (am.set j v) (w.setCell ⟨ga, j, none⟩ (.int .u64 v)) ∧ ∀ B ob, B < SB → Box x B ob w → Box x B ob (w.setCell ⟨ga, j, none⟩ (.int .u64 v)) := by
  obtain ⟨a1, a2, ⟨h1, h2, h3, h4⟩, f1, f2, f3⟩ := A
  have lg := (owns_lt (b := ga) h3 rfl).1
  have nk : gk ≠ ga := fun e => h4 gk rfl (by rw [e]; rfl)
  refine ⟨H.setFar (q := ⟨ga, j, none⟩) hx0 f3 (by show w0.heap.size ≤ ga; omega) _, ⟨a1, by simpa using a2, ⟨(Below.heap_setCell _ _ _ _ (by show SB ≠ ga; omega)).trans h1, owns_keep h2 fun b hb => ?_, ?_, h4⟩, f1.setCell (by show ga ≠ x; exact f3.2.1) _, f2.setCell (by show ga ≠ x; exact f3.2.1) _, f3.setCell (by show ga ≠ x; exact f3.2.1) _⟩, fun B ob hB hb => hb.other (q := ⟨ga, j, none⟩) (by show ga ≠ B; omega) f3.2.1 _⟩
  · simp [Value.ownBlock] at hb
    subst hb
    exact Below.heap_setCell _ _ _ _ nk
  · rw [a2] at h3
    have := (h3.stored j (.int .u64 v)).1
    have e : (amtCells am).set j (.int .u64 v) = amtCells (am.set j v) := by simp [amtCells, List.map_set]
    rw [e] at this
    rw [List.length_set, a2]
    exact this
end
end Go.Proofs.YtdbpjbmalinlbaaGreat
