/- Contract of the world's Do. -/
import Derived.Test.YtdbpjbmalinlbaaGreatModE
namespace Go.Proofs.YtdbpjbmalinlbaaGreat
open Go.RowKit

/-- The world of Do: the operation in block N, the answer's box behind it; the cells seen in a row of their own; the key in block KB. -/
structure DoSt (w : World) (o : OpV) (N A b n : Nat) (f : Mp) (u : Value) (KB : Nat) (k : Ky) (cs : List Cel) (wr : World) : Prop where
  below : Below N w wr
  op : wr.heap[N]? = some (.cells #[.int .u8 o.kind, .int .u32 o.who, .int .u32 o.whom, .int .u32 o.what, .int .u32 o.id, .int .u64 o.n, .int .u64 o.price] 29)
  res : wr.heap[N + 1]? = some (.cells #[.int .u16 0, .int .u64 0, .int .u64 0, .int .u64 0] 35)
  key : wr.heap[KB]? = some (.cells #[.int .u8 k.1, .int .u32 k.2.1, .int .u32 k.2.2] 52)
  seen : wr.ownsRow (N + 2) 57 6 u cs.length (celCells cs)
  hKB : N + 2 ≤ KB
  ws : WSt A b n f wr
section
variable {w wr wx w3 : World} {o : OpV} {N A b n : Nat} {f : Mp} {u : Value} {KB : Nat} {k : Ky} {cs : List Cel}
theorem DoSt.lt (L : DoSt w o N A b n f u KB k cs wr) : N + 1 < wr.heap.size := (Array.getElem?_eq_some_iff.1 L.res).1
theorem DoSt.ltK (L : DoSt w o N A b n f u KB k cs wr) : KB < wr.heap.size := (Array.getElem?_eq_some_iff.1 L.key).1
theorem DoSt.apart (L : DoSt w o N A b n f u KB k cs wr) : u.ownBlock ≠ some KB := by
  intro e
  rcases L.seen.2 with ⟨rfl, _⟩ | ⟨g, cap, cur, rfl, _, hg, _⟩
  · simp [Value.ownBlock] at e
  · simp [Value.ownBlock] at e
    subst e
    rw [L.key] at hg
    simp at hg
theorem DoSt.step (L : DoSt w o N A b n f u KB k cs wr) (B : Below wr.heap.size wr wx) : DoSt w o N A b n f u KB k cs wx :=
  have l1 := L.lt
  ⟨L.below.trans (B.mono (by omega)), (B.block _ (by omega)).trans L.op, (B.block _ l1).trans L.res, (B.block _ L.ltK).trans L.key, owns_keep L.seen fun _ hb => B.block _ (owns_lt L.seen hb).2, L.hKB, L.ws.below B⟩
theorem DoSt.cells (L : DoSt w o N A b n f u KB k cs wr) : wr.cell? ⟨N, 0, none⟩ = some (.int .u8 o.kind) ∧ wr.cell? ⟨N, 1, none⟩ = some (.int .u32 o.who) ∧ wr.cell? ⟨N, 2, none⟩ = some (.int .u32 o.whom) ∧ wr.cell? ⟨N, 3, none⟩ = some (.int .u32 o.what) ∧ wr.cell? ⟨N, 4, none⟩ = some (.int .u32 o.id) ∧
    wr.cell? ⟨N, 5, none⟩ = some (.int .u64 o.n) ∧ wr.cell? ⟨N, 6, none⟩ = some (.int .u64 o.price) := by
  refine ⟨?_, ?_, ?_, ?_, ?_, ?_, ?_⟩ <;> simp [cell_of_heap L.op]
theorem DoSt.keys (L : DoSt w o N A b n f u KB k cs wr) : wr.cell? ⟨KB, 0, none⟩ = some (.int .u8 k.1) ∧ wr.cell? ⟨KB, 1, none⟩ = some (.int .u32 k.2.1) ∧ wr.cell? ⟨KB, 2, none⟩ = some (.int .u32 k.2.2) := three_cells L.key
/-- A new key's box. -/
theorem DoSt.newKey (L : DoSt w o N A b n f u KB k cs wr) (k' : Ky) : DoSt w o N A b n f u wr.heap.size k' cs (wr.alloc (.cells #[.int .u8 k'.1, .int .u32 k'.2.1, .int .u32 k'.2.2] 52)) :=
  have L2 := L.step (below_alloc wr (.cells #[.int .u8 k'.1, .int .u32 k'.2.1, .int .u32 k'.2.2] 52))
  ⟨L2.below, L2.op, L2.res, heap_alloc_new _ _, L2.seen, L.lt, L2.ws⟩
theorem DoSt.pushCel {g cap m : Nat} {c : Cel} {ob : Obj} (L : DoSt w o N A b n f u KB k cs wx) (hg : (wx.alloc ob).grownBy w3 u.ownBlock) (hown : w3.ownsRow (N + 2) 57 6 (.slice (some ⟨g, 0, none⟩) m cap) m (celCells cs ++ celRow c))
    (hn : m = cs.length + 1) (hA : A < N) (hb : b < N) : DoSt w o N A b n f (.slice (some ⟨g, 0, none⟩) m cap) KB k (cs ++ [c]) w3 := by
  have lo := L.lt
  have lk := L.ltK
  have ls := fun c hc => owns_lt (b := c) L.seen hc
  have hgs := hg.size
  simp at hgs
  have hlow : ∀ x, x ≤ N + 1 → u.ownBlock ≠ some x := fun x hx e => by have := (ls x e).1; omega
  refine ⟨⟨hg.os.trans L.below.os, hg.tape.trans L.below.tape, hg.output.trans L.below.output, by have := L.below.size; omega, fun x hx => ?_⟩, ?_, ?_, ?_, ?_, L.hKB, ?_⟩
  · exact (grown_heap hg (by omega) (hlow x (by omega))).trans (L.below.block x hx)
  · exact (grown_heap hg (by omega) (hlow N (by omega))).trans L.op
  · exact (grown_heap hg lo (hlow _ (Nat.le_refl _))).trans L.res
  · exact (grown_heap hg lk L.apart).trans L.key
  · rw [celCells_snoc, List.length_append]
    subst hn
    exact hown
  · have L2 := L.ws.below (below_alloc wx ob)
    exact L2.kept hg (fun e => hlow A (by omega) e.symm) (fun e => hlow b (by omega) e.symm)
theorem below_grow {w w' : World} (h : Below w.heap.size w w') (row : Option Nat) : w.grownBy w' row := ⟨h.os, h.tape, h.output, h.size, fun i hi _ => h.block i hi⟩
theorem four_cells {w : World} {B : Nat} {a b c d : Value} {ty : TypeId} {fr : Nat × Nat} (h : w.heap[B]? = some (.cells #[a, b, c, d] ty fr)) :
    w.cell? ⟨B, 0, none⟩ = some a ∧ w.cell? ⟨B, 1, none⟩ = some b ∧ w.cell? ⟨B, 2, none⟩ = some c ∧ w.cell? ⟨B, 3, none⟩ = some d := by
  refine ⟨?_, ?_, ?_, ?_⟩ <;> rw [cell_of_row w B _ _ ty fr h] <;> rfl
/-- A box of four cells is written over. -/
theorem fill4 {B : Nat} {a b c d : Value} {ty : TypeId} (h : wr.heap[B]? = some (.cells #[a, b, c, d] ty)) (a' b' c' d' : Value) :
    ((((wr.setCell ⟨B, 0, none⟩ a').setCell ⟨B, 1, none⟩ b').setCell ⟨B, 2, none⟩ c').setCell ⟨B, 3, none⟩ d').heap[B]? = some (.cells #[a', b', c', d'] ty) := by
  simp [World.setCell, Array.getElem?_modify, h]
theorem fill3 {B : Nat} {a b c : Value} {ty : TypeId} (h : wr.heap[B]? = some (.cells #[a, b, c] ty)) (a' b' c' : Value) :
    (((wr.setCell ⟨B, 0, none⟩ a').setCell ⟨B, 1, none⟩ b').setCell ⟨B, 2, none⟩ c').heap[B]? = some (.cells #[a', b', c'] ty) := by
  simp [World.setCell, Array.getElem?_modify, h]
/-- The key's box is written over. -/
theorem DoSt.setKey (L : DoSt w o N A b n f u KB k cs wr) (k' : Ky) (hA : A < N) (hb : b < N) :
    DoSt w o N A b n f u KB k' cs (((wr.setCell ⟨KB, 0, none⟩ (.int .u8 k'.1)).setCell ⟨KB, 1, none⟩ (.int .u32 k'.2.1)).setCell ⟨KB, 2, none⟩ (.int .u32 k'.2.2)) := by
  have B : Below KB wr (((wr.setCell ⟨KB, 0, none⟩ (.int .u8 k'.1)).setCell ⟨KB, 1, none⟩ (.int .u32 k'.2.1)).setCell ⟨KB, 2, none⟩ (.int .u32 k'.2.2)) :=
    (((Below.refl KB wr).setCell (p := ⟨KB, 0, none⟩) (Nat.le_refl _) _).setCell (p := ⟨KB, 1, none⟩) (Nat.le_refl _) _).setCell (p := ⟨KB, 2, none⟩) (Nat.le_refl _) _
  have hx : ∀ x, x ≠ KB → (((wr.setCell ⟨KB, 0, none⟩ (.int .u8 k'.1)).setCell ⟨KB, 1, none⟩ (.int .u32 k'.2.1)).setCell ⟨KB, 2, none⟩ (.int .u32 k'.2.2)).heap[x]? = wr.heap[x]? := by
    intro x hx
    simp [World.setCell, Array.getElem?_modify, Ne.symm hx]
  have h2 := L.hKB
  have hl := L.ltK
  refine ⟨L.below.trans (B.mono (by omega)), (hx N (by omega)).trans L.op, (hx _ (by omega)).trans L.res, fill3 L.key _ _ _, owns_keep L.seen fun x hx' => hx x (fun e => L.apart (e ▸ hx')), h2, ?_⟩
  have hg : wr.grownBy (((wr.setCell ⟨KB, 0, none⟩ (.int .u8 k'.1)).setCell ⟨KB, 1, none⟩ (.int .u32 k'.2.1)).setCell ⟨KB, 2, none⟩ (.int .u32 k'.2.2)) (some KB) :=
    ⟨B.os, B.tape, B.output, B.size, fun i _ hne => hx i (fun e => hne (by rw [e]))⟩
  exact L.ws.kept hg (by simp; omega) (by simp; omega)
theorem DoSt.next (L : DoSt w o N A b n f u KB k cs wr) (ho : OpOk o) (hc : ∀ c ∈ cs, VlOk c.v) (hl : cs.length ≤ 4000) :
    Calls Tryz.prog 16 #[opV o, u] wr fun e w' => e = .returned (.tuple #[.agg #[.int .u8 (nextK ((runT o).run cs)).1, .int .u32 (nextK ((runT o).run cs)).2.1, .int .u32 (nextK ((runT o).run cs)).2.2], .bool (nextB ((runT o).run cs))]) ∧ Below wr.heap.size wr w' :=
  (next_any (t := runT o) (seen_of_owns L.seen) hl ho hc (run_any o)).mono fun _ _ ⟨h1, h2⟩ => ⟨h2, h1⟩
end
def sliceLen : Value → Nat
  | .slice _ n _ => n
  | _ => 0

set_option maxRecDepth 100000 in
set_option maxHeartbeats 4000000 in
theorem doM_w {A b n : Nat} {f : Mp} {w : World} (S : WSt A b n f w) (hn : n + 200 < maxLen) (hf : MpOk f) (o : OpV) (ho : OpOk o) :
    Calls Tryz.prog 7 #[.pointer (some ⟨A, 0, none⟩), opV o] w fun e w' =>
      e = .returned (.agg #[.int .u16 (ev f (runT o)).2.err, .int .u64 (ev f (runT o)).2.a, .int .u64 (ev f (runT o)).2.b, .int .u64 (ev f (runT o)).2.c]) ∧ WSt A b (n + (ev f (runT o)).1.length) (stepM f o) w' ∧ w.grownBy w' (some b) := by
  obtain ⟨h1, h2, h3, h4, h5, h6, h7⟩ := id ho
  have HO := Lib.hid ho
  have HF := Lib.hid hf
  clear ho hf
  go_enter Tryz.func7, Tryz.ntmps7
  go_upto_region 2 with fail
  obtain ⟨ic, hic, cy0, cy1, cy2⟩ := info_parts Tryz.infoCel
  have hA := S.ltA
  have hb := S.ltb
  have hq0 : (w.alloc (.cells #[.int .u8 o.kind, .int .u32 o.who, .int .u32 o.whom, .int .u32 o.what, .int .u32 o.id, .int .u64 o.n, .int .u64 o.price] 29)).heap.size = w.heap.size + 1 := by simp
  have Bw : Below w.heap.size w ((w.alloc (.cells #[.int .u8 o.kind, .int .u32 o.who, .int .u32 o.whom, .int .u32 o.what, .int .u32 o.id, .int .u64 o.n, .int .u64 o.price] 29)).alloc (.cells #[.int .u16 0, .int .u64 0, .int .u64 0, .int .u64 0] 35)) := (below_alloc w (.cells #[.int .u8 o.kind, .int .u32 o.who, .int .u32 o.whom, .int .u32 o.what, .int .u32 o.id, .int .u64 o.n, .int .u64 o.price] 29)).alloc (by simp) (.cells #[.int .u16 0, .int .u64 0, .int .u64 0, .int .u64 0] 35)
  have q1 := heap_alloc_new w (.cells #[.int .u8 o.kind, .int .u32 o.who, .int .u32 o.whom, .int .u32 o.what, .int .u32 o.id, .int .u64 o.n, .int .u64 o.price] 29)
  replace q1 := ((below_alloc (w.alloc (.cells #[.int .u8 o.kind, .int .u32 o.who, .int .u32 o.whom, .int .u32 o.what, .int .u32 o.id, .int .u64 o.n, .int .u64 o.price] 29)) (.cells #[.int .u16 0, .int .u64 0, .int .u64 0, .int .u64 0] 35)).block _ (by simp)).trans q1
  have q2 := heap_alloc_new (w.alloc (.cells #[.int .u8 o.kind, .int .u32 o.who, .int .u32 o.whom, .int .u32 o.what, .int .u32 o.id, .int .u64 o.n, .int .u64 o.price] 29)) (.cells #[.int .u16 0, .int .u64 0, .int .u64 0, .int .u64 0] 35)
  rw [hq0] at q2
  obtain ⟨w0, hw0⟩ : ∃ v, v = (w.alloc (.cells #[.int .u8 o.kind, .int .u32 o.who, .int .u32 o.whom, .int .u32 o.what, .int .u32 o.id, .int .u64 o.n, .int .u64 o.price] 29)).alloc (.cells #[.int .u16 0, .int .u64 0, .int .u64 0, .int .u64 0] 35) := ⟨_, rfl⟩
  rw [← hw0] at Bw q1 q2 ⊢
  clear hw0 hq0
  have S0 := S.below Bw
  have g0 := below_grow Bw (some b)
  have lq : w.heap.size + 1 < w0.heap.size := (Array.getElem?_eq_some_iff.1 q2).1
  obtain ⟨N, hN⟩ : ∃ N, N = w.heap.size := ⟨_, rfl⟩
  rw [← hN] at q1 q2 hA hb Bw lq ⊢
  clear S
  replace hN := Lib.hid hN
  have hNx := next_any (t := runT o) (seen_nil w0) (by simp) HO.out (by simp) (run_any o)
  have c0 : w0.cell? ⟨N, 0, none⟩ = some (.int .u8 o.kind) := by simp [cell_of_heap q1]
  have c1 : w0.cell? ⟨N, 1, none⟩ = some (.int .u32 o.who) := by simp [cell_of_heap q1]
  have c2 : w0.cell? ⟨N, 2, none⟩ = some (.int .u32 o.whom) := by simp [cell_of_heap q1]
  have c3 : w0.cell? ⟨N, 3, none⟩ = some (.int .u32 o.what) := by simp [cell_of_heap q1]
  have c4 : w0.cell? ⟨N, 4, none⟩ = some (.int .u32 o.id) := by simp [cell_of_heap q1]
  have c5 : w0.cell? ⟨N, 5, none⟩ = some (.int .u64 o.n) := by simp [cell_of_heap q1]
  have c6 : w0.cell? ⟨N, 6, none⟩ = some (.int .u64 o.price) := by simp [cell_of_heap q1]
  obtain ⟨r0, hr0⟩ : ∃ r, r = (runT o).run [] := ⟨_, rfl⟩
  rw [← hr0] at hNx
  replace q1 := Lib.hid q1
  replace q2 := Lib.hid q2
  go_wp2_with (go_at_call 16; refine hNx.mono ?_; rintro e w1 ⟨B1, rfl⟩)
  have L0 : DoSt w o N A b n f (.slice none 0 0) w1.heap.size (nextK r0) [] (w1.alloc (.cells #[.int .u8 (nextK r0).1, .int .u32 (nextK r0).2.1, .int .u32 (nextK r0).2.2] 52)) := by
    have B2 := below_trans B1 (below_alloc w1 (.cells #[.int .u8 (nextK r0).1, .int .u32 (nextK r0).2.1, .int .u32 (nextK r0).2.2] 52))
    have := B1.size
    exact ⟨Bw.trans (B2.mono (by omega)), (B2.block _ (by omega)).trans q1.out, (B2.block _ (by omega)).trans q2.out, heap_alloc_new _ _, ⟨rfl, .inl ⟨rfl, rfl⟩⟩, by omega, S0.below B2⟩
  clear hNx c0 c1 c2 c3 c4 c5 c6 B1 S0 q1 q2 Bw
  rw [hr0] at L0
  go_loopw [5, 6, 7] (fun u p m wr => ∃ (cs : List Cel) (KB : Nat), p = .pointer (some ⟨KB, 0, none⟩) ∧ m = .bool (nextB ((runT o).run cs)) ∧ Hid (Follows f (runT o) cs) ∧ Hid (∀ c ∈ cs, VlOk c.v) ∧ cs.length ≤ 12 ∧ Hid (DoSt w o N A b n f u KB (nextK ((runT o).run cs)) cs wr)) (fun u _ _ _ => 13 - sliceLen u)
  case atStart => exact ⟨[], _, rfl, rfl, Lib.hid (by unfold Follows; trivial), Lib.hid (by simp), by simp, Lib.hid L0⟩
  case round =>
    clear L0
    obtain ⟨cs, KB, rfl, rfl, HFo, HV, hc12, L⟩ := hrel
    replace L := L.out
    obtain ⟨a8, c8, rfl⟩ := owns_shape L.seen
    by_cases hnd : ∃ k, (runT o).run cs = .need k
    · obtain ⟨k, hr⟩ := hnd
      have hk := Neat.asks HF.out (neat_run HO.out) HFo.out hr
      have hlt := follows_short HO.out hr
      have hK : nextK ((runT o).run cs) = k := by rw [hr]; rfl
      have hB : nextB ((runT o).run cs) = true := by rw [hr]; rfl
      rw [hK] at L
      rw [hB]
      have HR := Lib.hid hr
      clear hr hK hB
      have hsn := Follows.snoc HFo.out HR.out
      obtain ⟨v, hv⟩ : ∃ v, v = (f k).getD (0, 0) := ⟨_, rfl⟩
      obtain ⟨is, his⟩ : ∃ i, i = (f k).isSome := ⟨_, rfl⟩
      have hce : celAt f k = ⟨k, v, is⟩ := by rw [hv, his]; rfl
      have hvo : VlOk v := by have := celAt_ok HF.out k; rw [hce] at this; exact this
      rw [hce] at hsn
      have HG := get_w L.ws k hk v is hv.symm his.symm
      replace hsn := Lib.hid hsn
      clear hv his hce
      obtain ⟨k0, k1, k2⟩ := L.keys
      have lK := L.ltK
      go_upto_region 6 with (go_at_call 13; refine HG.mono ?_; rintro e w2 ⟨rfl, B2⟩)
      have L3 := (L.step B2).step (below_alloc w2 (.cells #[.int .u64 v.1, .int .u64 v.2] 48))
      have vb := heap_alloc_new w2 (.cells #[.int .u64 v.1, .int .u64 v.2] 48)
      obtain ⟨VB, hVB⟩ : ∃ b, b = w2.heap.size := ⟨_, rfl⟩
      obtain ⟨w3, hw3⟩ : ∃ x, x = w2.alloc (.cells #[.int .u64 v.1, .int .u64 v.2] 48) := ⟨_, rfl⟩
      rw [← hw3] at L3 vb ⊢
      rw [← hVB] at vb ⊢
      clear hw3 hVB HG B2 L k0 k1 k2 lK
      obtain ⟨k0, k1, k2⟩ := L3.keys
      have lK := L3.ltK
      obtain ⟨v0, v1⟩ := two_cells vb
      have lV : VB < w3.heap.size := (Array.getElem?_eq_some_iff.1 vb).1
      have hnewc := Lib.hid (heap_alloc_new w3 (.cells #[.int .u8 k.1, .int .u32 k.2.1, .int .u32 k.2.2, .int .u64 v.1, .int .u64 v.2, .bool is] 57))
      have hlo3 := L3.lt
      replace vb := Lib.hid vb
      go_upto_region 7 with (first
        | (refine wpList_append_lies _ (by rfl) _ _ _ (by rfl) (N + 2) 57 ic _ 6 40 Tryz.underlying30 hic cy0 cy1 cy2 rfl (by omega) (.slice a8 cs.length c8) cs.length (celCells cs) (by rfl) (L3.seen.alloc _)
                ⟨w3.heap.size, 0, none⟩ 1 1 (celRow ⟨k, v, is⟩) (by rfl) (by rfl) (World.news_of_block hnewc.out) (by simp [Value.oneCell', celRow])
                (by omega) (by unfold maxLen; omega) (by omega) (by simp; omega) (w3.heap.size + 1) (by simp) ?_
           intro gg gcap w4 hown hgrow hat hltg))
      have L4 := L3.pushCel (c := ⟨k, v, is⟩) hgrow hown rfl hA hb
      clear hown hgrow hat hltg L3 k0 k1 k2 lK v0 v1 lV hnewc hlo3 vb
      obtain ⟨k0, k1, k2⟩ := L4.keys
      have lK := L4.ltK
      go_upto_region 4 with fail
      have L5 := L4.newKey k
      obtain ⟨K2, hK2⟩ : ∃ b, b = w4.heap.size := ⟨_, rfl⟩
      obtain ⟨w5, hw5⟩ : ∃ x, x = w4.alloc (.cells #[.int .u8 k.1, .int .u32 k.2.1, .int .u32 k.2.2] 52) := ⟨_, rfl⟩
      rw [← hw5] at L5 ⊢
      rw [← hK2] at L5 ⊢
      clear hw5 hK2 L4 k0 k1 k2 lK
      have HV2 : Hid (∀ c ∈ cs ++ [⟨k, v, is⟩], VlOk c.v) := Lib.hid (fun c hc => (List.mem_append.1 hc).elim (HV.out c) (fun h => by obtain rfl := List.mem_singleton.1 h; exact hvo))
      have hNx := L5.next HO.out HV2.out (by simp; omega)
      obtain ⟨c0, c1, c2, c3, c4, c5, c6⟩ := L5.cells
      have hlo5 := L5.lt
      obtain ⟨cs', hcs'⟩ : ∃ c, c = cs ++ [⟨k, v, is⟩] := ⟨_, rfl⟩
      have hlen' : Hid (cs'.length = cs.length + 1) := Lib.hid (by rw [hcs']; simp)
      rw [← hcs'] at hNx L5 HV2
      have hsn' : Hid (Follows f (runT o) cs') := Lib.hid (hcs' ▸ hsn.out)
      clear hsn HV HFo hcs'
      obtain ⟨r1, hr1⟩ : ∃ r, r = (runT o).run cs' := ⟨_, rfl⟩
      rw [← hr1] at hNx
      replace hr1 := Lib.hid hr1
      have hW : ∀ w6, Below w5.heap.size w5 w6 → DoSt w o N A b n f (.slice (some ⟨gg, 0, none⟩) (cs.length + 1) gcap) K2 k cs' w6 := fun w6 B => L5.step B
      go_wp2_with (go_at_call 16; refine hNx.mono ?_; rintro e w6 ⟨rfl, B6⟩; have L6 := hW _ B6; have kb6 := L6.key; have f0 := frozen_of_heap kb6 0; have f1 := frozen_of_heap kb6 1; have f2 := frozen_of_heap kb6 2; obtain ⟨k0, k1, k2⟩ := L6.keys; have lK := L6.ltK; replace kb6 := Lib.hid kb6)
      have L7 := L6.setKey (nextK r1) hA hb
      go_roundw
      case rel => exact ⟨cs', K2, rfl, by rw [hr1.out], hsn', HV2, by have := hlen'.out; omega, by rw [← hr1.out]; exact Lib.hid L7⟩
      case measure => show 13 - (cs.length + 1) < 13 - cs.length; omega
    · have hnr : ∀ k, (runT o).run cs ≠ .need k := fun k h => hnd ⟨k, h⟩
      have hB : nextB ((runT o).run cs) = false := by
        cases h : (runT o).run cs with
        | need k => exact absurd h (hnr k)
        | ok a s => rfl
        | over c => rfl
      rw [hB]
      have hD := do_any (t := runT o) (seen_of_owns L.seen) (by omega) HO.out HV.out (run_any o)
      rw [HFo.out.ev hnr] at hD
      have hPO := Neat.ev HF.out (neat_run HO.out)
      obtain ⟨D, hDD⟩ : ∃ D, D = ev f (runT o) := ⟨_, rfl⟩
      have hst : stepM f o = putsL f D.1 := by rw [hDD]; rfl
      rw [← hDD] at hD hPO
      clear hnr hnd hB HFo HV
      obtain ⟨l, r⟩ := D
      dsimp only at hD hst
      replace hDD := Lib.hid hDD
      replace hst := Lib.hid hst
      have hl100 : l.length ≤ 100 := hPO.1
      replace hPO := Lib.hid hPO.2
      obtain ⟨c0, c1, c2, c3, c4, c5, c6⟩ := L.cells
      have hlo := L.lt
      go_wp2_with (go_at_call 17; refine hD.mono ?_; rintro e w2 ⟨B2, v, rfl, hput⟩; obtain ⟨al, cl, rfl⟩ := owns_shape hput)
      have L2 := (L.step B2).step (below_alloc w2 (.cells #[.int .u16 r.err, .int .u64 r.a, .int .u64 r.b, .int .u64 r.c] 35))
      have hput2 := hput.alloc (.cells #[.int .u16 r.err, .int .u64 r.a, .int .u64 r.b, .int .u64 r.c] 35)
      have yb := heap_alloc_new w2 (.cells #[.int .u16 r.err, .int .u64 r.a, .int .u64 r.b, .int .u64 r.c] 35)
      have hNR : N + 2 ≤ wr.heap.size := by omega
      have hRB : N + 2 ≤ w2.heap.size := by have := B2.size; omega
      obtain ⟨RB, hRBe⟩ : ∃ x, x = w2.heap.size := ⟨_, rfl⟩
      obtain ⟨w4, hw4⟩ : ∃ x, x = w2.alloc (.cells #[.int .u16 r.err, .int .u64 r.a, .int .u64 r.b, .int .u64 r.c] 35) := ⟨_, rfl⟩
      rw [← hw4] at L2 hput2 yb ⊢
      rw [← hRBe] at hRB yb ⊢
      clear hw4 hRBe hD B2 hput c0 c1 c2 c3 c4 c5 c6
      have hS4 := L2.ws
      have hg4 : w.grownBy w4 (some b) := by
        have := L2.below
        rw [hN.out] at this
        exact below_grow this _
      have hres4 := L2.res
      have lRB : RB < w4.heap.size := (Array.getElem?_eq_some_iff.1 yb).1
      have l14 : N + 1 < w4.heap.size := L2.lt
      replace hput2 := Lib.hid hput2
      replace yb := Lib.hid yb
      replace hres4 := Lib.hid hres4
      clear L2 L hlo
      go_loopw [49] (fun i wx => ∃ j : Nat, j ≤ l.length ∧ i = .int .i64 (j : Int) ∧ Hid (WSt A b (n + j) (putsL f (l.take j)) wx) ∧ Hid (w4.grownBy wx (some b))) (fun i _ => l.length - (intOf i).toNat)
      case atStart => exact ⟨0, Nat.zero_le _, rfl, Lib.hid hS4, Lib.hid ⟨rfl, rfl, rfl, Nat.le_refl _, fun _ _ _ => rfl⟩⟩
      case round =>
        clear hS4
        obtain ⟨j, hj, rfl, S, G⟩ := hrel
        by_cases hjl : j < l.length
        · have hput := owns_keep hput2.out fun x hx => G.out.block x (owns_lt hput2.out hx).2 (by have := (owns_lt hput2.out hx).1; simp; omega)
          obtain ⟨g, rfl⟩ := owns_row hput (by omega)
          obtain ⟨q, hq⟩ : ∃ q, l[j]? = some q := ⟨_, List.getElem?_eq_getElem hjl⟩
          obtain ⟨d0, d1, d2, d3, d4, d5, ld⟩ := put_cells hput hq
          have hqo := hPO.out q (List.mem_of_getElem? hq)
          have hsn := Lib.hid (putsL_take (f := f) hq)
          have hl1 : (j : Int) < (l.length : Int) := by omega
          clear hput hq
          have S1 := S.out.below (below_alloc wr (.cells #[.int .u8 q.k.1, .int .u32 q.k.2.1, .int .u32 q.k.2.2, .int .u64 q.v.1, .int .u64 q.v.2, .bool q.gone] 66))
          have G1 := G.out.andThen (World.grownBy_alloc wr (.cells #[.int .u8 q.k.1, .int .u32 q.k.2.1, .int .u32 q.k.2.2, .int .u64 q.v.1, .int .u64 q.v.2, .bool q.gone] 66) none) (fun _ h => by cases h)
          have pb := heap_alloc_new wr (.cells #[.int .u8 q.k.1, .int .u32 q.k.2.1, .int .u32 q.k.2.2, .int .u64 q.v.1, .int .u64 q.v.2, .bool q.gone] 66)
          go_upto_region 13 with fail
          obtain ⟨PB, hPB⟩ : ∃ x, x = wr.heap.size := ⟨_, rfl⟩
          obtain ⟨w6, hw6⟩ : ∃ x, x = wr.alloc (.cells #[.int .u8 q.k.1, .int .u32 q.k.2.1, .int .u32 q.k.2.2, .int .u64 q.v.1, .int .u64 q.v.2, .bool q.gone] 66) := ⟨_, rfl⟩
          rw [← hw6] at S1 G1 pb ⊢
          rw [← hPB] at pb ⊢
          have lPB : PB < w6.heap.size := (Array.getElem?_eq_some_iff.1 pb).1
          clear hw6 hPB d0 d1 d2 d3 d4 d5 ld S G
          obtain ⟨p0, p1, p2, p3, p4, p5⟩ := six_cells pb
          have hP := put_w S1 (by omega) q hqo.1
          go_wp2_with (go_at_call 18; refine hP.mono ?_; rintro e w7 ⟨rfl, S7, G7⟩)
          go_roundw
          case rel => exact ⟨j + 1, by omega, by go_num, by rw [hsn.out]; exact Lib.hid S7, Lib.hid (G1.andThen G7 (fun _ h => .inr h))⟩
          case measure => simp [intOf]; omega
        · obtain rfl : j = l.length := by omega
          rw [List.take_length] at S
          have hne : (some RB : Option Nat) ≠ some b := by simp; omega
          have hne2 : (some (N + 1) : Option Nat) ≠ some b := by simp; omega
          have zb := (G.out.block RB lRB hne).trans yb.out
          have rb := (G.out.block (N + 1) l14 hne2).trans hres4.out
          obtain ⟨y0, y1, y2, y3⟩ := four_cells zb
          obtain ⟨x0, x1, x2, x3⟩ := four_cells rb
          have f0 := frozen_of_heap rb 0
          have f1 := frozen_of_heap rb 1
          have f2 := frozen_of_heap rb 2
          have f3 := frozen_of_heap rb 3
          have lRB2 : RB < wr.heap.size := (Array.getElem?_eq_some_iff.1 zb).1
          have lN2 : N + 1 < wr.heap.size := (Array.getElem?_eq_some_iff.1 rb).1
          have hRN : ¬ RB = N + 1 := by omega
          replace zb := Lib.hid zb
          go_wp2_with fail
          have hfin := fill4 rb (.int .u16 r.err) (.int .u64 r.a) (.int .u64 r.b) (.int .u64 r.c)
          have B9 : Below (N + 1) wr ((((wr.setCell ⟨N + 1, 0, none⟩ (.int .u16 r.err)).setCell ⟨N + 1, 1, none⟩ (.int .u64 r.a)).setCell ⟨N + 1, 2, none⟩ (.int .u64 r.b)).setCell ⟨N + 1, 3, none⟩ (.int .u64 r.c)) :=
            ((((Below.refl (N + 1) wr).setCell (p := ⟨N + 1, 0, none⟩) (Nat.le_refl _) _).setCell (p := ⟨N + 1, 1, none⟩) (Nat.le_refl _) _).setCell (p := ⟨N + 1, 2, none⟩) (Nat.le_refl _) _).setCell (p := ⟨N + 1, 3, none⟩) (Nat.le_refl _) _
          have hx9 : ∀ x, x ≠ N + 1 → ((((wr.setCell ⟨N + 1, 0, none⟩ (.int .u16 r.err)).setCell ⟨N + 1, 1, none⟩ (.int .u64 r.a)).setCell ⟨N + 1, 2, none⟩ (.int .u64 r.b)).setCell ⟨N + 1, 3, none⟩ (.int .u64 r.c)).heap[x]? = wr.heap[x]? := by
            intro x hx
            simp [World.setCell, Array.getElem?_modify, Ne.symm hx]
          obtain ⟨w9, hw9⟩ : ∃ x, x = ((((wr.setCell ⟨N + 1, 0, none⟩ (.int .u16 r.err)).setCell ⟨N + 1, 1, none⟩ (.int .u64 r.a)).setCell ⟨N + 1, 2, none⟩ (.int .u64 r.b)).setCell ⟨N + 1, 3, none⟩ (.int .u64 r.c)) := ⟨_, rfl⟩
          rw [← hw9] at hfin B9 hx9 ⊢
          clear hw9
          obtain ⟨z0, z1, z2, z3⟩ := four_cells hfin
          have G9 : wr.grownBy w9 (some (N + 1)) := ⟨B9.os, B9.tape, B9.output, B9.size, fun i _ hne => hx9 i (fun e => hne (by rw [e]))⟩
          have S9 := S.out.kept G9 (by simp; omega) (by simp; omega)
          have GW := (hg4.andThen G.out (fun _ h => .inr h)).andThen G9 (fun x h => by cases h; have := hN.out; left; omega)
          rw [← hst.out] at S9
          have e2 : (ev f (runT o)) = (l, r) := hDD.out.symm
          refine bodyPost_ret (v := .agg #[.int .u16 r.err, .int .u64 r.a, .int .u64 r.b, .int .u64 r.c]) (by simp [results, Tryz.results7, go_sem, z0, z1, z2, z3]) rfl ?_
          rw [e2]
          exact ⟨rfl, S9, GW⟩
end Go.Proofs.YtdbpjbmalinlbaaGreat
