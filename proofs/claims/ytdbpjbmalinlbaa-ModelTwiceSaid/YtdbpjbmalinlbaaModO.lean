/- The walk of ModelTwice. -/
import Derived.Test.YtdbpjbmalinlbaaModN
namespace Go.Proofs.Ytdbpjbmalinlbaa
open Go.RowKit

/-- Operations that came in. -/
def OpsIn (w : World) (lv : Value) (ops : List OpV) : Prop :=
  (∃ a cap, lv = .slice a ops.length cap ∧ ops.length ≤ cap ∧ (ops = [] ∨ ∃ b off, a = some ⟨b, off, none⟩ ∧ b < w.heap.size ∧ ∀ i o, ops[i]? = some o →
    w.cell? ⟨b, off + i * 7, none⟩ = some (.int .u8 o.kind) ∧ w.cell? ⟨b, off + i * 7 + 1, none⟩ = some (.int .u32 o.who) ∧ w.cell? ⟨b, off + i * 7 + 2, none⟩ = some (.int .u32 o.whom) ∧ w.cell? ⟨b, off + i * 7 + 3, none⟩ = some (.int .u32 o.what) ∧
    w.cell? ⟨b, off + i * 7 + 4, none⟩ = some (.int .u32 o.id) ∧ w.cell? ⟨b, off + i * 7 + 5, none⟩ = some (.int .u64 o.n) ∧ w.cell? ⟨b, off + i * 7 + 6, none⟩ = some (.int .u64 o.price))) ∧ ∀ o ∈ ops, OpOk o
/-- Cells that came in, keys and all. -/
def CelsIn (w : World) (sv : Value) (s : List Cel) : Prop := SeenAt w.heap.size w sv s ∧ ∀ c ∈ s, KyOk c.k ∧ VlOk c.v

theorem ops_seven {w : World} {a : Option Addr} {n c : Nat} {ops : List OpV} (h : OpsIn w (.slice a n c) ops) {i : Nat} {o : OpV} (hi : ops[i]? = some o) :
    ∃ b off, a = some ⟨b, off, none⟩ ∧ b < w.heap.size ∧ w.cell? ⟨b, off + i * 7, none⟩ = some (.int .u8 o.kind) ∧ w.cell? ⟨b, off + i * 7 + 1, none⟩ = some (.int .u32 o.who) ∧ w.cell? ⟨b, off + i * 7 + 2, none⟩ = some (.int .u32 o.whom) ∧ w.cell? ⟨b, off + i * 7 + 3, none⟩ = some (.int .u32 o.what) ∧
    w.cell? ⟨b, off + i * 7 + 4, none⟩ = some (.int .u32 o.id) ∧ w.cell? ⟨b, off + i * 7 + 5, none⟩ = some (.int .u64 o.n) ∧ w.cell? ⟨b, off + i * 7 + 6, none⟩ = some (.int .u64 o.price) := by
  obtain ⟨⟨a', c', hv, _, h⟩, _⟩ := h
  cases hv
  rcases h with rfl | ⟨b, off, ha, hb, h⟩
  · simp at hi
  · exact ⟨b, off, ha, hb, h i o hi⟩

theorem ofS_other {f : Mp} {c : Cel} {k : Ky} (h : c.k ≠ k) : ofS f c k = f k := by
  unfold ofS
  split
  · unfold Mp.put; rw [if_neg (fun e => h e.symm)]
  · rfl
theorem fold_other {l : List Cel} {k : Ky} (h : ∀ c ∈ l, c.k ≠ k) : ∀ f : Mp, (l.foldl ofS f) k = f k := by
  induction l with
  | nil => intro f; rfl
  | cons c l ih =>
    intro f
    rw [List.foldl_cons, ih (fun a ha => h a (by simp [ha])), ofS_other (h c (by simp))]
theorem fold_there : ∀ {l : List Cel} {c : Cel} (f : Mp), l.Pairwise (fun a b => a.k ≠ b.k) → c ∈ l → c.is = true → (l.foldl ofS f) c.k = some c.v
  | [], _, _, _, h, _ => by simp at h
  | a :: l, c, f, p, h, hi => by
    obtain ⟨p1, p2⟩ := List.pairwise_cons.1 p
    rw [List.foldl_cons]
    rcases List.mem_cons.1 h with e | h
    · subst e
      rw [fold_other (fun b hb e => p1 b hb e.symm)]
      unfold ofS Mp.put
      rw [if_pos hi, if_pos rfl]
    · exact fold_there _ p2 h hi
/-- A world that is made of what another one tells is that one. -/
theorem ofL_all {f : Mp} {l : List Cel} (h : IsAll f l) : ofL l = f := by
  funext k
  unfold ofL
  cases e : f k with
  | some v =>
    obtain ⟨c, hc, rfl⟩ := h.all k v e
    obtain ⟨hi, _, hv⟩ := h.there c hc
    rw [fold_there _ h.apart hc hi, ← hv, e]
  | none =>
    refine fold_other (fun c hc ek => ?_) _
    have := (h.there c hc).2.2
    rw [ek, e] at this
    cases this
theorem ofS_ok {f : Mp} (h : MpOk f) {c : Cel} (hc : KyOk c.k ∧ VlOk c.v) : MpOk (ofS f c) := by
  intro k v e
  unfold ofS at e
  split at e
  · unfold Mp.put at e
    split at e
    · rename_i hk
      cases e
      exact ⟨hk ▸ hc.1, hc.2⟩
    · exact h k v e
  · exact h k v e
theorem ofL_ok {l : List Cel} (h : ∀ c ∈ l, KyOk c.k ∧ VlOk c.v) : MpOk (ofL l) := by
  unfold ofL
  have : ∀ (l : List Cel) (f : Mp), MpOk f → (∀ c ∈ l, KyOk c.k ∧ VlOk c.v) → MpOk (l.foldl ofS f) := by
    intro l
    induction l with
    | nil => exact fun f hf _ => hf
    | cons c l ih => exact fun f hf hl => ih _ (ofS_ok hf (hl c (by simp))) fun a ha => hl a (by simp [ha])
  exact this l _ (fun _ _ e => by cases e) h
theorem WSt.mono {A b n n' : Nat} {f : Mp} {w : World} (S : WSt A b n f w) (h : n ≤ n') : WSt A b n' f w := ⟨S.cell, S.is.mono h⟩
theorem step_len {f : Mp} (hf : MpOk f) {o : OpV} (ho : OpOk o) : (ev f (runT o)).1.length ≤ 100 := (Neat.ev hf (neat_run ho)).1
/-- A Do, told by bounds. -/
theorem doM_b {A b n : Nat} {f : Mp} {w : World} (S : WSt A b n f w) (hn : n + 200 < maxLen) (hf : MpOk f) (o : OpV) (ho : OpOk o) :
    Calls Try.prog 35 #[.pointer (some ⟨A, 0, none⟩), .agg #[.int .u8 o.kind, .int .u32 o.who, .int .u32 o.whom, .int .u32 o.what, .int .u32 o.id, .int .u64 o.n, .int .u64 o.price]] w fun e w' =>
      e = .returned (.agg #[.int .u16 (ev f (runT o)).2.err, .int .u64 (ev f (runT o)).2.a, .int .u64 (ev f (runT o)).2.b, .int .u64 (ev f (runT o)).2.c]) ∧ WSt A b (n + 100) (stepM f o) w' ∧ w.grownBy w' (some b) :=
  (doM_w S hn hf o ho).mono fun _ _ ⟨h1, h2, h3⟩ => ⟨h1, h2.mono (by have := step_len hf ho; omega), h3⟩

set_option maxRecDepth 100000 in
set_option maxHeartbeats 4000000 in
theorem modelTwice_walk (w : World) (s : List Cel) (sv : Value) (hs : CelsIn w sv s) (ops : List OpV) (lv : Value) (ho : OpsIn w lv ops) :
    Calls Try.prog 8 #[sv, lv] w fun e w' => e = .returned (.bool true) ∧ Below w.heap.size w w' := by
  obtain ⟨a, cap, rfl, hq1, hq2⟩ := id hs.1
  obtain ⟨⟨a2, cap2, rfl, hq3, hq4⟩, hq5⟩ := id ho
  clear hq1 hq2 hq3 hq4 hq5
  have HS := Lib.hid hs
  have HO := Lib.hid ho
  clear hs ho
  by_cases hl : (60 : Int) < (s.length : Int)
  · go_enter Try.func8, Try.ntmps8
    go_wp2_with (go_at_call 32; refine (modelKnown_any _).mono ?_; rintro e w1 ⟨rfl, B1⟩)
    go_ret
    exact ⟨rfl, B1⟩
  by_cases hl2 : (40 : Int) < (ops.length : Int)
  · go_enter Try.func8, Try.ntmps8
    go_wp2_with (go_at_call 32; refine (modelKnown_any _).mono ?_; rintro e w1 ⟨rfl, B1⟩)
    go_ret
    exact ⟨rfl, B1⟩
  have hl' : s.length ≤ 60 := by omega
  have hl2' : ops.length ≤ 40 := by omega
  have hfo := ofL_ok HS.out.2
  go_enter Try.func8, Try.ntmps8
  go_upto_region 3 with (go_at_call 32; refine (modelKnown_any _).mono ?_; rintro e w1 ⟨rfl, B1⟩)
  have hOf := of_w w1 s (.slice a s.length cap) ((HS.out.1.keep fun b hb => B1.block b hb).mono B1.size) (fun c hc => (HS.out.2 c hc).1) (by omega)
  obtain ⟨N, hN⟩ : ∃ N, N = w1.heap.size := ⟨_, rfl⟩
  rw [← hN] at hOf
  have lN : w.heap.size ≤ N := by have := B1.size; omega
  clear hN
  go_upto_region 6 with (go_at_call 33; refine hOf.mono ?_; rintro e w2 ⟨rfl, S2, B2⟩)
  have BB2 := B1.trans (B2.mono lN)
  have hW := all_w S2 (by omega) hfo
  clear hOf B1 B2 HS
  have l2 : N + 1 < w2.heap.size := S2.ltA
  have hOf2 : ∀ w3 v l, IsAll (ofL s) l → l.length ≤ s.length → w3.ownsRow w2.heap.size 49 6 v l.length (celCells l) → Calls Try.prog 33 #[v] w3 fun e w' => e = .returned (.pointer (some ⟨w3.heap.size + 1, 0, none⟩)) ∧ WSt (w3.heap.size + 1) w3.heap.size s.length (ofL s) w' ∧ Below w3.heap.size w3 w' := by
    intro w3 v l hA hll ho3
    refine (of_w w3 l v (seen_of_owns ho3) (fun c hc => (hA.there c hc).2.1) (by omega)).mono ?_
    rintro e w' ⟨h1, h2, h3⟩
    rw [ofL_all hA] at h2
    exact ⟨h1, h2.mono hll, h3⟩
  go_upto_region 7 with (first
    | (go_at_call 34; refine hW.mono ?_; rintro e w3 ⟨v, l, rfl, hA, hll, ho3, B3⟩; have hO3 := hOf2 w3 v l hA hll ho3; clear hA hll ho3)
    | (go_at_call 33; refine hO3.mono ?_; rintro e w4 ⟨rfl, Sb, B4⟩))
  have B34 := below_trans B3 B4
  have Sa := S2.below B34
  have BB4 := BB2.trans (B34.mono (by omega))
  have hM : w2.heap.size ≤ w3.heap.size := B3.size
  obtain ⟨M, hMe⟩ : ∃ M, M = w3.heap.size := ⟨_, rfl⟩
  rw [← hMe] at Sb hM ⊢
  clear hMe hO3 hOf2 hW B3 B4 B34 S2 BB2
  replace Sa := Sa.mono (show s.length ≤ 100 by omega)
  replace Sb := Sb.mono (show s.length ≤ 100 by omega)
  have l4 : M + 1 < w4.heap.size := Sb.ltA
  go_wp2_with fail
  go_loopw [7] (fun i wr => ∃ (j : Nat) (f : Mp), j ≤ ops.length ∧ i = .int .i64 (j : Int) ∧ Hid (MpOk f) ∧ Hid (WSt (N + 1) N (100 + 100 * j) f wr) ∧ Hid (WSt (M + 1) M (100 + 100 * j) f wr) ∧ Hid (Below w.heap.size w wr)) (fun i _ => ops.length - (intOf i).toNat)
  case atStart => exact ⟨0, ofL s, Nat.zero_le _, rfl, Lib.hid hfo, Lib.hid Sa, Lib.hid Sb, Lib.hid BB4⟩
  case round =>
    clear Sa Sb BB4 hfo l4
    obtain ⟨j, f, hj, rfl, hf, Sa, Sb, B⟩ := hrel
    by_cases hlt : j < ops.length
    · obtain ⟨o, hq⟩ : ∃ q, ops[j]? = some q := ⟨_, List.getElem?_eq_getElem hlt⟩
      have hoo := HO.out.2 o (List.mem_of_getElem? hq)
      obtain ⟨bb, off, rfl, hb, x0, x1, x2, x3, x4, x5, x6⟩ := ops_seven HO.out hq
      have hl1 : (j : Int) < (ops.length : Int) := by omega
      have hfs := hf.out.step hoo
      have hDa := doM_b Sa.out (by unfold maxLen; omega) hf.out o hoo
      obtain ⟨r, hr⟩ : ∃ r, r = (ev f (runT o)).2 := ⟨_, rfl⟩
      have hDb : ∀ wx, WSt (M + 1) M (100 + 100 * j) f wx → Calls Try.prog 35 #[.pointer (some ⟨M + 1, 0, none⟩), .agg #[.int .u8 o.kind, .int .u32 o.who, .int .u32 o.whom, .int .u32 o.what, .int .u32 o.id, .int .u64 o.n, .int .u64 o.price]] wx fun e w' =>
          e = .returned (.agg #[.int .u16 r.err, .int .u64 r.a, .int .u64 r.b, .int .u64 r.c]) ∧ WSt (M + 1) M (100 + 100 * j + 100) (stepM f o) w' ∧ wx.grownBy w' (some M) := fun wx Sx => by rw [hr]; exact doM_b Sx (by unfold maxLen; omega) hf.out o hoo
      rw [← hr] at hDa
      obtain ⟨g, hg⟩ : ∃ g, g = stepM f o := ⟨_, rfl⟩
      rw [← hg] at hDa hDb hfs
      clear hr hg hq hoo
      have lNr : N + 1 < wr.heap.size := Sa.out.ltA
      have lMr : M + 1 < wr.heap.size := Sb.out.ltA
      replace x0 := (B.out.cell (p := ⟨bb, off + j * 7, none⟩) hb).trans x0
      replace x1 := (B.out.cell (p := ⟨bb, off + j * 7 + 1, none⟩) hb).trans x1
      replace x2 := (B.out.cell (p := ⟨bb, off + j * 7 + 2, none⟩) hb).trans x2
      replace x3 := (B.out.cell (p := ⟨bb, off + j * 7 + 3, none⟩) hb).trans x3
      replace x4 := (B.out.cell (p := ⟨bb, off + j * 7 + 4, none⟩) hb).trans x4
      replace x5 := (B.out.cell (p := ⟨bb, off + j * 7 + 5, none⟩) hb).trans x5
      replace x6 := (B.out.cell (p := ⟨bb, off + j * 7 + 6, none⟩) hb).trans x6
      go_upto_region 11 with (go_at_call 35; refine hDa.mono ?_; rintro e y1 ⟨rfl, Sa1, Ga1⟩)
      have Sb1 := Sb.out.kept Ga1 (by simp; omega) (by simp; omega)
      have B1 : Below w.heap.size w y1 := B.out.trans (below_grown Ga1 B.out.size (fun x h => by cases h; exact lN))
      have Sa2 := Sa1.below (below_alloc y1 (.cells #[.int .u16 r.err, .int .u64 r.a, .int .u64 r.b, .int .u64 r.c] 41))
      have Sb2 := Sb1.below (below_alloc y1 (.cells #[.int .u16 r.err, .int .u64 r.a, .int .u64 r.b, .int .u64 r.c] 41))
      have B2 := B1.alloc B1.size (.cells #[.int .u16 r.err, .int .u64 r.a, .int .u64 r.b, .int .u64 r.c] 41)
      have r1 := heap_alloc_new y1 (.cells #[.int .u16 r.err, .int .u64 r.a, .int .u64 r.b, .int .u64 r.c] 41)
      have G2 := Ga1.andThen (World.grownBy_alloc y1 (.cells #[.int .u16 r.err, .int .u64 r.a, .int .u64 r.b, .int .u64 r.c] 41) none) (fun _ h => by cases h)
      obtain ⟨c1, hce⟩ : ∃ x, x = y1.heap.size := ⟨_, rfl⟩
      obtain ⟨y2, hye⟩ : ∃ x, x = y1.alloc (.cells #[.int .u16 r.err, .int .u64 r.a, .int .u64 r.b, .int .u64 r.c] 41) := ⟨_, rfl⟩
      have hc1M : M + 1 < y1.heap.size := Sb1.ltA
      have hc1N : N + 1 < y1.heap.size := Sa1.ltA
      rw [← hye] at Sa2 Sb2 B2 r1 G2 ⊢
      rw [← hce] at r1 hc1M hc1N ⊢
      clear hce hye hDa Sa1 Sb1 Ga1 B1 Sa Sb
      have ln : bb < wr.heap.size := Nat.lt_of_lt_of_le hb B.out.size
      have hbb : (some bb : Option Nat) ≠ some N := by simp; omega
      replace x0 := (G2.cell_far ⟨bb, off + j * 7, none⟩ ln hbb).trans x0
      replace x1 := (G2.cell_far ⟨bb, off + j * 7 + 1, none⟩ ln hbb).trans x1
      replace x2 := (G2.cell_far ⟨bb, off + j * 7 + 2, none⟩ ln hbb).trans x2
      replace x3 := (G2.cell_far ⟨bb, off + j * 7 + 3, none⟩ ln hbb).trans x3
      replace x4 := (G2.cell_far ⟨bb, off + j * 7 + 4, none⟩ ln hbb).trans x4
      replace x5 := (G2.cell_far ⟨bb, off + j * 7 + 5, none⟩ ln hbb).trans x5
      replace x6 := (G2.cell_far ⟨bb, off + j * 7 + 6, none⟩ ln hbb).trans x6
      have lc1 : c1 < y2.heap.size := (Array.getElem?_eq_some_iff.1 r1).1
      clear B G2 ln hbb
      have lb2 : bb < y2.heap.size := Nat.lt_of_lt_of_le hb B2.size
      have hD2 := hDb y2 Sb2
      replace r1 := Lib.hid r1
      clear hDb
      go_upto_region 12 with (go_at_call 35; refine hD2.mono ?_; rintro e y3 ⟨rfl, Sb3, Gb3⟩)
      have hcM : (some c1 : Option Nat) ≠ some M := by simp; omega
      have r3 := (Gb3.block c1 lc1 hcM).trans r1.out
      have lc3 : c1 < y3.heap.size := (Array.getElem?_eq_some_iff.1 r3).1
      have Sa3 := Sa2.kept Gb3 (by simp; omega) (by simp; omega)
      have B3 : Below w.heap.size w y3 := B2.trans (below_grown Gb3 B2.size (fun x h => by cases h; omega))
      have Sa4 := Sa3.below (below_alloc y3 (.cells #[.int .u16 r.err, .int .u64 r.a, .int .u64 r.b, .int .u64 r.c] 41))
      have Sb4 := Sb3.below (below_alloc y3 (.cells #[.int .u16 r.err, .int .u64 r.a, .int .u64 r.b, .int .u64 r.c] 41))
      have B4 := B3.alloc B3.size (.cells #[.int .u16 r.err, .int .u64 r.a, .int .u64 r.b, .int .u64 r.c] 41)
      have r5 := ((below_alloc y3 (.cells #[.int .u16 r.err, .int .u64 r.a, .int .u64 r.b, .int .u64 r.c] 41)).block _ lc3).trans r3
      have r6 := heap_alloc_new y3 (.cells #[.int .u16 r.err, .int .u64 r.a, .int .u64 r.b, .int .u64 r.c] 41)
      obtain ⟨c2, hce⟩ : ∃ x, x = y3.heap.size := ⟨_, rfl⟩
      obtain ⟨y4, hye⟩ : ∃ x, x = y3.alloc (.cells #[.int .u16 r.err, .int .u64 r.a, .int .u64 r.b, .int .u64 r.c] 41) := ⟨_, rfl⟩
      rw [← hye] at Sa4 Sb4 B4 r5 r6 ⊢
      rw [← hce] at r6 ⊢
      clear hce hye hD2 Sa2 Sb2 B2 Sa3 Sb3 B3 Gb3 x0 x1 x2 x3 x4 x5 x6
      obtain ⟨p0, p1, p2, p3⟩ := four_cells r5
      obtain ⟨q0, q1, q2, q3⟩ := four_cells r6
      have l1 : c1 < y4.heap.size := (Array.getElem?_eq_some_iff.1 r5).1
      have l2' : c2 < y4.heap.size := (Array.getElem?_eq_some_iff.1 r6).1
      replace r5 := Lib.hid r5
      replace r6 := Lib.hid r6
      go_wp2_with fail
      go_roundw
      case rel => exact ⟨j + 1, g, by omega, by go_num, Lib.hid hfs, Lib.hid (Sa4.mono (by omega)), Lib.hid (Sb4.mono (by omega)), Lib.hid B4⟩
      case measure => simp [intOf]; omega
    · obtain rfl : j = ops.length := by omega
      have hWa := all_w Sa.out (by omega) hf.out
      have hWb : ∀ wx, Below wr.heap.size wr wx → Calls Try.prog 34 #[.pointer (some ⟨M + 1, 0, none⟩)] wx fun e w' => ∃ v l, e = .returned v ∧ IsAll f l ∧ l.length ≤ 100 + 100 * ops.length ∧ w'.ownsRow wx.heap.size 49 6 v l.length (celCells l) ∧ Below wx.heap.size wx w' :=
        fun wx Bx => all_w (Sb.out.below Bx) (by omega) hf.out
      go_wp2_with (first
        | (go_at_call 34; (with_reducible refine hWa.mono ?_); rintro e z1 ⟨v1, la, rfl, hA1, _, ho1, Z1⟩; have hW1 := hWb z1 Z1)
        | (go_at_call 34; (with_reducible refine hW1.mono ?_); rintro e z2 ⟨v2, lb, rfl, hA2, _, ho2, Z2⟩; have hll := hA1.unique hA2; have hsc := samec_any la v1 v2 _ _ z2 (owns_below ho1 Z2) (by rw [hll]; exact ho2))
        | (go_at_call 36; (with_reducible refine hsc.mono ?_); rintro e z3 ⟨rfl, Z3⟩))
      go_ret
      exact ⟨rfl, below_trans B.out (below_trans Z1 (below_trans Z2 Z3))⟩
end Go.Proofs.Ytdbpjbmalinlbaa
