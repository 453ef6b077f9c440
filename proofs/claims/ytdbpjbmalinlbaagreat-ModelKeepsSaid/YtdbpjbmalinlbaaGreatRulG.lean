/- Contracts of the keys, change. -/
import Derived.Test.YtdbpjbmalinlbaaGreatRulF
import Derived.Deep.RegionWith
namespace Go.Proofs.YtdbpjbmalinlbaaGreat
open Go.RowKit

def bankK (who : Int) : Ky := (2, who, 0)
def purseK (who : Int) : Ky := (1, who, 0)
def stackK (who what : Int) : Ky := (3, who, what)
def tradeK (id : Int) : Ky := (4, id, 0)
def offerK (id side : Int) : Ky := (5, id, side)
def auctionK (id : Int) : Ky := (6, id, 0)
def bidK (id : Int) : Ky := (7, id, 0)
def priceK (id : Int) : Ky := (7, id, 1)
def countK (kind : Int) : Ky := (8, kind, 0)

set_option maxHeartbeats 400000 in
theorem bank_any (who : Int) (w : World) : Calls Tryz.prog 81 #[.int .u32 who] w fun x w' => x = .returned (.agg #[.int .u8 2, .int .u32 who, .int .u32 0]) ∧ w.alloc (.cells #[.int .u8 2, .int .u32 who, .int .u32 0] 52) = w' := by
  go_enter Tryz.func81, Tryz.ntmps81
  go_wp2
  exact bodyPost_ret (v := .agg #[.int .u8 2, .int .u32 who, .int .u32 0]) (by simp [results, Tryz.results81, go_sem]) rfl ⟨rfl, rfl⟩

set_option maxHeartbeats 400000 in
theorem trade_any (who : Int) (w : World) : Calls Tryz.prog 85 #[.int .u32 who] w fun x w' => x = .returned (.agg #[.int .u8 4, .int .u32 who, .int .u32 0]) ∧ w.alloc (.cells #[.int .u8 4, .int .u32 who, .int .u32 0] 52) = w' := by
  go_enter Tryz.func85, Tryz.ntmps85
  go_wp2
  exact bodyPost_ret (v := .agg #[.int .u8 4, .int .u32 who, .int .u32 0]) (by simp [results, Tryz.results85, go_sem]) rfl ⟨rfl, rfl⟩

set_option maxHeartbeats 400000 in
theorem auction_any (who : Int) (w : World) : Calls Tryz.prog 92 #[.int .u32 who] w fun x w' => x = .returned (.agg #[.int .u8 6, .int .u32 who, .int .u32 0]) ∧ w.alloc (.cells #[.int .u8 6, .int .u32 who, .int .u32 0] 52) = w' := by
  go_enter Tryz.func92, Tryz.ntmps92
  go_wp2
  exact bodyPost_ret (v := .agg #[.int .u8 6, .int .u32 who, .int .u32 0]) (by simp [results, Tryz.results92, go_sem]) rfl ⟨rfl, rfl⟩

set_option maxHeartbeats 400000 in
theorem bidk_any (who : Int) (w : World) : Calls Tryz.prog 94 #[.int .u32 who] w fun x w' => x = .returned (.agg #[.int .u8 7, .int .u32 who, .int .u32 0]) ∧ w.alloc (.cells #[.int .u8 7, .int .u32 who, .int .u32 0] 52) = w' := by
  go_enter Tryz.func94, Tryz.ntmps94
  go_wp2
  exact bodyPost_ret (v := .agg #[.int .u8 7, .int .u32 who, .int .u32 0]) (by simp [results, Tryz.results94, go_sem]) rfl ⟨rfl, rfl⟩

set_option maxHeartbeats 400000 in
theorem price_any (who : Int) (w : World) : Calls Tryz.prog 93 #[.int .u32 who] w fun x w' => x = .returned (.agg #[.int .u8 7, .int .u32 who, .int .u32 1]) ∧ w.alloc (.cells #[.int .u8 7, .int .u32 who, .int .u32 1] 52) = w' := by
  go_enter Tryz.func93, Tryz.ntmps93
  go_wp2
  exact bodyPost_ret (v := .agg #[.int .u8 7, .int .u32 who, .int .u32 1]) (by simp [results, Tryz.results93, go_sem]) rfl ⟨rfl, rfl⟩

set_option maxHeartbeats 400000 in
theorem stack_any (who what : Int) (w : World) : Calls Tryz.prog 79 #[.int .u32 who, .int .u32 what] w fun x w' => x = .returned (.agg #[.int .u8 3, .int .u32 who, .int .u32 what]) ∧ w.alloc (.cells #[.int .u8 3, .int .u32 who, .int .u32 what] 52) = w' := by
  go_enter Tryz.func79, Tryz.ntmps79
  go_wp2
  exact bodyPost_ret (v := .agg #[.int .u8 3, .int .u32 who, .int .u32 what]) (by simp [results, Tryz.results79, go_sem]) rfl ⟨rfl, rfl⟩

set_option maxHeartbeats 400000 in
theorem offerk_any (who what : Int) (w : World) : Calls Tryz.prog 88 #[.int .u32 who, .int .u32 what] w fun x w' => x = .returned (.agg #[.int .u8 5, .int .u32 who, .int .u32 what]) ∧ w.alloc (.cells #[.int .u8 5, .int .u32 who, .int .u32 what] 52) = w' := by
  go_enter Tryz.func88, Tryz.ntmps88
  go_wp2
  exact bodyPost_ret (v := .agg #[.int .u8 5, .int .u32 who, .int .u32 what]) (by simp [results, Tryz.results88, go_sem]) rfl ⟨rfl, rfl⟩

set_option maxHeartbeats 400000 in
theorem purse_a (who : Int) (w : World) : Calls Tryz.prog 73 #[.int .u32 who] w fun x w' => x = .returned (.agg #[.int .u8 1, .int .u32 who, .int .u32 0]) ∧ w.alloc (.cells #[.int .u8 1, .int .u32 who, .int .u32 0] 52) = w' := purse_any who w

set_option maxHeartbeats 400000 in
theorem count_key (kind : Int) (w : World) (h0 : 0 ≤ kind) (h1 : kind ≤ 255) : Calls Tryz.prog 100 #[.int .u8 kind] w fun x w' => x = .returned (.agg #[.int .u8 8, .int .u32 kind, .int .u32 0]) ∧ w.alloc (.cells #[.int .u8 8, .int .u32 kind, .int .u32 0] 52) = w' := by
  have s1 : IntKind.u32.wrap kind = kind := IntWalk.u32_in _ (by omega)
  go_enter Tryz.func100, Tryz.ntmps100
  go_wp2
  exact bodyPost_ret (v := .agg #[.int .u8 8, .int .u32 kind, .int .u32 0]) (by simp [results, Tryz.results100, go_sem]) rfl ⟨rfl, rfl⟩

def itemB (n : Int) : Bool := decide (1 ≤ n) && decide (n ≤ 1000)
set_option maxHeartbeats 400000 in
theorem item_any (n : Int) (w : World) : Calls Tryz.prog 96 #[.int .u32 n] w fun x w' => x = .returned (.bool (itemB n)) ∧ w = w' := by
  by_cases h1 : 1 ≤ n
  · by_cases h2 : n ≤ 1000
    · have e : Hid (itemB n = true) := Lib.hid (by simp [itemB, h1, h2])
      go_enter Tryz.func96, Tryz.ntmps96
      go_wp2
      go_ret
      exact ⟨ret_bool e.out.symm, rfl⟩
    · have e : Hid (itemB n = false) := Lib.hid (by simp [itemB, h2])
      go_enter Tryz.func96, Tryz.ntmps96
      go_wp2
      go_ret
      exact ⟨ret_bool e.out.symm, rfl⟩
  · have e : Hid (itemB n = false) := Lib.hid (by simp [itemB, h1])
    go_enter Tryz.func96, Tryz.ntmps96
    go_wp2
    go_ret
    exact ⟨ret_bool e.out.symm, rfl⟩

section
variable {x : Nat} {o : OpV} {s : List Cel} {p : List Pt} {r : Rp} {w w' : World}

/-- How an operation's parts end. -/
abbrev Mets (x : Nat) (o : OpV) (s : List Cel) (w : World) (t : T (List Pt × Rp)) : Ending → World → Prop :=
  Met x o w (fun _ : List Pt × Rp => .tuple #[]) (fun a => a.1) (fun a => a.2) (t.run s)

set_option maxRecDepth 100000 in
set_option maxHeartbeats 400000 in
theorem hchange_more (k : Ky) (a : Int) (h : Hand x o s p r w) (hp : p.length + 1 ≤ 1000) (ha : U64 a) :
    Calls Tryz.prog 76 #[.pointer (some ⟨x, 0, none⟩), .agg #[.int .u8 k.1, .int .u32 k.2.1, .int .u32 k.2.2], .int .u64 a, .func (.func 77) #[] #[]] w (Mets x o s w ((moreT a o.n).bind fun v => .done (p ++ [putP k v], { r with a := v }))) := by
  have hx := h.lt
  have hn : U64 o.n := h.opOk.2.2.2.2.2.1
  obtain ⟨_, _, _, _, _, c5, _⟩ := h.op
  have f10 := h.frozen 10
  obtain ⟨⟨u, hu⟩, _⟩ := h.rep
  have h' := Lib.hid (h.alloc (.cells #[.int .u8 k.1, .int .u32 k.2.1, .int .u32 k.2.2] 52))
  have S0 := (Step.refl x w).alloc hx (.cells #[.int .u8 k.1, .int .u32 k.2.1, .int .u32 k.2.2] 52)
  have hx1 : x < w.heap.size + 1 := by omega
  go_enter Tryz.func76, Tryz.ntmps76
  go_wp2_with fail
  refine (more_any a o.n _ ha hn).mono ?_
  rintro e w1 ⟨⟨v, ht, rfl, v0, v1⟩ | ⟨c, ht, rfl⟩, B⟩
  · have H1 := h'.out.below B
    have hx2 := H1.lt
    have c5' := (B.cell (p := ⟨x, 10, none⟩) (by simpa using hx1)).trans (by simpa [go_sem, hx, hx1] using hu)
    have f10' := H1.frozen 10
    have k0 := (B.cell (p := ⟨w.heap.size, 0, none⟩) (by simp)).trans (cell_of_heap (heap_alloc_new w _) 0)
    have k1 := (B.cell (p := ⟨w.heap.size, 1, none⟩) (by simp)).trans (cell_of_heap (heap_alloc_new w _) 1)
    have k2 := (B.cell (p := ⟨w.heap.size, 2, none⟩) (by simp)).trans (cell_of_heap (heap_alloc_new w _) 2)
    go_wp2_with fail
    have H2 := (H1.setA v).drew
    go_region_with (refine (put_any k v H2 hp).mono ?_; rintro e w2 ⟨rfl, S2, H3⟩)
    all_goals (
      go_wp2_with fail
      go_end0
      exact Met.ok (((S0.trans (Step.ofBelow (by simpa using hx1) B)).trans ((Step.refl _ _).setX 10 (by decide) _).drew).trans S2) (by rw [ht.out]; rfl) rfl H3)
  · go_wp2_with fail
    exact ⟨rfl, Met.over (S0.trans (Step.ofBelow (by simpa using hx1) B)) (by rw [ht.out]; rfl) (h'.out.below B).dead⟩
set_option maxRecDepth 100000 in
set_option maxHeartbeats 400000 in
theorem hchange_less (k : Ky) (a : Int) (h : Hand x o s p r w) (hp : p.length + 1 ≤ 1000) (ha : U64 a) :
    Calls Tryz.prog 76 #[.pointer (some ⟨x, 0, none⟩), .agg #[.int .u8 k.1, .int .u32 k.2.1, .int .u32 k.2.2], .int .u64 a, .func (.func 78) #[] #[]] w (Mets x o s w ((lessT a o.n).bind fun v => .done (p ++ [putP k v], { r with a := v }))) := by
  have hx := h.lt
  have hn : U64 o.n := h.opOk.2.2.2.2.2.1
  obtain ⟨_, _, _, _, _, c5, _⟩ := h.op
  have f10 := h.frozen 10
  obtain ⟨⟨u, hu⟩, _⟩ := h.rep
  have h' := Lib.hid (h.alloc (.cells #[.int .u8 k.1, .int .u32 k.2.1, .int .u32 k.2.2] 52))
  have S0 := (Step.refl x w).alloc hx (.cells #[.int .u8 k.1, .int .u32 k.2.1, .int .u32 k.2.2] 52)
  have hx1 : x < w.heap.size + 1 := by omega
  go_enter Tryz.func76, Tryz.ntmps76
  go_wp2_with fail
  refine (less_any a o.n _ ha hn).mono ?_
  rintro e w1 ⟨⟨v, ht, rfl, v0, v1⟩ | ⟨c, ht, rfl⟩, B⟩
  · have H1 := h'.out.below B
    have hx2 := H1.lt
    have c5' := (B.cell (p := ⟨x, 10, none⟩) (by simpa using hx1)).trans (by simpa [go_sem, hx, hx1] using hu)
    have f10' := H1.frozen 10
    have k0 := (B.cell (p := ⟨w.heap.size, 0, none⟩) (by simp)).trans (cell_of_heap (heap_alloc_new w _) 0)
    have k1 := (B.cell (p := ⟨w.heap.size, 1, none⟩) (by simp)).trans (cell_of_heap (heap_alloc_new w _) 1)
    have k2 := (B.cell (p := ⟨w.heap.size, 2, none⟩) (by simp)).trans (cell_of_heap (heap_alloc_new w _) 2)
    go_wp2_with fail
    have H2 := (H1.setA v).drew
    go_region_with (refine (put_any k v H2 hp).mono ?_; rintro e w2 ⟨rfl, S2, H3⟩)
    all_goals (
      go_wp2_with fail
      go_end0
      exact Met.ok (((S0.trans (Step.ofBelow (by simpa using hx1) B)).trans ((Step.refl _ _).setX 10 (by decide) _).drew).trans S2) (by rw [ht.out]; rfl) rfl H3)
  · go_wp2_with fail
    exact ⟨rfl, Met.over (S0.trans (Step.ofBelow (by simpa using hx1) B)) (by rw [ht.out]; rfl) (h'.out.below B).dead⟩
end
end Go.Proofs.YtdbpjbmalinlbaaGreat
