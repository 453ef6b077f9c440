/- The walk of ModelKeeps; The walk of ModelKeeps, its loop. -/
import Derived.Test.YtdbpjbmalinlbaaGreatModW
import Derived.Deep.DeepCutAuto
namespace Go.Proofs.YtdbpjbmalinlbaaGreat
open Go.RowKit

theorem totL_nonneg {W : Wt} {l : List Cel} (h : ∀ c ∈ l, 0 ≤ W c.k c.v) : 0 ≤ totL W l := by
  induction l with
  | nil => exact Int.le_refl _
  | cons c l ih =>
    have h1 := h c (by simp)
    have h2 := ih fun a ha => h a (by simp [ha])
    simp only [totL]; omega
theorem wc_nonneg (k : Ky) {v : Vl} (h : VlOk v) : 0 ≤ Wc k v := by
  have := h.1.1
  unfold Wc; split <;> omega
theorem wi_nonneg (it : Int) (k : Ky) {v : Vl} (h : VlOk v) : 0 ≤ Wi it k v := by
  have := h.1.1
  have := h.2.1
  unfold Wi; split <;> (try split) <;> omega
theorem Tot.nonneg {W : Wt} {f : Mp} {s : Int} (hf : MpOk f) (hW : ∀ k v, VlOk v → 0 ≤ W k v) (h : Tot W f s) : 0 ≤ s := by
  obtain ⟨l, hl, rfl⟩ := h
  exact totL_nonneg fun c hc => hW _ _ (hf _ _ (hl.there c hc).2).2
/-- So many of an item; of no item there is none. -/
def TotI (it : Int) (f : Mp) (s : Int) : Prop := (it = 0 ∧ s = 0) ∨ (0 < it ∧ Tot (Wi it) f s)
theorem totI_none {it : Int} (i0 : 0 ≤ it) : TotI it (fun _ => none) 0 := by
  rcases Int.lt_or_eq_of_le i0 with h | h
  · exact .inr ⟨h, tot_none _⟩
  · exact .inl ⟨h.symm, rfl⟩
theorem TotI.nonneg {it : Int} {f : Mp} {s : Int} (hf : MpOk f) (h : TotI it f s) : 0 ≤ s := by
  rcases h with ⟨_, rfl⟩ | ⟨_, h⟩
  · exact Int.le_refl _
  · exact h.nonneg hf fun k v hv => wi_nonneg it k hv
theorem all_small {l : List Int} {s : Int} (h : sumL l = s) (hs : s ≤ 4611686018427387904) : allV l = s ∧ allE l = 0 := by
  unfold allV allE
  rw [h]
  exact ⟨if_neg (by omega), if_neg (by omega)⟩
theorem coins_is {A b n : Nat} {f : Mp} {w : World} (S : WSt A b n f w) (hn : n ≤ 1000000) (hf : MpOk f) {c : Int} (h : Tot Wc f c) (hc : c ≤ 4611686018427387904) :
    Calls Tryz.prog 11 #[.pointer (some ⟨A, 0, none⟩)] w fun e w' => e = .returned (.tuple #[.int .u64 c, .bool true]) ∧ Below w.heap.size w w' := by
  refine (coins_w S hn hf).mono ?_
  rintro e w' ⟨l, hl, rfl, B⟩
  obtain ⟨h1, h2⟩ := all_small ((coins_tot l).trans (h.all hl)) hc
  rw [h1, h2]
  exact ⟨rfl, B⟩
theorem items_is {A b n : Nat} {f : Mp} {w : World} (S : WSt A b n f w) (hn : n ≤ 1000000) (hf : MpOk f) {it c : Int} (i1 : it ≤ 4294967295) (h : TotI it f c) (hc : c ≤ 4611686018427387904) :
    Calls Tryz.prog 12 #[.pointer (some ⟨A, 0, none⟩), .int .u32 it] w fun e w' => e = .returned (.tuple #[.int .u64 c, .bool true]) ∧ Below w.heap.size w w' := by
  rcases h with ⟨rfl, rfl⟩ | ⟨i0, h⟩
  · refine (items_0 A w).mono ?_
    rintro e w' ⟨rfl, rfl⟩
    exact ⟨rfl, Below.refl _ _⟩
  · refine (items_w S hn hf it i0 i1).mono ?_
    rintro e w' ⟨l, hl, rfl, B⟩
    obtain ⟨h1, h2⟩ := all_small ((items_tot it l).trans (h.all hl)) hc
    rw [h1, h2]
    exact ⟨rfl, B⟩

theorem seven_cells {w : World} {B : Nat} {a b c d e f g : Value} {ty : TypeId} {fr : Nat × Nat} (h : w.heap[B]? = some (.cells #[a, b, c, d, e, f, g] ty fr)) :
    w.cell? ⟨B, 0, none⟩ = some a ∧ w.cell? ⟨B, 1, none⟩ = some b ∧ w.cell? ⟨B, 2, none⟩ = some c ∧ w.cell? ⟨B, 3, none⟩ = some d ∧ w.cell? ⟨B, 4, none⟩ = some e ∧ w.cell? ⟨B, 5, none⟩ = some f ∧ w.cell? ⟨B, 6, none⟩ = some g := by
  refine ⟨?_, ?_, ?_, ?_, ?_, ?_, ?_⟩ <;> rw [cell_of_row w B _ _ ty fr h] <;> rfl
theorem change_num {o : OpV} (h : 0 ≤ o.n ∧ o.n ≤ 1125899906842624) (it : Int) : ((0 ≤ (chC o).1 ∧ (chC o).1 ≤ 1125899906842624) ∧ (0 ≤ (chC o).2 ∧ (chC o).2 ≤ 1125899906842624) ∧ (chC o).1 - (chC o).2 = coinD o) ∧
    (0 ≤ (chI o it).1 ∧ (chI o it).1 ≤ 1125899906842624) ∧ (0 ≤ (chI o it).2 ∧ (chI o it).2 ≤ 1125899906842624) := by
  unfold chC chI coinD
  refine ⟨⟨?_, ?_, ?_⟩, ?_, ?_⟩ <;> split <;> (try split) <;> simp <;> omega
def itemN (o : OpV) (it : Int) : Int := if it = 0 then 0 else itemD o it
theorem change_items {o : OpV} {it : Int} (i0 : 0 ≤ it) : (o.kind = 10 ∧ 0 < it → (chI o it).1 = 0 ∧ (chI o it).2 = 0 ∧ itemN o it = cnt (needsO o.what o.n) it - cnt (needsI o.what o.n) it) ∧ (¬ (o.kind = 10 ∧ 0 < it) → (chI o it).1 - (chI o it).2 = itemN o it) := by
  constructor
  · rintro ⟨hk, hi⟩
    refine ⟨by simp [chI, hk], by simp [chI, hk], ?_⟩
    unfold itemN itemD
    rw [if_neg (by omega), if_neg (by omega), if_neg (by omega), if_pos hk]
  · intro h
    unfold itemN itemD chI
    by_cases hz : it = 0
    · rw [if_pos hz, if_neg (by omega), if_neg (by omega)]; rfl
    · have hp : 0 < it := by omega
      rw [if_neg hz]
      by_cases h4 : o.kind = 4
      · by_cases hw : o.what = it <;> simp [h4, hw, hp]
      · by_cases h5 : o.kind = 5
        · by_cases hw : o.what = it <;> simp [h5, hw, hp]
        · have h10 : o.kind ≠ 10 := fun e => h ⟨e, hp⟩
          simp [h4, h5, h10]

/-- The law's state: what is counted is what there is. -/
structure KeepSt (w : World) (N : Nat) (it : Int) (j : Nat) (f : Mp) (c i : Int) (wr : World) : Prop where
  ok : MpOk f
  inv : Inv f
  coins : Tot Wc f c
  items : TotI it f i
  cb : c ≤ (j : Int) * 1125899906842624
  ib : i ≤ (j : Int) * 1125899906942624
  ws : WSt (N + 1) N (100 + 100 * j) f wr
  below : Below w.heap.size w wr
/-- The operation that the law does. -/
def opN (o : OpV) : OpV := { o with n := if 1125899906842624 < o.n then o.n % 1125899906842624 else o.n }
theorem opN_ok {o : OpV} (h : OpOk o) : OpOk (opN o) ∧ (opN o).n ≤ 1125899906842624 := by
  obtain ⟨h1, h2, h3, h4, h5, h6, h7⟩ := h
  refine ⟨⟨h1, h2, h3, h4, h5, ?_, h7⟩, ?_⟩
  · show 0 ≤ (opN o).n ∧ _
    unfold opN; dsimp only; split <;> omega
  · unfold opN; dsimp only; split <;> omega
theorem cnt_small (id n it : Int) : (0 ≤ cnt (needsI id n) it ∧ cnt (needsI id n) it ≤ 100000) ∧ (0 ≤ cnt (needsO id n) it ∧ cnt (needsO id n) it ≤ 100000) := by
  unfold needsI needsO
  split
  · exact ⟨by simp [cnt], by simp [cnt]⟩
  · rename_i h
    have h1 : 1 ≤ n ∧ n ≤ 1000 := by omega
    unfold inL outL mulL
    constructor
    all_goals (
      (repeat' split) <;> simp only [List.map_cons, List.map_nil, cnt] <;> (repeat' split) <;> constructor <;> omega)
/-- A done operation: the counts behind it. -/
theorem keeps_next {w wr : World} {N : Nat} {it : Int} {j : Nat} {f : Mp} {c i : Int} {o : OpV} (i0 : 0 ≤ it) (i1 : it ≤ 4294967295) (K : KeepSt w N it j f c i wr) (ho : OpOk o) (hn : o.n ≤ 1125899906842624) (he : (ev f (runT o)).2.err = 0) :
    MpOk (stepM f o) ∧ Inv (stepM f o) ∧ Tot Wc (stepM f o) (c + coinD o) ∧ TotI it (stepM f o) (i + itemN o it) ∧ (0 ≤ c + coinD o ∧ c + coinD o ≤ ((j + 1 : Nat) : Int) * 1125899906842624) ∧ (0 ≤ i + itemN o it ∧ i + itemN o it ≤ ((j + 1 : Nat) : Int) * 1125899906942624) := by
  have hm := K.ok.step ho
  have n0 := ho.2.2.2.2.2.1.1
  have hb := K.cb
  have hib := K.ib
  have h1 : coinD o ≤ 1125899906842624 := by unfold coinD; split <;> (try split) <;> omega
  have hcs := cnt_small o.what o.n it
  have h2 : itemN o it ≤ 1125899906942624 := by
    unfold itemN itemD; (repeat' split) <;> omega
  have hT : Inv (stepM f o) ∧ Tot Wc (stepM f o) (c + coinD o) ∧ TotI it (stepM f o) (i + itemN o it) := by
    rcases K.items with ⟨rfl, rfl⟩ | ⟨h0, hI⟩
    · have G := e_run K.inv K.ok ho he
      have b := K.coins.puts G.apart
      rw [G.coins] at b
      exact ⟨G.inv, b, .inl ⟨rfl, by simp [itemN]⟩⟩
    · obtain ⟨a, b, d⟩ := step_keeps K.inv K.ok ho he K.coins h0 i1 hI
      refine ⟨a, b, .inr ⟨h0, ?_⟩⟩
      unfold itemN
      rw [if_neg (by omega)]
      exact d
  obtain ⟨a, b, d⟩ := hT
  exact ⟨hm, a, b, d, ⟨b.nonneg hm fun k v hv => wc_nonneg k hv, by omega⟩, ⟨d.nonneg hm, by omega⟩⟩
end Go.Proofs.YtdbpjbmalinlbaaGreat

namespace Go.Proofs.YtdbpjbmalinlbaaGreat
open Go.RowKit

set_option maxRecDepth 100000 in
set_option maxHeartbeats 8000000 in
theorem modelKeeps_walk (w : World) (ops : List OpV) (lv : Value) (ho : OpsIn w lv ops) (it : Int) (i0 : 0 ≤ it) (i1 : it ≤ 4294967295) :
    Calls Tryz.prog 3 #[lv, .int .u32 it] w fun e w' => e = .returned (.bool true) ∧ Below w.heap.size w w' := by
  obtain ⟨⟨a2, cap2, rfl, hq3, hq4⟩, hq5⟩ := id ho
  clear hq3 hq4 hq5
  have HO := Lib.hid ho
  clear ho
  by_cases hl2 : (80 : Int) < (ops.length : Int)
  · go_enter Tryz.func3, Tryz.ntmps3
    go_wp2_with (go_at_call 4; refine (modelKnown_any _).mono ?_; rintro e w1 ⟨rfl, B1⟩)
    go_ret
    exact ⟨rfl, B1⟩
  have hl2' : ops.length ≤ 80 := by omega
  go_enter Tryz.func3, Tryz.ntmps3
  go_upto_region 3 with (go_at_call 4; refine (modelKnown_any _).mono ?_; rintro e w1 ⟨rfl, B1⟩)
  have hNw := new_any w1
  obtain ⟨N, hN⟩ : ∃ N, N = w1.heap.size := ⟨_, rfl⟩
  rw [← hN] at hNw
  have lN : w.heap.size ≤ N := by have := B1.size; omega
  clear hN
  go_upto_region 6 with (go_at_call 5; refine hNw.mono ?_; rintro e w2 ⟨rfl, hm, hc, B2⟩)
  have S2 : WSt (N + 1) N (100 + 100 * 0) (fun _ => none) w2 := WSt.mono ⟨hc, hm⟩ (by omega)
  have K0 : Hid (KeepSt w N it 0 (fun _ => none) 0 0 w2) := Lib.hid ⟨mpOk_none, inv_none, tot_none _, totI_none i0, by decide, by decide, S2, B1.trans (B2.mono lN)⟩
  clear hNw hm hc B1 B2
  have l2 : N + 1 < w2.heap.size := S2.ltA
  clear S2
  go_wp2_with fail
  go_loopw [6, 7, 8] (fun a b i wr => ∃ (j : Nat) (f : Mp) (c n : Int), j ≤ ops.length ∧ i = .int .i64 (j : Int) ∧ a = .int .u64 c ∧ b = .int .u64 n ∧ Hid (KeepSt w N it j f c n wr)) (fun _ _ i _ => ops.length - (intOf i).toNat)
  case atStart => exact ⟨0, _, 0, 0, Nat.zero_le _, rfl, rfl, rfl, K0⟩
  case round =>
    clear K0 l2
    obtain ⟨j, f, c, n, hj, rfl, rfl, rfl, K⟩ := hrel
    by_cases hlt : j < ops.length
    · obtain ⟨o, hq⟩ : ∃ q, ops[j]? = some q := ⟨_, List.getElem?_eq_getElem hlt⟩
      have hoo := HO.out.2 o (List.mem_of_getElem? hq)
      obtain ⟨bb, off, rfl, hb, x0, x1, x2, x3, x4, x5, x6⟩ := ops_seven HO.out hq
      have hl1 : (j : Int) < (ops.length : Int) := by omega
      replace x0 := (K.out.below.cell (p := ⟨bb, off + j * 7, none⟩) hb).trans x0
      replace x1 := (K.out.below.cell (p := ⟨bb, off + j * 7 + 1, none⟩) hb).trans x1
      replace x2 := (K.out.below.cell (p := ⟨bb, off + j * 7 + 2, none⟩) hb).trans x2
      replace x3 := (K.out.below.cell (p := ⟨bb, off + j * 7 + 3, none⟩) hb).trans x3
      replace x4 := (K.out.below.cell (p := ⟨bb, off + j * 7 + 4, none⟩) hb).trans x4
      replace x5 := (K.out.below.cell (p := ⟨bb, off + j * 7 + 5, none⟩) hb).trans x5
      replace x6 := (K.out.below.cell (p := ⟨bb, off + j * 7 + 6, none⟩) hb).trans x6
      have lbr : bb < wr.heap.size := Nat.lt_of_lt_of_le hb K.out.below.size
      have lNr : N + 1 < wr.heap.size := K.out.ws.ltA
      have n0 : 0 ≤ o.n ∧ o.n ≤ 18446744073709551615 := hoo.2.2.2.2.2.1
      obtain ⟨ok', n50⟩ := opN_ok hoo
      go_upto_region 11 with fail
      have pb := heap_alloc_new wr (.cells #[.int .u8 o.kind, .int .u32 o.who, .int .u32 o.whom, .int .u32 o.what, .int .u32 o.id, .int .u64 o.n, .int .u64 o.price] 29)
      have B0 : Below wr.heap.size wr (wr.alloc (.cells #[.int .u8 o.kind, .int .u32 o.who, .int .u32 o.whom, .int .u32 o.what, .int .u32 o.id, .int .u64 o.n, .int .u64 o.price] 29)) := below_alloc _ _
      obtain ⟨CB, hCB⟩ : ∃ x, x = wr.heap.size := ⟨_, rfl⟩
      obtain ⟨y0, hy0⟩ : ∃ x, x = wr.alloc (.cells #[.int .u8 o.kind, .int .u32 o.who, .int .u32 o.whom, .int .u32 o.what, .int .u32 o.id, .int .u64 o.n, .int .u64 o.price] 29) := ⟨_, rfl⟩
      rw [← hy0] at pb B0 ⊢
      rw [← hCB] at pb B0 ⊢
      have lC : CB < y0.heap.size := (Array.getElem?_eq_some_iff.1 pb).1
      have lNC : N + 1 < CB := by omega
      have lwC : w.heap.size ≤ CB := by have := K.out.below.size; omega
      have lWC : wr.heap.size ≤ CB := by omega
      clear hy0 hCB x0 x1 x2 x3 x4 x5 x6
      have z5 : y0.cell? ⟨CB, 5, none⟩ = some (.int .u64 o.n) := by simp [cell_of_heap pb]
      have f5 : y0.frozen? ⟨CB, 5, none⟩ = false := frozen_of_heap pb 5
      go_upto_if 43 with fail
      go_cut [] (fun wx => wx.heap[CB]? = some (.cells #[.int .u8 (opN o).kind, .int .u32 (opN o).who, .int .u32 (opN o).whom, .int .u32 (opN o).what, .int .u32 (opN o).id, .int .u64 (opN o).n, .int .u64 (opN o).price] 29) ∧ Below CB wr wx)
      case first =>
        by_cases hN : 1125899906842624 < o.n
        · have e2 : (opN o).n = o.n % 1125899906842624 := if_pos hN
          go_wp2_with fail
          go_meet
          refine ⟨?_, B0.setCell (Nat.le_refl _) _⟩
          rw [e2]
          simp [World.setCell, Array.getElem?_modify, pb, opN]
        · have e2 : (opN o).n = o.n := if_neg hN
          go_wp2_with fail
          go_meet
          refine ⟨?_, B0⟩
          rw [e2]
          exact pb
      case rest =>
        obtain ⟨pb', B0'⟩ := hcut
        clear pb B0 z5 f5 lC
        have K1 := K.out.ws.below (B0'.mono lWC)
        have BW : Below w.heap.size w wc := K.out.below.trans (B0'.mono lwC)
        have lC : CB < wc.heap.size := (Array.getElem?_eq_some_iff.1 pb').1
        have hA := all_w K1 (by omega) K.out.ok
        have pb := Lib.hid pb'
        clear pb' B0'
        go_upto_region 14 with (go_at_call 6; refine hA.mono ?_; rintro e w3 ⟨v, l, rfl, hAll, hll, hown, B3⟩)
        replace pb := Lib.hid ((B3.block _ lC).trans pb.out)
        have K3 := K1.below B3
        have BW3 := BW.trans (B3.mono BW.size)
        have lC3 : CB < w3.heap.size := (Array.getElem?_eq_some_iff.1 pb.out).1
        have lown : wc.heap.size ≤ w3.heap.size := B3.size
        have lwc : N + 1 < wc.heap.size := K1.ltA
        clear hA K1 BW lC B3
        obtain ⟨q, hqq⟩ : ∃ q, q = opN o := ⟨_, rfl⟩
        rw [← hqq] at pb ok' n50
        clear hqq hoo hq n0
        obtain ⟨d0, d1, d2, d3, d4, d5, d6⟩ := seven_cells pb.out
        have hD := doM_b K3 (by unfold maxLen; omega) K.out.ok q ok'
        have hE : (ev f (runT q)).2.err = 0 → _ := fun he => keeps_next i0 i1 K.out ok' n50 he
        have hZ := step_err (f := f) ok'
        obtain ⟨r, hr⟩ : ∃ r, r = (ev f (runT q)).2 := ⟨_, rfl⟩
        obtain ⟨g, hg⟩ : ∃ g, g = stepM f q := ⟨_, rfl⟩
        rw [← hr] at hD hE hZ
        rw [← hg] at hD hE hZ
        have hgm := K.out.ok.step ok'
        rw [← hg] at hgm
        clear hr hg
        replace hE := Lib.hid hE
        replace hZ := Lib.hid hZ
        go_upto_region 15 with (go_at_call 7; refine hD.mono ?_; rintro e y1 ⟨rfl, Sa1, Ga1⟩)
        have hlc1 : w3.heap.size ≤ y1.heap.size := Ga1.size
        have BY1 : Below w.heap.size w y1 := BW3.trans (below_grown Ga1 BW3.size (fun x h => by cases h; exact lN))
        have pb1 := (Ga1.block _ lC3 (by simp; omega)).trans pb.out
        have ho1 := owns_keep hown fun b hb => Ga1.block b (owns_lt hown hb).2 (by have := (owns_lt hown hb).1; simp; omega)
        have Sa2 := Sa1.below (below_alloc y1 (.cells #[.int .u16 r.err, .int .u64 r.a, .int .u64 r.b, .int .u64 r.c] 35))
        have B2 := BY1.alloc BY1.size (.cells #[.int .u16 r.err, .int .u64 r.a, .int .u64 r.b, .int .u64 r.c] 35)
        have bl := below_alloc y1 (.cells #[.int .u16 r.err, .int .u64 r.a, .int .u64 r.b, .int .u64 r.c] 35)
        have r1 := heap_alloc_new y1 (.cells #[.int .u16 r.err, .int .u64 r.a, .int .u64 r.b, .int .u64 r.c] 35)
        have pb2 := (bl.block _ (by omega)).trans pb1
        have ho2 := owns_below ho1 bl
        obtain ⟨c1, hce⟩ : ∃ x, x = y1.heap.size := ⟨_, rfl⟩
        obtain ⟨y2, hye⟩ : ∃ x, x = y1.alloc (.cells #[.int .u16 r.err, .int .u64 r.a, .int .u64 r.b, .int .u64 r.c] 35) := ⟨_, rfl⟩
        rw [← hye] at Sa2 B2 r1 pb2 ho2 ⊢
        rw [← hce] at r1 ⊢
        clear hce hye hD Sa1 Ga1 BY1 bl pb1 ho1 hown pb d0 d1 d2 d3 d4 d5 d6 BW3 K3
        have lc1 : c1 < y2.heap.size := (Array.getElem?_eq_some_iff.1 r1).1
        have lC2 : CB < y2.heap.size := (Array.getElem?_eq_some_iff.1 pb2).1
        have l2N : N + 1 < y2.heap.size := Sa2.ltA
        obtain ⟨v0, v1, v2, v3⟩ := four_cells r1
        by_cases he : r.err = 0
        · obtain ⟨-, ginv, gT, gI, gc, gi⟩ := hE.out he
          have hC := fun wx (B : Below y2.heap.size y2 wx) => coins_is (Sa2.below B) (by omega) hgm gT (by omega)
          have hI := fun wx (B : Below y2.heap.size y2 wx) => items_is (Sa2.below B) (by omega) hgm i1 gI (by omega)
          obtain ⟨⟨p0, p1, pd⟩, q0, q1⟩ := change_num (o := q) ⟨ok'.2.2.2.2.2.1.1, n50⟩ it
          obtain ⟨hk1, hk2⟩ := change_items (o := q) i0
          have cn0 := K.out.coins.nonneg K.out.ok fun k v hv => wc_nonneg k hv
          have in0 := K.out.items.nonneg K.out.ok
          have cb := K.out.cb
          have ib := K.out.ib
          have hCh := change_w q it
          have hcs := cnt_small q.what q.n it
          obtain ⟨X0, hX0⟩ : ∃ x, (chC q).1 = x := ⟨_, rfl⟩
          obtain ⟨X1, hX1⟩ : ∃ x, (chC q).2 = x := ⟨_, rfl⟩
          obtain ⟨Y0, hY0⟩ : ∃ x, (chI q it).1 = x := ⟨_, rfl⟩
          obtain ⟨Y1, hY1⟩ : ∃ x, (chI q it).2 = x := ⟨_, rfl⟩
          rw [hX0, hX1, hY0, hY1] at hCh
          rw [hX0] at p0 pd
          rw [hX1] at p1 pd
          rw [hY0] at q0 hk1 hk2
          rw [hY1] at q1 hk1 hk2
          clear hX0 hX1 hY0 hY1 hE hZ
          obtain ⟨cc, hcc⟩ : ∃ x, x = c + coinD q := ⟨_, rfl⟩
          obtain ⟨ii, hii⟩ : ∃ x, x = n + itemN q it := ⟨_, rfl⟩
          rw [← hcc] at gT gc hC
          rw [← hii] at gI gi hI
          obtain ⟨L, hL⟩ : ∃ x, x = cnt (needsI q.what q.n) it := ⟨_, rfl⟩
          obtain ⟨G, hG⟩ : ∃ x, x = cnt (needsO q.what q.n) it := ⟨_, rfl⟩
          have hCr := crafted_w q.what q.n it
          rw [← hL, ← hG] at hCr
          rw [← hL] at hk1 hcs
          rw [← hG] at hk1 hcs
          clear hL hG
          obtain ⟨cD, hcD⟩ : ∃ x, x = coinD q := ⟨_, rfl⟩
          obtain ⟨iD, hiD⟩ : ∃ x, x = itemN q it := ⟨_, rfl⟩
          rw [← hcD] at pd hcc
          rw [← hiD] at hk1 hk2 hii
          clear hcD hiD
          have hjb : (j : Int) ≤ 80 := by omega
          have s1 : IntKind.u64.wrap (c + X0) = c + X0 := IntWalk.u64_in _ (by omega)
          have s2 : IntKind.u64.wrap (c + X0 - X1) = cc := by rw [IntWalk.u64_in _ (by omega)]; omega
          have s3 : IntKind.u64.wrap (n + Y0) = n + Y0 := IntWalk.u64_in _ (by omega)
          replace hii := Lib.hid hii
          clear hcc pd
          obtain ⟨d0, d1, d2, d3, d4, d5, d6⟩ := seven_cells pb2
          have q2k : ¬ it = 0 → 0 < it := by omega
          have KS : ∀ w9, Below y2.heap.size y2 w9 → KeepSt w N it (j + 1) g cc ii w9 := fun w9 B9 => ⟨hgm, ginv, gT, gI, gc.2, gi.2, (Sa2.below B9).mono (by omega), B2.trans (B9.mono B2.size)⟩
          replace KS := Lib.hid KS
          replace gT := Lib.hid gT
          replace gI := Lib.hid gI
          clear hAll ho2 pb2 r1 hgm ginv
          go_upto_region 19 with (go_at_call 9; refine (hCh _).mono ?_; rintro e w5 ⟨rfl, B5⟩)
          have B7 := (B5.alloc B5.size (.cells #[.int .u64 X0, .int .u64 X1] 38)).alloc (by simp; have := B5.size; omega) (.cells #[.int .u64 Y0, .int .u64 Y1] 38)
          have e1 := heap_alloc_new w5 (.cells #[.int .u64 X0, .int .u64 X1] 38)
          have e2 := heap_alloc_new (w5.alloc (.cells #[.int .u64 X0, .int .u64 X1] 38)) (.cells #[.int .u64 Y0, .int .u64 Y1] 38)
          replace e1 := ((below_alloc (w5.alloc (.cells #[.int .u64 X0, .int .u64 X1] 38)) (.cells #[.int .u64 Y0, .int .u64 Y1] 38)).block _ (by simp)).trans e1
          have hq0 : (w5.alloc (.cells #[.int .u64 X0, .int .u64 X1] 38)).heap.size = w5.heap.size + 1 := by simp
          rw [hq0] at e2
          have l5 : y2.heap.size ≤ w5.heap.size := B5.size
          obtain ⟨M, hM⟩ : ∃ x, x = w5.heap.size := ⟨_, rfl⟩
          obtain ⟨w7, hw7⟩ : ∃ x, x = (w5.alloc (.cells #[.int .u64 X0, .int .u64 X1] 38)).alloc (.cells #[.int .u64 Y0, .int .u64 Y1] 38) := ⟨_, rfl⟩
          rw [← hw7] at e1 e2 B7 ⊢
          rw [← hM] at e1 e2 l5 ⊢
          clear hw7 hM hq0 B5 hCh
          have l7 : M + 1 < w7.heap.size := (Array.getElem?_eq_some_iff.1 e2).1
          obtain ⟨xa, xb⟩ := two_cells e1
          obtain ⟨ya, yb⟩ := two_cells e2
          replace d0 := (B7.cell (p := ⟨CB, 0, none⟩) lC2).trans d0
          replace d3 := (B7.cell (p := ⟨CB, 3, none⟩) lC2).trans d3
          replace d5 := (B7.cell (p := ⟨CB, 5, none⟩) lC2).trans d5
          replace e1 := Lib.hid e1
          replace e2 := Lib.hid e2
          have lC7 : CB < w7.heap.size := Nat.lt_of_lt_of_le lC2 B7.size
          clear d1 d2 d4 d6 v0 v1 v2 v3
          have m1 : (cc != cc) = false := by simp
          have m2 : (ii != ii) = false := by simp
          by_cases hx : q.kind = 10 ∧ 0 < it
          · obtain ⟨z1, z2, z3⟩ := hk1 hx
            obtain ⟨hx1, hx2⟩ := hx
            have s4 : IntKind.u64.wrap (n + Y0 - Y1) = n := by rw [IntWalk.u64_in _ (by omega)]; omega
            have s6 : IntKind.u64.wrap (n + G) = n + G := IntWalk.u64_in _ (by omega)
            have s7 : IntKind.u64.wrap (n + G - L) = ii := by have := hii.out; rw [IntWalk.u64_in _ (by omega)]; omega
            rw [hx1] at d0
            clear hk1 hk2 z1 z2 z3 hx1
            go_wp2_with (first
              | (go_at_call 10; refine (hCr _).mono ?_; rintro e w8 ⟨rfl, B8⟩; have B78 := below_trans B7 B8; have hC8 := hC _ B78)
              | (go_at_call 11; refine hC8.mono ?_; rintro e w9 ⟨rfl, B9⟩; have B79 := below_trans B78 B9; have hI9 := hI _ B79)
              | (go_at_call 12; refine hI9.mono ?_; rintro e w10 ⟨rfl, B10⟩))
            go_roundw
            case rel =>
              have KS2 := KS.out w10 (below_trans B79 B10)
              first
                | exact ⟨j + 1, g, cc, ii, by omega, by go_num, rfl, rfl, Lib.hid KS2⟩
                | ((repeat apply Exists.intro); exact ⟨⟨j + 1, g, cc, ii, by omega, by go_num, rfl, rfl, Lib.hid KS2⟩, rfl⟩)
            case measure => simp [intOf]; omega
          · have z3 := hk2 hx
            have s4 : IntKind.u64.wrap (n + Y0 - Y1) = ii := by have := hii.out; rw [IntWalk.u64_in _ (by omega)]; omega
            have hC7 := hC _ B7
            have hx' : (q.kind = 10 ∧ ¬ 0 < it) ∨ ¬ q.kind = 10 := by omega
            clear hk1 hk2 z3
            rcases hx' with ⟨hx1, hx2⟩ | hx1
            all_goals (
              try rw [hx1] at d0
              go_wp2_with (first
                | (go_at_call 11; refine hC7.mono ?_; rintro e w9 ⟨rfl, B9⟩; have B79 := below_trans B7 B9; have hI9 := hI _ B79)
                | (go_at_call 12; refine hI9.mono ?_; rintro e w10 ⟨rfl, B10⟩))
              go_roundw
              case rel =>
                have KS2 := KS.out w10 (below_trans B79 B10)
                first
                  | exact ⟨j + 1, g, cc, ii, by omega, by go_num, rfl, rfl, Lib.hid KS2⟩
                  | ((repeat apply Exists.intro); exact ⟨⟨j + 1, g, cc, ii, by omega, by go_num, rfl, rfl, Lib.hid KS2⟩, rfl⟩)
              case measure => simp [intOf]; omega)
        · have hgf := (hZ.out he).symm
          subst hgf
          have hA2 := all_w Sa2 (by omega) K.out.ok
          have HO2 := Lib.hid ho2
          have HA := Lib.hid hAll
          clear ho2 hAll hE hZ
          have hS : ∀ w5 v5 l5, IsAll f l5 → Below y2.heap.size y2 w5 → w5.ownsRow y2.heap.size 57 6 v5 l5.length (celCells l5) → Calls Tryz.prog 8 #[v, v5] w5 fun e w' => e = .returned (.bool true) ∧ Below w5.heap.size w5 w' := by
            intro w5 v5 l5 h5 B5 o5
            have hu := h5.unique HA.out
            subst hu
            exact samec_any l5 v v5 _ _ w5 (owns_below HO2.out B5) o5
          go_wp2_with (first
            | (go_at_call 6; refine hA2.mono ?_; rintro e w5 ⟨v5, l5, rfl, hAll5, hll5, hown5, B5⟩; have hS5 := hS w5 v5 l5 hAll5 B5 hown5; clear hAll5 hll5 hown5)
            | (go_at_call 8; refine hS5.mono ?_; rintro e w6 ⟨rfl, B6⟩))
          go_roundw
          case rel =>
            have B56 := below_trans B5 B6
            have KS : KeepSt w N it (j + 1) f c n w6 := ⟨K.out.ok, K.out.inv, K.out.coins, K.out.items, by have := K.out.cb; omega, by have := K.out.ib; omega, (Sa2.below B56).mono (by omega), B2.trans (B56.mono B2.size)⟩
            first
              | exact ⟨j + 1, f, c, n, by omega, by go_num, rfl, rfl, Lib.hid KS⟩
              | ((repeat apply Exists.intro); exact ⟨⟨j + 1, f, c, n, by omega, by go_num, rfl, rfl, Lib.hid KS⟩, rfl⟩)
          case measure => simp [intOf]; omega
    · obtain rfl : j = ops.length := by omega
      go_wp2_with fail
      go_ret
      exact ⟨rfl, K.out.below⟩
end Go.Proofs.YtdbpjbmalinlbaaGreat
