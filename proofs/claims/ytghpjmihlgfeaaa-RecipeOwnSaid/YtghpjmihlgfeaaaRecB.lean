/- Contracts of the reference's recipes. -/
import Derived.Test.YtghpjmihlgfeaaaRecA
import Derived.Test.YtghpjmihlgfeaaaMoneyG
import Derived.StillTactics
import Derived.Laws.Pointers
import Derived.Deep.RegionHeld3
import Derived.Deep.AppendLies
namespace Go.Proofs.Ytghpjmihlgfeaaa
open Go.RowKit

/-- The j-th row of stacks. -/
def prAt (zs : List Int) (n : Int) (j : Nat) : Int × Int := (zs.getD (2 * j) 0, zs.getD (2 * j + 1) 0 * n)
def prs (zs : List Int) (n : Int) (k : Nat) : List (Int × Int) := (List.range k).map (prAt zs n)
theorem prs_succ (zs : List Int) (n : Int) (k : Nat) : prs zs n (k + 1) = prs zs n k ++ [prAt zs n k] := by
  simp [prs, List.range_succ]
theorem prs_len (zs : List Int) (n : Int) (k : Nat) : (prs zs n k).length = k := by simp [prs]
theorem stkCells_app (l m : List (Int × Int)) : stkCells (l ++ m) = stkCells l ++ stkCells m := by simp [stkCells]
theorem stkCells_len (l : List (Int × Int)) : (stkCells l).length = 2 * l.length := by
  induction l with
  | nil => rfl
  | cons x l ih =>
    have h : stkCells (x :: l) = [.int .u32 x.1, .int .u64 x.2] ++ stkCells l := by simp [stkCells]
    rw [h, List.length_append, ih]; simp; omega

theorem Try.info41 : (Try.prog.info? 41).map (fun i => (i.zero, i.size, i.bytes)) = some (some (.agg #[.int .u32 0, .int .u64 0]), 2, 16) := by kernel_rfl

/-- The cells of a new block of two. -/
theorem cells_new2 (w : World) (a b : Value) (t : TypeId) : ∀ (j : Nat) (u : Value), [a, b][j]? = some u → (w.alloc (.cells #[a, b] t)).cell? ((⟨w.heap.size, 0, none⟩ : Addr).add j) = some u := by
  intro j u h
  match j, h with
  | 0, h => simp at h; subst h; simp [Addr.add, go_sem]
  | 1, h => simp at h; subst h; simp [Addr.add, go_sem]
  | j + 2, h => simp at h

set_option maxRecDepth 100000 in
set_option maxHeartbeats 400000 in
theorem stacks_any (b : Nat) (off : Nat) (zs : List Int) (cap : Nat) (n : Int) (k : Nat) (w : World) (hk : zs.length = 2 * k) (hr : RowU w (some ⟨b, off, none⟩) zs) (hz : ∀ x ∈ zs, x ≤ 1000) (n0 : 0 ≤ n) (n1 : n ≤ 1000) (hkm : k ≤ 1000) :
    Calls Try.prog 35 #[.slice (some ⟨b, off, none⟩) zs.length cap, .int .u64 n] w fun e w' => ∃ v, e = .returned v ∧ w'.ownsRow w.heap.size 41 2 v k (stkCells (prs zs n k)) ∧ Below w.heap.size w w' := by
  obtain ⟨i0, hi, hz0, hz1, hz2⟩ := info_parts Try.info41
  have HR := Lib.hid hr
  have HZ := Lib.hid hz
  have HK := Lib.hid hk
  have hkl : (zs.length : Int) ≤ 2000 := by omega
  clear hr hz hk
  go_enter Try.func35, Try.ntmps35
  go_wp2_with fail
  go_loopw [5, 6] (fun v i wr => ∃ j m : Nat, j ≤ k ∧ i = .int .i64 (m : Int) ∧ m = 2 * j ∧ wr.ownsRow w.heap.size 41 2 v j (stkCells (prs zs n j)) ∧ Below w.heap.size w wr) (fun _ i _ => zs.length - (intOf i).toNat)
  case atStart => exact ⟨0, 0, Nat.zero_le _, rfl, rfl, ⟨rfl, .inl ⟨rfl, rfl⟩⟩, Below.refl _ _⟩
  case round =>
    obtain ⟨j, m, hj, rfl, hm, hown, B⟩ := hrel
    have HM := Lib.hid hm
    clear hm
    by_cases hlt : j < k
    · have h1 : m < zs.length := by have := HK.out; have := HM.out; omega
      have h2 : m + 1 < zs.length := by have := HK.out; have := HM.out; omega
      obtain ⟨x, hx⟩ : ∃ x, zs[m]?.getD 0 = x := ⟨_, rfl⟩
      obtain ⟨y, hy⟩ : ∃ y, zs[m + 1]?.getD 0 = y := ⟨_, rfl⟩
      have x0 : 0 ≤ x := by rw [← hx]; exact (HR.out.1 _ (getD_mem zs _ h1)).1
      have y0 : 0 ≤ y := by rw [← hy]; exact (HR.out.1 _ (getD_mem zs _ h2)).1
      have x1 : x ≤ 1000 := by rw [← hx]; exact HZ.out _ (getD_mem zs _ h1)
      have y1 : y ≤ 1000 := by rw [← hy]; exact HZ.out _ (getD_mem zs _ h2)
      have yn0 : 0 ≤ y * n := Int.mul_nonneg y0 n0
      have yn1 : y * n ≤ 1000 * 1000 := Int.mul_le_mul y1 n1 n0 (by omega)
      have cx : wr.cell? ⟨b, off + m, none⟩ = some (.int .u64 x) := by
        rcases HR.out.2 with h | ⟨b', off', ha, hc⟩
        · rw [h] at h1; simp at h1
        · cases ha; rw [B.cell (World.block_lt_of_cell? _ _ (hc _ h1)), hc _ h1, List.getD_eq_getElem?_getD, hx]
      have cy : wr.cell? ⟨b, off + (m + 1), none⟩ = some (.int .u64 y) := by
        rcases HR.out.2 with h | ⟨b', off', ha, hc⟩
        · rw [h] at h1; simp at h1
        · cases ha; rw [B.cell (World.block_lt_of_cell? _ _ (hc _ h2)), hc _ h2, List.getD_eq_getElem?_getD, hy]
      have HX := Lib.hid hx
      have HY := Lib.hid hy
      have l1 : (m : Int) < (zs.length : Int) := by omega
      have l2 : (m : Int) + 1 < (zs.length : Int) := by omega
      clear hx hy
      have s1 : IntKind.i64.wrap ((m : Int) + 1) = (m : Int) + 1 := IntWalk.i64_in _ (by omega)
      have s2 : 0 ≤ (m : Int) + 1 := by omega
      have s3 : ((m : Int) + 1).toNat = m + 1 := by omega
      have s4 : IntKind.u32.wrap x = x := IntWalk.u32_in _ (by omega)
      have s5 : IntKind.u64.wrap (y * n) = y * n := IntWalk.u64_in _ (by omega)
      go_upto_region 5 with fail
      have lb : b < wr.heap.size := World.block_lt_of_cell? _ _ cx
      have ob : u5.ownBlock ≠ some b := fun h => by
        have h3 := (hown.lt _ h).1
        rcases HR.out.2 with h' | ⟨b', off', ha, hc⟩
        · rw [h'] at h1; simp at h1
        · cases ha; have := World.block_lt_of_cell? _ _ (hc _ h1); simp at this; omega
      have hbase : w.heap.size ≤ wr.heap.size := B.size
      go_region_held3 (fun w' => w'.cell? ⟨b, off + m, none⟩ = some (.int .u64 x) ∧ w'.cell? ⟨b, off + (m + 1), none⟩ = some (.int .u64 y))
        (first
          | go_keep
          | (go_split_ands
             refine ⟨?_, ?_⟩
             · (rw [hgrow.cell_far _ (by simp; omega) (Ne.symm ob)]; assumption)
             · (rw [hgrow.cell_far _ (by simp; omega) (Ne.symm ob)]; assumption)))
        ((refine step_append_lies _ (by rfl) _ _ _ (by rfl) w.heap.size 41 i0 _ 2 16 Try.underlying24 hi hz0 hz1 hz2 rfl (by omega) u5 j (stkCells (prs zs n j)) (by rfl) ((hown.alloc _).drew)
            ⟨wr.heap.size, 0, none⟩ 1 1 [.int .u32 x, .int .u64 (y * n)] (by rfl) (by rfl) (World.news_of_block (cs := #[.int .u32 x, .int .u64 (y * n)]) (t := 41) (fr := (0, 0)) (heap_alloc_new wr _)) (by simp [Value.oneCell'])
            (by omega) (by unfold maxLen; omega) (by omega) (by simp; omega) (wr.heap.size + 1) (by simp) ?_; intro gg gcap w1 hown' hgrow hat hlt'))
      have hlt2 := hown.lt
      have B3 : Below w.heap.size w w1 := ((B.alloc hbase _).drew).grown hgrow (by simp; omega) fun k hk => (hlt2 k hk).1
      have e : stkCells (prs zs n j) ++ [.int .u32 x, .int .u64 (y * n)] = stkCells (prs zs n (j + 1)) := by
        rw [prs_succ, stkCells_app]
        have hm := HM.out
        simp only [stkCells, prAt, List.getD_eq_getElem?_getD, ← hm, HX.out, HY.out, List.flatMap_cons, List.flatMap_nil, List.append_nil]
      rw [e] at hown'
      clear hgrow hown B e hlt2 cx cy hat hlt'
      go_wp2_with fail
      go_roundw
      case rel => exact ⟨j + 1, m + 2, by omega, by go_num, by have := HM.out; omega, hown', B3⟩
      case measure => simp [intOf]; omega
    · obtain rfl : j = k := by omega
      have hm : Hid (m = zs.length) := Lib.hid (by have := HM.out; have := HK.out; omega)
      obtain rfl := hm.out
      go_wp2_with fail
      go_ret
      exact ⟨_, rfl, hown, B⟩
end Go.Proofs.Ytghpjmihlgfeaaa
