/- Contract of breakPatternsOrdered at uint32: what was in a part is in it still (printed by srtf.py). -/
import Derived.Test.YtilknhackmccpaaSrtE
import Derived.Test.YtilknhackmccpaaSort
import Derived.Sort.LotD5
set_option linter.unusedVariables false
set_option linter.unusedSimpArgs false
namespace Go.Proofs.Ytilknhackmccpaa
open Go.RowKit Go.Sort

theorem pow_u (n : Nat) (hn : n < 4611686018427387904) (w : World) :
    Calls Try.prog 112 #[.int .i64 n] w fun e w' => e = .returned (.int .u64 ((1 <<< bitsLen n : Nat) : Int)) ∧ w' = w :=
  AnyF.nextPowerOfTwo (P := Try.prog) (ρ := Try.sortKey_ren) { Try.sortKey with } n hn w
theorem xor_u (rb X : Nat) (hX : X < 18446744073709551616) (w : World) (hc : w.cell? ⟨rb, 0, none⟩ = some (.int .u64 X)) (hf : w.frozen? ⟨rb, 0, none⟩ = false) :
    Calls Try.prog 113 #[.pointer (some ⟨rb, 0, none⟩)] w fun e w' => e = .returned (.int .u64 (xorNextN X : Nat)) ∧ w' = (w.setCell ⟨rb, 0, none⟩ (.int .u64 (xorNextN X : Nat))).drewN 3 :=
  AnyF.xorshift_Next (P := Try.prog) (ρ := Try.sortKey_ren) { Try.sortKey with } rb 0 X hX w hc hf
theorem Rw.aside {w0 w w' : World} {g N rb : Nat} {e : TypeId} {d : Array Int} (h : Rw w0 g N e d w) (hg : w.grownBy w' (some rb)) (hr : w0.heap.size ≤ rb) (hne : rb ≠ g) : Rw w0 g N e d w' :=
  ⟨h.row.kept hg hne, h.grown.andThen hg fun j hj => by cases hj; exact .inl hr⟩

set_option maxRecDepth 100000 in
set_option maxHeartbeats 8000000 in
theorem break_u (g N n cap a b : Nat) (e : TypeId) (d : Array Int) (w : World) (H : Row w g N e d) (hn : d.size = n) (hab : a + 12 < b) (hb : b ≤ n) (hsz : n < 2305843009213693952) :
    Calls Try.prog 91 #[.slice (some ⟨g, 0, none⟩) n cap, .int .i64 a, .int .i64 b] w fun r w' =>
      r = .returned (.tuple #[]) ∧ ∃ d', PermIn a b d d' ∧ Rw w g N e d' w' := by
  obtain ⟨l, hl⟩ : ∃ l, b - a = l := ⟨_, rfl⟩
  have hli : (b : Int) - (a : Int) = (l : Int) := by omega
  obtain ⟨q, hq⟩ : ∃ q, l / 4 = q := ⟨_, rfl⟩
  have hqi : (l : Int).tdiv 4 = (q : Int) := by rw [Int.tdiv_eq_ediv_of_nonneg (by omega)]; omega
  have lg := H.lt
  have wl : IntKind.u64.wrap (l : Int) = (l : Int) := IntWalk.u64_in _ (by omega)
  have R1 := (Rw.refl H).alloc (.cells #[.int .u64 (l : Int)] 151)
  have K1 : (w.alloc (.cells #[.int .u64 (l : Int)] 151)).heap[w.heap.size]? = some (.cells #[.int .u64 (l : Int)] 151) := heap_alloc_new _ _
  obtain ⟨rb, hrb⟩ : ∃ rb, rb = w.heap.size := ⟨_, rfl⟩
  obtain ⟨w1, hw1⟩ : ∃ w1, w1 = w.alloc (.cells #[.int .u64 (l : Int)] 151) := ⟨_, rfl⟩
  obtain ⟨M, hM⟩ : ∃ M, 1 <<< bitsLen l = M := ⟨_, rfl⟩
  have hM2 : M ≤ 2 * l ∧ 1 ≤ M := by
    have h1 := two_pow_bitsLen_le (n := l) (by omega)
    have h2 := Nat.two_pow_pos (bitsLen l)
    rw [← hM, Nat.shiftLeft_eq, Nat.one_mul]
    exact ⟨h1, h2⟩
  have hPow := pow_u l (by omega) w1
  rw [hM] at hPow
  go_enter Try.func91, Try.ntmps91
  have l8 : (8 : Int) ≤ (l : Int) := by omega
  go_upto_region 3 with fail
  rw [← hw1, ← hrb]
  rw [← hw1, ← hrb] at K1
  rw [← hw1] at R1
  have hrw : w.heap.size ≤ rb := by omega
  have hne : rb ≠ g := by omega
  clear hw1 hM
  replace hrb := Lib.hid hrb
  replace K1 := Lib.hid K1
  replace R1 := Lib.hid R1
  obtain ⟨S, hS⟩ : ∃ S, a + q * 2 = S := ⟨_, rfl⟩
  have hSi : (a : Int) + (q : Int) * 2 = (S : Int) := by omega
  have hS1 : 1 ≤ S := by omega
  have hSi1 : (S : Int) - 1 = ((S - 1 : Nat) : Int) := by omega
  go_upto_region 4 with (go_at_call 112; refine hPow.mono ?_; rintro r w2 ⟨rfl, rfl⟩)
  go_wp2
  go_loopw [9, 10] (fun vi _ wr => ∃ (idx : Nat) (dk : Array Int) (X : Nat), vi = .int .i64 idx ∧ S - 1 ≤ idx ∧ idx ≤ S + 2 ∧ X < 18446744073709551616 ∧ dk.size = n ∧ Hid (PermIn a b d dk) ∧ Hid (Rw w g N e dk wr) ∧ Hid (wr.heap[rb]? = some (.cells #[.int .u64 (X : Int)] 151))) (fun vi _ _ => S + 2 - (intOf vi).toNat)
  case atStart => exact ⟨S - 1, d, l, rfl, Nat.le_refl _, by omega, by omega, hn, Lib.hid (permIn_refl _ _ _), R1, K1⟩
  case round =>
    clear R1 K1 hPow
    obtain ⟨idx, dk, X, rfl, hi1, hi2, hX, hsk, P, RK, K⟩ := hrel
    by_cases hlt : idx ≤ S + 1
    · have cx : wr.cell? ⟨rb, 0, none⟩ = some (.int .u64 (X : Int)) := by rw [cell_of_row wr rb _ _ _ _ K.out]; rfl
      have fx : wr.frozen? ⟨rb, 0, none⟩ = false := by have := K.out; simp [World.frozen?, this]
      have hx := xor_u rb X hX wr cx fx
      obtain ⟨Y, hY⟩ : ∃ Y, xorNextN X = Y := ⟨_, rfl⟩
      have hYb := xorNextN_lt X hX
      rw [hY] at hx hYb
      clear hY
      obtain ⟨o, ho⟩ : ∃ o, Y &&& (M - 1) = o := ⟨_, rfl⟩
      have hob : o ≤ M - 1 := by rw [← ho]; exact Nat.and_le_right
      have hMi : (M : Int) - 1 = ((M - 1 : Nat) : Int) := by omega
      have hbits : bits BinOp.and .u64 (Y : Int) ((M - 1 : Nat) : Int) = (o : Int) := by rw [u64_and_nat Y (M - 1) hYb (by omega), ho]
      have wo : IntKind.i64.wrap (o : Int) = (o : Int) := IntWalk.i64_in _ (by omega)
      have hle : (idx : Int) ≤ (S : Int) + 1 := by omega
      have R2 : Rw w g N e dk ((wr.setCell ⟨rb, 0, none⟩ (.int .u64 (Y : Int))).drewN 3) := RK.out.aside ((grown_set wr rb 0 _).trans (grown_drewN _ 3 _)) hrw hne
      have K2 : ((wr.setCell ⟨rb, 0, none⟩ (.int .u64 (Y : Int))).drewN 3).heap[rb]? = some (.cells #[.int .u64 (Y : Int)] 151) := by
        have := K.out
        simp [World.drewN, World.setCell, Array.getElem?_modify, this]
      obtain ⟨w2, hw2⟩ : ∃ w2, w2 = (wr.setCell ⟨rb, 0, none⟩ (.int .u64 (Y : Int))).drewN 3 := ⟨_, rfl⟩
      rw [← hw2] at R2 K2 hx
      clear hw2 ho
      have lrb : rb < wr.heap.size := (Array.getElem?_eq_some_iff.1 K.out).1
      replace R2 := Lib.hid R2
      replace K2 := Lib.hid K2
      obtain ⟨G, hG, -, -⟩ := R2.out.fam hsk
      replace hG := Lib.hid hG
      by_cases hol : l ≤ o
      · have holi : (l : Int) ≤ (o : Int) := by omega
        obtain ⟨o', ho'⟩ : ∃ o', o - l = o' := ⟨_, rfl⟩
        have hoi : (o : Int) - (l : Int) = (o' : Int) := by omega
        go_upto_region 10 with (go_at_call 113; refine hx.mono ?_; rintro r w3 ⟨rfl, rfl⟩)
        obtain ⟨Z, a1, a2⟩ := R2.out.alias (i := idx) (j := a + o') (by omega) (by omega) (G (a + o'))
        have c1 := R2.out.at hG.out (i := idx) (by omega)
        have c2 := R2.out.at hG.out (i := a + o') (by omega)
        have f1 := R2.out.row.froz idx
        have f2 := R2.out.row.froz (a + o')
        have R3 := R2.out.swap (i := idx) (j := a + o') (by omega) (by omega) 1
        rw [hG.out, hG.out] at R3
        have K3 : (((w3.drewN 1).setCell ⟨g, idx, none⟩ (.int .u32 (G (a + o')))).setCell ⟨g, a + o', none⟩ (.int .u32 (G idx))).heap[rb]? = some (.cells #[.int .u64 (Y : Int)] 151) := by
          rw [Below.heap_setCell _ _ _ _ (by show rb ≠ g; omega), Below.heap_setCell _ _ _ _ (by show rb ≠ g; omega)]; exact K2.out
        have P3 : PermIn a b d (swp dk idx (a + o')) := permIn_trans _ _ _ a b P.out (swp_permIn dk a b idx (a + o') (by omega) (by omega) (by omega) (by omega) (by omega))
        replace R3 := Lib.hid R3
        replace K3 := Lib.hid K3
        replace P3 := Lib.hid P3
        first | go_region | fail
        all_goals (
          go_wp2
          go_roundw
          case rel => first | exact ⟨idx + 1, _, Y, by go_num, by omega, by omega, by omega, by rw [size_swp]; exact hsk, P3, R3, K3⟩ | ((repeat apply Exists.intro); exact ⟨⟨idx + 1, _, Y, by go_num, by omega, by omega, by omega, by rw [size_swp]; exact hsk, P3, R3, K3⟩, rfl⟩)
          case measure => simp [intOf]; omega)
      · have holi : ¬ (l : Int) ≤ (o : Int) := by omega
        go_upto_region 10 with (go_at_call 113; refine hx.mono ?_; rintro r w3 ⟨rfl, rfl⟩)
        obtain ⟨Z, a1, a2⟩ := R2.out.alias (i := idx) (j := a + o) (by omega) (by omega) (G (a + o))
        have c1 := R2.out.at hG.out (i := idx) (by omega)
        have c2 := R2.out.at hG.out (i := a + o) (by omega)
        have f1 := R2.out.row.froz idx
        have f2 := R2.out.row.froz (a + o)
        have R3 := R2.out.swap (i := idx) (j := a + o) (by omega) (by omega) 1
        rw [hG.out, hG.out] at R3
        have K3 : (((w3.drewN 1).setCell ⟨g, idx, none⟩ (.int .u32 (G (a + o)))).setCell ⟨g, a + o, none⟩ (.int .u32 (G idx))).heap[rb]? = some (.cells #[.int .u64 (Y : Int)] 151) := by
          rw [Below.heap_setCell _ _ _ _ (by show rb ≠ g; omega), Below.heap_setCell _ _ _ _ (by show rb ≠ g; omega)]; exact K2.out
        have P3 : PermIn a b d (swp dk idx (a + o)) := permIn_trans _ _ _ a b P.out (swp_permIn dk a b idx (a + o) (by omega) (by omega) (by omega) (by omega) (by omega))
        replace R3 := Lib.hid R3
        replace K3 := Lib.hid K3
        replace P3 := Lib.hid P3
        first | go_region | fail
        all_goals (
          go_wp2
          go_roundw
          case rel => first | exact ⟨idx + 1, _, Y, by go_num, by omega, by omega, by omega, by rw [size_swp]; exact hsk, P3, R3, K3⟩ | ((repeat apply Exists.intro); exact ⟨⟨idx + 1, _, Y, by go_num, by omega, by omega, by omega, by rw [size_swp]; exact hsk, P3, R3, K3⟩, rfl⟩)
          case measure => simp [intOf]; omega)
    · have hle : ¬ (idx : Int) ≤ (S : Int) + 1 := by omega
      go_wp2
      go_end0
      exact ⟨rfl, dk, P.out, RK.out⟩
end Go.Proofs.Ytilknhackmccpaa
