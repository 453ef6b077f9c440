/- The law KnotRings: its walk. -/
import Derived.Test.YtilknhackmccpaaKntL
set_option linter.unusedVariables false
set_option linter.unusedSimpArgs false
namespace Go.Proofs.Ytilknhackmccpaa
open Go.RowKit Go.Sort Go.Maps Go.ChangeMaps Go.MapKept Go.ChangeShapes

theorem Nums.at {w : World} {a : Option Addr} {l : List Int} (h : Nums w a l) {i : Nat} (hi : i < l.length) : ∃ eb off, a = some ⟨eb, off, none⟩ ∧ ∀ i, i < l.length → w.cell? ⟨eb, off + i, none⟩ = some (.int .u32 (l.getD i 0)) := by
  obtain ⟨eb, off, h1, _, h3⟩ := h (by rintro rfl; simp at hi)
  exact ⟨eb, off, h1, h3⟩
theorem getD_getElem? {l : List Int} {i : Nat} (h : i < l.length) : l[i]? = some (l.getD i 0) := by
  simp [List.getD_eq_getElem?_getD, List.getElem?_eq_getElem h]
theorem Ring.ne {f : Int → List Int} {tg : Int} {r : List Int} (h : Ring f tg r) {i k : Nat} (hi : i < r.length) (hk : k < i) : r.getD i 0 ≠ r.getD k 0 := by
  intro e
  have h1 := getD_getElem? hi
  have h2 := getD_getElem? (show k < r.length by omega)
  rw [e, ← h2] at h1
  rw [List.getElem?_eq_getElem hi, List.getElem?_eq_getElem (show k < r.length by omega)] at h1
  have := (List.getElem_inj (h₀ := hi) (h₁ := show k < r.length by omega) h.nodup).1 (by simpa using h1)
  omega
theorem Ring.next {l : List (Int × Int)} {tg : Int} {r : List Int} (h : Ring (nx l) tg r) {i : Nat} (hi : i < r.length) : (r.getD i 0, r.getD ((i + 1) % r.length) 0) ∈ l := by
  rcases Nat.lt_or_ge (i + 1) r.length with h1 | h1
  · rw [Nat.mod_eq_of_lt h1]
    exact mem_nx.1 (h.links i _ _ (getD_getElem? hi) (getD_getElem? h1))
  · have : i + 1 = r.length := by omega
    rw [this, Nat.mod_self]
    obtain ⟨last, h2, h3⟩ := h.back
    have h4 := getD_getElem? hi
    rw [show i = r.length - 1 by omega] at h4 ⊢
    rw [h2] at h4
    have h5 := h.head
    rw [getD_getElem? (show 0 < r.length by omega)] at h5
    cases h4
    cases h5
    exact mem_nx.1 h3

set_option maxRecDepth 100000 in
set_option maxHeartbeats 4000000 in
theorem rings_walk (w : World) (l : List (Int × Int)) (v : Value) (hv : EdgesIn w v l) (tg : Int) (t1 : 0 ≤ tg) (t2 : tg ≤ 4294967295) :
    Calls Try.prog 4 #[v, .int .u32 tg] w fun e w' => e = .returned (.bool true) ∧ Below w.heap.size w w' := by
  obtain ⟨a, cap, rfl, hE, hU⟩ := hv
  obtain ⟨n, hn⟩ : ∃ n, l.length = n := ⟨_, rfl⟩
  rw [hn]
  have htg : U tg := ⟨t1, t2⟩
  by_cases h40 : 40 < n
  · have h40i : (40 : Int) < (n : Int) := by omega
    have hK := known_u w
    go_enter Try.func4, Try.ntmps4
    go_wp2_with (go_at_call 14; refine hK.mono ?_; rintro e w1 ⟨rfl, b1⟩)
    go_ret
    exact ⟨rfl, b1⟩
  · have h40i : ¬ (40 : Int) < (n : Int) := by omega
    have hK := known_u w
    obtain ⟨N, hN⟩ : ∃ N, w.heap.size = N := ⟨_, rfl⟩
    go_enter Try.func4, Try.ntmps4
    go_upto_region 3 with (go_at_call 14; refine hK.mono ?_; rintro e w1 ⟨rfl, b1⟩)
    have hE1 := hE.keep b1 (Nat.le_refl _)
    have hC := cycle_u a n cap l tg w1 hE1 hU hn (by omega) htg
    clear hK
    go_upto_region 4 with (go_at_call 15; refine hC.mono ?_; rintro e w2 ⟨vr, rfl, ho, b2⟩)
    have hE2 := hE1.keep b2 (Nat.le_refl _)
    have bb : Below w.heap.size w w2 := b1.trans (b2.mono b1.size)
    have hlen := cyc_length hU (tg := tg)
    have hring := cyc_ring (l := l) (tg := tg)
    obtain ⟨r, hr⟩ : ∃ r, cyc l tg = r := ⟨_, rfl⟩
    rw [hr] at ho hlen hring
    obtain ⟨ar, cr, rfl, hNr⟩ := own_nums ho
    obtain ⟨L, hL⟩ : ∃ L, r.length = L := ⟨_, rfl⟩
    rw [hL]
    clear hC ho hE1 b1 b2 hr
    by_cases h0 : L = 0
    · subst h0
      go_wp2
      go_ret
      exact ⟨rfl, bb⟩
    · have h0i : ((L : Int) == 0) = false := by simp; omega
      have hR := Lib.hid (hring (by rintro rfl; simp at hL; omega))
      obtain ⟨eb, off, rfl, hc⟩ := hNr.at (i := 0) (by omega)
      rw [hL] at hc hlen
      clear hring hNr
      replace hL := Lib.hid hL
      go_wp2
      go_loopw [6, 7] (fun vi _ wr => ∃ i q : Nat, vi = .int .i64 i ∧ i ≤ L ∧ Hid (wr = w2.drewN q)) (fun vi _ _ => L - (intOf vi).toNat)
      case atStart => exact ⟨0, 0, rfl, Nat.zero_le _, Lib.hid rfl⟩
      case round =>
        obtain ⟨i, q, rfl, hi, hq⟩ := hrel
        by_cases hlt : i < L
        · have hlti : (i : Int) < (L : Int) := by omega
          go_wp2
          go_loopw [7] (fun vk wk => ∃ k q : Nat, vk = .int .i64 k ∧ k ≤ i ∧ Hid (wk = w2.drewN q)) (fun vk _ => i - (intOf vk).toNat)
          case atStart => exact ⟨0, q, rfl, Nat.zero_le _, hq⟩
          case round =>
            obtain ⟨k, q2, rfl, hk, hq2⟩ := hrel
            obtain ⟨x, hx⟩ : ∃ x, r.getD i 0 = x := ⟨_, rfl⟩
            have cx : wr.cell? ⟨eb, off + i, none⟩ = some (.int .u32 x) := by rw [hq2.out, ← hx]; exact hc i hlt
            by_cases hki : k < i
            · have hkii : (k : Int) < (i : Int) := by omega
              have hkL : (k : Int) < (L : Int) := by omega
              obtain ⟨y, hy⟩ : ∃ x, r.getD k 0 = x := ⟨_, rfl⟩
              have cy : wr.cell? ⟨eb, off + k, none⟩ = some (.int .u32 y) := by rw [hq2.out, ← hy]; exact hc k (by omega)
              have hxy : (x == y) = false := by
                have := hR.out.ne (i := i) (k := k) (by rw [hL.out]; exact hlt) hki
                rw [hx, hy] at this
                simpa using this
              go_wp2
              first | go_quiet (first | fail) | fail
              obtain ⟨w3, hw3⟩ : ∃ w1, w1 = wr.drewN nq := ⟨_, rfl⟩
              rw [← hw3]
              have hww : Hid (w3 = w2.drewN (q2 + nq)) := Lib.hid (by rw [hw3, hq2.out, drewN_drewN])
              clear hw3
              go_wp2
              go_roundw
              case rel => exact ⟨k + 1, _, by go_num, by omega, hww⟩
              case measure => simp [intOf]; omega
            · have : k = i := by omega
              subst this
              obtain ⟨j, hj⟩ : ∃ j, (k + 1) % L = j := ⟨_, rfl⟩
              have hjL : j < L := by rw [← hj]; exact Nat.mod_lt _ (by omega)
              obtain ⟨m, hm⟩ : ∃ m, k + 1 = m := ⟨_, rfl⟩
              have hmi : (k : Int) + 1 = (m : Int) := by omega
              have hjm : (m : Int).tmod (L : Int) = (j : Int) := by
                rw [Int.tmod_eq_emod_of_nonneg (by omega), ← Int.natCast_emod, ← hj, hm]
              have hLne : ((L : Int) == 0) = false := h0i
              obtain ⟨y, hy⟩ : ∃ x, r.getD j 0 = x := ⟨_, rfl⟩
              have cy : wr.cell? ⟨eb, off + j, none⟩ = some (.int .u32 y) := by rw [hq2.out, ← hy]; exact hc j (by omega)
              have hed : decide ((x, y) ∈ l) = true := by
                have := hR.out.next (i := k) (by rw [hL.out]; exact hlt)
                rw [hL.out, hj, hx, hy] at this
                simpa using this
              have hEk : Edg wr a l := by rw [hq2.out]; exact hE2
              have hjLi : (j : Int) < (L : Int) := by omega
              have hed2 := edge_u a n cap l x y
              rw [hed] at hed2
              replace hj := Lib.hid hj
              replace hm := Lib.hid hm
              go_wp2
              first | go_quiet (first | (go_at_call 21; refine Calls.quiet_of_same (hed2 _ hEk hn (by omega)))) | fail
              obtain ⟨w3, hw3⟩ : ∃ w1, w1 = wr.drewN nq := ⟨_, rfl⟩
              rw [← hw3]
              have hww : Hid (w3 = w2.drewN (q2 + nq)) := Lib.hid (by rw [hw3, hq2.out, drewN_drewN])
              clear hw3
              go_wp2
              go_roundw
              case rel => exact ⟨k + 1, _, by go_num, by omega, hww⟩
              case measure => simp [intOf]; omega
        · have hiL : i = L := by omega
          have c0 : wr.cell? ⟨eb, off, none⟩ = some (.int .u32 tg) := by
            rw [hq.out]
            have h1 := hR.out.head
            rw [getD_getElem? (by rw [hL.out]; omega)] at h1
            have h2 := hc 0 (by omega)
            cases h1
            exact h2
          have hL1 : (0 : Int) < (L : Int) := by omega
          go_wp2
          go_ret
          exact ⟨by simp, by rw [hq.out]; exact ⟨bb.os, bb.tape, bb.output, bb.size, bb.block⟩⟩
end Go.Proofs.Ytilknhackmccpaa
