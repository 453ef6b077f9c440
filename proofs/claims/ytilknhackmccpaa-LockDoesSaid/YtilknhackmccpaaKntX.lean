/- SameEdges of lists that are alike; the law KnotFinds: its walk. -/
import Derived.Test.YtilknhackmccpaaKntW
import Derived.Laws.StructEq
set_option linter.unusedVariables false
set_option linter.unusedSimpArgs false
namespace Go.Proofs.Ytilknhackmccpaa
open Go.RowKit Go.Sort Go.Maps Go.ChangeMaps Go.MapKept Go.ChangeShapes

theorem flds_e : (Try.prog.fieldsOf 35).toList.map (fun f => (f.name, f.type, f.offset)) = [("From", 23, 0), ("To", 23, 1)] := by kernel_rfl
theorem fields_two {l : List Field} {n1 n2 : String} {t1 t2 : TypeId} {o1 o2 : Nat} (h : l.map (fun f => (f.name, f.type, f.offset)) = [(n1, t1, o1), (n2, t2, o2)]) :
    ∃ f g : Field, l = [f, g] ∧ f.name = n1 ∧ f.type = t1 ∧ f.offset = o1 ∧ g.name = n2 ∧ g.type = t2 ∧ g.offset = o2 := by
  match l, h with
  | [f, g], h => simp at h; exact ⟨f, g, rfl, h.1.1, h.1.2.1, h.1.2.2, h.2.1, h.2.2.1, h.2.2.2⟩
theorem neq_edge (a b : Int) (w : World) : (binOp .neq 35 (.agg #[.int .u32 a, .int .u32 b]) (.agg #[.int .u32 a, .int .u32 b])).run Try.prog w = .ok (.bool false) w := by
  obtain ⟨f, g, hl, f1, f2, f3, g1, g2, g3⟩ := fields_two flds_e
  rw [run_neq_struct, run_equalIn_agg w 9999 _ _ _ (by kernel_rfl) (by kernel_rfl), hl]
  simp only [Op.eqFields, f1, f2, f3, g1, g2, g3]
  have h1 : ∀ w, (Go.part 23 #[.int .u32 a, .int .u32 b] 0).run Try.prog w = .ok (.int .u32 a) w := fun _ => by kernel_rfl
  have h3 : ∀ w, (Go.part 23 #[.int .u32 a, .int .u32 b] 1).run Try.prog w = .ok (.int .u32 b) w := fun _ => by kernel_rfl
  have i1 : ∀ w, (Op.equalIn 9999 23 (.int .u32 a) (.int .u32 a)).run Try.prog w = .ok (a == a) w := fun w => run_equalIn_int w 9998 _ _ _ _ _ Try.underlying23
  have i2 : ∀ w, (Op.equalIn 9999 23 (.int .u32 b) (.int .u32 b)).run Try.prog w = .ok (b == b) w := fun w => run_equalIn_int w 9998 _ _ _ _ _ Try.underlying23
  simp only [Sem.run_bind, h1, h3, i1, i2, Result.andThen_ok, Sem.run_ite, Sem.run_pure]
  simp

set_option maxRecDepth 100000 in
set_option maxHeartbeats 4000000 in
theorem sameE_u (a1 a2 : Option Addr) (n c1 c2 : Nat) (l : List (Int × Int)) (w : World) (h1 : Edg w a1 l) (h2 : Edg w a2 l) (e1 : l.length = n) (hb1 : n < 4294967296) :
    Calls Try.prog 20 #[.slice a1 n c1, .slice a2 n c2] w fun e w' => e = .returned (.bool true) ∧ ∃ q, w' = w.drewN q := by
  go_enter Try.func20, Try.ntmps20
  go_wp2
  go_loopw [5] (fun vi wr => ∃ i q : Nat, vi = .int .i64 i ∧ i ≤ n ∧ Hid (wr = w.drewN q)) (fun vi _ => n - (intOf vi).toNat)
  case atStart => exact ⟨0, 0, rfl, Nat.zero_le _, Lib.hid rfl⟩
  case round =>
    obtain ⟨i, q, rfl, hi, hq⟩ := hrel
    by_cases hlt : i < n
    · obtain ⟨b1, o1, rfl, k1⟩ := h1.at (k := i) (by omega)
      obtain ⟨b2, o2, rfl, k2⟩ := h2.at (k := i) (by omega)
      obtain ⟨x, hx⟩ : ∃ x, (l.getD i (0, 0)).1 = x := ⟨_, rfl⟩
      obtain ⟨y, hy⟩ : ∃ x, (l.getD i (0, 0)).2 = x := ⟨_, rfl⟩
      obtain ⟨d1, d2⟩ := k1 i (by omega)
      obtain ⟨d3, d4⟩ := k2 i (by omega)
      rw [hx] at d1 d3
      rw [hy] at d2 d4
      have f1 : wr.cell? ⟨b1, o1 + i * 2, none⟩ = some (.int .u32 x) := by rw [hq.out]; exact d1
      have f2 : wr.cell? ⟨b1, o1 + i * 2 + 1, none⟩ = some (.int .u32 y) := by rw [hq.out]; exact d2
      have f3 : wr.cell? ⟨b2, o2 + i * 2, none⟩ = some (.int .u32 x) := by rw [hq.out]; exact d3
      have f4 : wr.cell? ⟨b2, o2 + i * 2 + 1, none⟩ = some (.int .u32 y) := by rw [hq.out]; exact d4
      clear k1 k2 hx hy d1 d2 d3 d4
      have hlti : (i : Int) < (n : Int) := by omega
      have neqe := neq_edge x y
      go_wp2
      first | go_quiet (first | fail) | fail
      obtain ⟨w1, hw1⟩ : ∃ w1, w1 = wr.drewN nq := ⟨_, rfl⟩
      rw [← hw1]
      have hww : Hid (w1 = w.drewN (q + nq)) := Lib.hid (by rw [hw1, hq.out, drewN_drewN])
      clear hw1
      go_wp2
      go_roundw
      case rel => exact ⟨i + 1, _, by go_num, by omega, hww⟩
      case measure => simp [intOf]; omega
    · have : i = n := by omega
      subst this
      go_wp2
      go_ret
      exact ⟨rfl, _, hq.out⟩

set_option maxRecDepth 100000 in
set_option maxHeartbeats 4000000 in
theorem finds_walk (w : World) (l : List (Int × Int)) (v : Value) (hv : EdgesIn w v l) (tg : Int) (t1 : 0 ≤ tg) (t2 : tg ≤ 4294967295) (lr : List Int) (vr : Value) (hvr : NumsIn w vr lr) :
    Calls Try.prog 3 #[v, .int .u32 tg, vr] w fun e w' => e = .returned (.bool true) ∧ Below w.heap.size w w' := by
  obtain ⟨a, cap, rfl, hE, hU⟩ := hv
  obtain ⟨ar, capr, rfl, hNr, hUr⟩ := hvr
  obtain ⟨n, hn⟩ : ∃ n, l.length = n := ⟨_, rfl⟩
  obtain ⟨nr, hnr⟩ : ∃ n, lr.length = n := ⟨_, rfl⟩
  rw [hn, hnr]
  have htg : U tg := ⟨t1, t2⟩
  have hK := known_u w
  by_cases h40 : 40 < n
  · have h40i : (40 : Int) < (n : Int) := by omega
    go_enter Try.func3, Try.ntmps3
    go_wp2_with (go_at_call 14; refine hK.mono ?_; rintro e w1 ⟨rfl, b1⟩)
    go_ret
    exact ⟨rfl, b1⟩
  by_cases h100 : 100 < nr
  · have h40i : ¬ (40 : Int) < (n : Int) := by omega
    have h100i : (100 : Int) < (nr : Int) := by omega
    go_enter Try.func3, Try.ntmps3
    go_wp2_with (go_at_call 14; refine hK.mono ?_; rintro e w1 ⟨rfl, b1⟩)
    go_ret
    exact ⟨rfl, b1⟩
  have h40i : ¬ (40 : Int) < (n : Int) := by omega
  have h100i : ¬ (100 : Int) < (nr : Int) := by omega
  go_enter Try.func3, Try.ntmps3
  go_upto_region 4 with (go_at_call 14; refine hK.mono ?_; rintro e w1 ⟨rfl, b1⟩)
  have hE1 := hE.keep b1 (Nat.le_refl _)
  obtain ⟨B, hB⟩ : ∃ B, w1.heap.size = B := ⟨_, rfl⟩
  have hO0 : OwnE w1 B (.slice none 0 0) [] := OwnE.nil _ _
  clear hK
  go_upto_region 5 with (at_builtin; refine wpList_append_e rfl _ _ rfl B _ [] rfl hO0 a n cap l rfl hE1 hn (fun e => hn ▸ hE1.none0 e) (by simp; omega) (by omega) ?_; intro v1 w3 hO1 g1)
  have g1n : w1.grownBy w3 none := g1
  have b3 : Below w.heap.size w w3 := b1.grown g1n b1.size (fun j hj => by cases hj)
  rw [List.nil_append] at hO1
  have hE3 := hE.keep b3 (Nat.le_refl _)
  have hNr3 := hNr.keep b3 (Nat.le_refl _)
  obtain ⟨ao, co, rfl, hEo⟩ := hO1.edg
  rw [hn]
  have hC := cycle_u ao n co l tg w3 hEo hU hn (by omega) htg
  have hlen := cyc_length hU (tg := tg)
  obtain ⟨r, hr⟩ : ∃ r, cyc l tg = r := ⟨_, rfl⟩
  rw [hr] at hC hlen
  go_upto_region 6 with (go_at_call 15; refine hC.mono ?_; rintro e w4 ⟨va, rfl, hoa, b4⟩)
  have hE4 := hE3.keep b4 (Nat.le_refl _)
  have hD := rcycle_u a n cap l tg w4 hE4 hU hn (by omega) htg
  rw [hr] at hD
  clear hC
  go_upto_region 7 with (go_at_call 16; refine hD.mono ?_; rintro e w5 ⟨vb, rfl, hob, b5⟩)
  have hoa5 := own_keep hoa b5
  have hNr5 := (hNr3.keep b4 (Nat.le_refl _)).keep b5 (Nat.le_refl _)
  have hV1 := victim_u ar nr capr lr w5 hNr5 hnr (by omega) hUr
  have hV2 := rvictim_u ar nr capr lr w5 hNr5 hnr (by omega) hUr
  obtain ⟨mx, hmx⟩ : ∃ m, maxL lr = m := ⟨_, rfl⟩
  obtain ⟨isv, his⟩ : ∃ b, decide (lr ≠ []) = b := ⟨_, rfl⟩
  rw [hmx, his] at hV1 hV2
  obtain ⟨aa, ca, rfl, hNa⟩ := own_nums hoa5
  obtain ⟨ab, cb, rfl, hNb⟩ := own_nums hob
  obtain ⟨L, hL⟩ : ∃ L, r.length = L := ⟨_, rfl⟩
  rw [hL] at hlen ⊢
  have hS := same_u aa ab L ca L cb r r w5 hNa hNb hL hL (by omega) (by omega)
  rw [decide_eq_true rfl] at hS
  have hE5 := hE4.keep b5 (Nat.le_refl _)
  have hEo5 := (hEo.keep b4 (Nat.le_refl _)).keep b5 (Nat.le_refl _)
  have hSE : ∀ q, Calls Try.prog 20 #[.slice ao n co, .slice a n cap] (w5.drewN q) fun e w' => e = .returned (.bool true) ∧ ∃ q', w' = (w5.drewN q).drewN q' := fun q =>
    sameE_u ao a n co cap l (w5.drewN q) (hEo5.dr q) (hE5.dr q) hn (by omega)
  have b55 : Below w.heap.size w w5 := (b3.trans (b4.mono b3.size)).trans (b5.mono (Nat.le_trans b3.size b4.size))
  replace hSE := Lib.hid hSE
  replace his := Lib.hid his
  replace hmx := Lib.hid hmx
  clear hD hE hE1 hE3 hE4 hE5 hEo hEo5 hO0 hO1 hNr hNr3 hNr5 hNa hNb hoa hoa5 hob b1 b3 b4 b5 g1 g1n hr hn hnr hL hB
  go_wp2_with (first
    | (go_at_call 17; refine hV1.mono ?_; clear hV1; intro e w' h; rw [h.1, h.2]; clear h w' e)
    | (go_at_call 18; refine hV2.mono ?_; clear hV2; intro e w' h; rw [h.1, h.2]; clear h w' e)
    | (go_at_call 19; refine hS.mono ?_; clear hS; rintro e w6 ⟨rfl, q1, rfl⟩; have hSE1 := hSE.out q1)
    | (go_at_call 20; refine hSE1.mono ?_; clear hSE1; rintro e w7 ⟨rfl, q2, rfl⟩))
  have hbT : Below w.heap.size w (w5.drewN (q1 + q2)) := b55.grown (grown_drewN w5 (q1 + q2) none) b55.size (fun _ h => by cases h)
  replace hbT := Lib.hid hbT
  go_ret
  exact ⟨rfl, hbT.out⟩
end Go.Proofs.Ytilknhackmccpaa
