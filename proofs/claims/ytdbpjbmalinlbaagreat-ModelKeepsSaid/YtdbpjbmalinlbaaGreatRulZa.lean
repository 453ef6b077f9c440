/- Contracts of bid (printed by rulgen.py). -/
import Derived.Test.YtdbpjbmalinlbaaGreatRulZ0
namespace Go.Proofs.YtdbpjbmalinlbaaGreat
open Go.RowKit

section
variable {x : Nat} {o : OpV} {w0 w : World} {R : Res (List Pt × Rp)} {s : List Cel}

def okB (o : OpV) (price : Int) (b : Option Vl) : Bool := decide (price ≤ o.n) && (b.isNone || decide ((b.getD (0, 0)).1 < o.n))
def bidD (o : OpV) (ks : List Ky) (am : List Int) : T (List Pt × Rp) := .done (zipPut ks am ++ [⟨bidK o.id, (o.n, o.who), false⟩], ⟨0, o.n, 0, 0⟩)
def bidE (o : OpV) (b : Option Vl) (pv : Vl) : T (List Pt × Rp) :=
  match b with
  | none => (lessT pv.1 o.n).bind fun l => bidD o [purseK o.who] [l]
  | some bv => if (lo32 bv.2 != o.who) = true then (amountT (purseK (lo32 bv.2))).bind fun q => (moreT q bv.1).bind fun m => (lessT pv.1 o.n).bind fun l => bidD o [purseK o.who, purseK (lo32 bv.2)] [l, m]
    else (moreT pv.1 bv.1).bind fun m => (lessT m o.n).bind fun l => bidD o [purseK o.who] [l]
def bidT (o : OpV) : T (List Pt × Rp) :=
  (mustT (auctionK o.id)).bind fun xv => (checkT (hi32 xv.1 != o.who) 213).bind fun _ => (amountT (priceK o.id)).bind fun price => (seeT (bidK o.id)).bind fun b => (checkT (okB o price b) 214).bind fun _ => (mustT (purseK o.who)).bind fun pv => bidE o b pv

set_option maxRecDepth 100000 in
set_option maxHeartbeats 16000000 in
theorem bid_st (hx0 : x < w0.heap.size) (H : St x o w0 R [] rp0 (bidT o) s w) :
    Calls Tryz.prog 63 #[.pointer (some ⟨x, 0, none⟩)] w (Mets' x o w0 R) := by
  obtain ⟨o0, o1, o2, o3, o4, on, op⟩ := H.opOk
  obtain ⟨c0, c1, c2, c3, c4, c5, c6⟩ := H.op
  have hx := H.lt
  unfold bidT at H
  go_enter Tryz.func63, Tryz.ntmps63
  go_wp2_with (first
    | (go_at_call 92; refine (St.key (auction_any _) H).mono ?_; rintro e w1 ⟨rfl, H1, Q⟩; replace H := H1; clear H1; (try clear c0 c1 c2 c3 c4 c5 c6 hx); obtain ⟨c0, c1, c2, c3, c4, c5, c6⟩ := H.op; have hx := H.lt)
    | (go_at_call 75; refine (St.must H).mono ?_; rintro e w1 (⟨xv, s1, rfl, hxv, H1, Q⟩ | ⟨ch, rfl, P⟩); rotate_left; (focus (go_wp2_with fail; exact ⟨rfl, P.met⟩)); replace H := H1; clear H1; (try clear c0 c1 c2 c3 c4 c5 c6 hx); obtain ⟨c0, c1, c2, c3, c4, c5, c6⟩ := H.op; have hx := H.lt; have faxv := field_a xv.1 xv.2))
  have K1 := Box.newS H (.cells #[.int .u64 xv.1, .int .u64 xv.2] 48)
  replace H := H.alloc (.cells #[.int .u64 xv.1, .int .u64 xv.2] 48)
  obtain ⟨B1, hB1⟩ := K1.name
  rw [← hB1] at K1 ⊢
  clear hB1
  replace H := H.drew
  replace K1 := K1.drew
  obtain ⟨a0, a1, la⟩ := K1.two
  go_region_held2 (fun w' => w'.cell? ⟨B1, 0, none⟩ = some (.int .u64 xv.1) ∧ w'.cell? ⟨x, 1, none⟩ = some (.int .u32 o.who))
    (first | exact ⟨K1.two.1, H.op.2.1⟩ | go_keep)
    (first
      | (go_at_call 69; refine (St.check H).mono ?_; rintro e w1 (⟨rfl, hc, H1, Q⟩ | ⟨ch, rfl, P⟩); rotate_left; (focus (go_wp2_with fail; exact ⟨rfl, P.met⟩)); replace H := H1; clear H1; (try clear c0 c1 c2 c3 c4 c5 c6 hx); obtain ⟨c0, c1, c2, c3, c4, c5, c6⟩ := H.op; have hx := H.lt; replace K1 := K1.step Q))
  all_goals (
    go_upto_region 4 with (first
      | (go_at_call 93; refine (St.key (price_any _) H).mono ?_; rintro e w1 ⟨rfl, H1, Q⟩; replace H := H1; clear H1; (try clear c0 c1 c2 c3 c4 c5 c6 hx); obtain ⟨c0, c1, c2, c3, c4, c5, c6⟩ := H.op; have hx := H.lt)
      | (go_at_call 80; refine (St.amount H).mono ?_; rintro e w1 (⟨price, s1, rfl, hprice, H1, Q⟩ | ⟨ch, rfl, P⟩); rotate_left; (focus (go_wp2_with fail; exact ⟨rfl, P.met⟩)); replace H := H1; clear H1; (try clear c0 c1 c2 c3 c4 c5 c6 hx); obtain ⟨c0, c1, c2, c3, c4, c5, c6⟩ := H.op; have hx := H.lt)
      | (go_at_call 94; refine (St.key (bidk_any _) H).mono ?_; rintro e w1 ⟨rfl, H1, Q⟩; replace H := H1; clear H1; (try clear c0 c1 c2 c3 c4 c5 c6 hx); obtain ⟨c0, c1, c2, c3, c4, c5, c6⟩ := H.op; have hx := H.lt)
      | (go_at_call 72; refine (St.see H).mono ?_; rintro e w1 (⟨b, s1, rfl, hb, H1, Q⟩ | ⟨ch, rfl, P⟩); rotate_left; (focus (go_wp2_with fail; exact ⟨rfl, P.met⟩)); replace H := H1; clear H1; (try clear c0 c1 c2 c3 c4 c5 c6 hx); obtain ⟨c0, c1, c2, c3, c4, c5, c6⟩ := H.op; have hx := H.lt))
    have K4 := Box.newS H (.cells #[.int .u64 (b.getD (0, 0)).1, .int .u64 (b.getD (0, 0)).2] 48)
    replace H := H.alloc (.cells #[.int .u64 (b.getD (0, 0)).1, .int .u64 (b.getD (0, 0)).2] 48)
    obtain ⟨B4, hB4⟩ := K4.name
    rw [← hB4] at K4 ⊢
    clear hB4
    by_cases hp : price ≤ o.n
    rotate_left
    · as_aux_lemma =>
        have hok : okB o price b = false := by simp [okB, hp]
        rw [hok] at H
        have hpb : decide (price ≤ o.n) = false := decide_eq_false hp
        replace H := H.drew
        replace K4 := K4.drew
        obtain ⟨b0, b1, lb⟩ := K4.two
        try clear c0 c1 c2 c3 c4 c5 c6 hx
        obtain ⟨c0, c1, c2, c3, c4, c5, c6⟩ := H.op
        have hx := H.lt
        have hu : undef = Value.tuple #[] := rfl
        first
          | go_region_law (rw [if_pos (by rfl)]; go_simp; refine (St.check H).mono ?_; rintro e w1 (⟨rfl, hc, H1, Q⟩ | ⟨ch, rfl, P⟩); rotate_left; (focus (go_wp2_with fail; exact ⟨rfl, P.met⟩)); replace H := H1; clear H1; (try clear c0 c1 c2 c3 c4 c5 c6 hx); obtain ⟨c0, c1, c2, c3, c4, c5, c6⟩ := H.op; have hx := H.lt; replace K4 := K4.step Q)
          | fail
        all_goals exact absurd hc.out (by decide)
    rcases b with _ | bv
    · as_aux_lemma =>
        dsimp only [Option.getD, Option.isSome] at H K4 ⊢
        have hok : okB o price none = true := by simp [okB, hp]
        rw [hok] at H
        obtain ⟨b0, b1, lb⟩ := K4.two
        try clear c0 c1 c2 c3 c4 c5 c6 hx
        obtain ⟨c0, c1, c2, c3, c4, c5, c6⟩ := H.op
        have hx := H.lt
        go_quiet ((go_at_call 69; exact quiet_same (check_yes _ _)))
        replace H := (H.drewN nq).tree (show _ = (mustT (purseK o.who)).bind fun pv => bidE o none pv from rfl)
        replace K4 := K4.drewN nq
        obtain ⟨w2, hw2⟩ : ∃ w2, w2 = (World.alloc w1 (.cells #[.int .u64 0, .int .u64 0] 48)).drewN nq := ⟨_, rfl⟩
        rw [← hw2] at H K4 ⊢
        clear hw2
        try clear c0 c1 c2 c3 c4 c5 c6 hx
        obtain ⟨c0, c1, c2, c3, c4, c5, c6⟩ := H.op
        have hx := H.lt
        all_goals (
          go_upto_region 6 with fail
          have lSB := H.step.size
          have lB4 := K4.lt
          replace K4 := K4.alloc (ob' := .cells #[.slice none 0 0, .slice none 0 0] 145) H.lt
          have A := Shelf.new H
          replace H := H.alloc (.cells #[.slice none 0 0, .slice none 0 0] 145)
          obtain ⟨SB, hSB⟩ := A.name
          rw [← hSB] at A lSB lB4 ⊢
          clear hSB
          replace H := H.drew
          replace A := A.step (Step.refl x _).drew
          replace K4 := K4.drew
          go_region_held2 (fun w' => w'.cell? ⟨x, 1, none⟩ = some (.int .u32 o.who))
            (first | exact H.op.2.1 | go_keep)
            (first
              | (go_at_call 73; refine (St.key (purse_a _) H).mono ?_; rintro e w1 ⟨rfl, H1, Q⟩; replace H := H1; clear H1; (try clear c0 c1 c2 c3 c4 c5 c6 hx); obtain ⟨c0, c1, c2, c3, c4, c5, c6⟩ := H.op; have hx := H.lt; replace A := A.step Q; replace K4 := K4.step Q)
              | (go_at_call 75; refine (St.must H).mono ?_; rintro e w1 (⟨pv, s1, rfl, hpv, H1, Q⟩ | ⟨ch, rfl, P⟩); rotate_left; (focus (go_wp2_with fail; exact ⟨rfl, P.met⟩)); replace H := H1; clear H1; (try clear c0 c1 c2 c3 c4 c5 c6 hx); obtain ⟨c0, c1, c2, c3, c4, c5, c6⟩ := H.op; have hx := H.lt; replace A := A.step Q; replace K4 := K4.step Q; have fapv := field_a pv.1 pv.2)
              | (go_at_call 89; refine (St.add (k := purseK o.who) H A hx0 lSB (by simp) (by simp)).mono ?_; rintro e w1 ⟨rfl, H1, A1, oth⟩; replace H := H1; clear H1; (try clear c0 c1 c2 c3 c4 c5 c6 hx); obtain ⟨c0, c1, c2, c3, c4, c5, c6⟩ := H.op; have hx := H.lt; replace A := A1; clear A1; replace K4 := oth _ _ lB4 K4))
          all_goals (
            go_upto_region 8 with fail
            obtain ⟨b0, b1, lb⟩ := K4.two
            try clear c0 c1 c2 c3 c4 c5 c6 hx
            obtain ⟨c0, c1, c2, c3, c4, c5, c6⟩ := H.op
            have hx := H.lt
            go_quiet (fail)
            replace H := H.drewN nq
            replace A := A.step (Step.drewN _ nq)
            obtain ⟨w3, hw3⟩ := A.world
            rw [← hw3] at H A ⊢
            clear hw3
            go_upto_region 14 with fail
            obtain ⟨gk, ck, ga, ca, F⟩ := A.fix (n := 1) rfl rfl (by decide)
            replace H := H.drew
            replace F := F.step (Step.refl x _).drew
            obtain ⟨s0, s2, lS, lk, lg, fg, lSg, hxg⟩ := F.facts; have fz := fg 0; have g0 := F.amt (j := 0) rfl
            try clear c0 c1 c2 c3 c4 c5 c6 hx
            obtain ⟨c0, c1, c2, c3, c4, c5, c6⟩ := H.op
            have hx := H.lt
            go_cut [] (fun wx => ∃ n ks am s1, 0 < n ∧ n ≤ 3 ∧ St x o w0 R [] rp0 (bidD o ks am) s1 wx ∧ ShelfF x SB gk ck ga ca n ks am wx)
            case first =>
              refine wp_region_line (m := 15) (fun w' => w'.cell? ⟨SB, 1, none⟩ = some (.slice (some ⟨ga, 0, none⟩) 1 ca) ∧ w'.cell? ⟨ga, 0, none⟩ = some (.int .u64 (pv.1)) ∧ w'.cell? ⟨x, 5, none⟩ = some (.int .u64 o.n)) (by kernel_rfl) (by kernel_rfl) (fun d _ _ _ _ h => by cases d <;> exact h) ⟨s2, g0, c5⟩ ?_
              simp only [List.take_succ_cons, List.take_zero, List.drop_succ_cons, List.drop_zero]
              repeat (refine wpTake_step (v := ?_) (by rfl) ?_ ?_; rotate_left; (focus (intro w hSw; (try dsimp only at hSw); go_simp; try with_reducible rfl)); simp only [Act.put, List.setIfInBounds_toArray, List.set_cons_zero, List.set_cons_succ])
              refine wpTake_nil ?_
              refine line_call rfl (fun K hK => ?_)
              rw [if_pos (by rfl)]
              go_simp
              refine (St.less H hpv.1 on).mono ?_; rintro e w1 (⟨l, rfl, hl, H1, Q⟩ | ⟨ch, rfl, P⟩); rotate_left; (focus (go_wp2_with fail; exact ⟨rfl, P.met⟩)); replace H := H1; clear H1; (try clear c0 c1 c2 c3 c4 c5 c6 hx); obtain ⟨c0, c1, c2, c3, c4, c5, c6⟩ := H.op; have hx := H.lt; replace F := F.step Q; obtain ⟨s0, s2, lS, lk, lg, fg, lSg, hxg⟩ := F.facts; have fz := fg 0; have g0 := F.amt (j := 0) rfl
              refine hK.out _ _ ⟨⟨s2, g0, c5⟩, ?_⟩
              clear hK K
              obtain ⟨H2, F2, oth⟩ := F.set H hx0 lSB 0 l
              go_wp2_with fail
              go_meet
              exact ⟨_, _, _, _, by decide, by decide, H2, F2⟩
            case rest =>
            obtain ⟨n, ks, am, s1, hn0, hn3, H, F⟩ := hcut
            as_aux_lemma =>
              obtain ⟨s0, s2, lS, lk, lg, fg, lSg, hxg⟩ := F.facts
              try clear c0 c1 c2 c3 c4 c5 c6 hx
              obtain ⟨c0, c1, c2, c3, c4, c5, c6⟩ := H.op
              have hx := H.lt
              have hN : (0 : Int) < (n : Int) := by omega
              go_wp2_with fail
              go_loopw [151] (fun i wr => ∃ j : Nat, j ≤ n ∧ i = .int .i64 (j : Int) ∧ Hid (St x o w0 R (zipPut (ks.take j) (am.take j)) rp0 (bidD o ks am) s1 wr) ∧ Hid (ShelfF x SB gk ck ga ca n ks am wr)) (fun i _ => n - (intOf i).toNat)
              case atStart => exact ⟨0, Nat.zero_le _, rfl, Lib.hid H, Lib.hid F⟩
              case round =>
                clear H F s0 s2 lS lk lg fg
                obtain ⟨j, hj, rfl, H, F⟩ := hrel
                replace H := H.out
                replace F := F.out
                obtain ⟨s0, s2, lS, lk, lg, fg, lSg, hxg⟩ := F.facts
                try clear c0 c1 c2 c3 c4 c5 c6 hx
                obtain ⟨c0, c1, c2, c3, c4, c5, c6⟩ := H.op
                have hx := H.lt
                by_cases hlt : j < n
                · obtain ⟨k, a, hk, ha⟩ := F.pick hlt
                  obtain ⟨e0, e1, e2⟩ := F.key hk
                  have ea := F.amt ha
                  have hl1 : (j : Int) < (n : Int) := by omega
                  have hz := zipPut_snoc hk ha
                  have hpl : (zipPut (ks.take j) (am.take j)).length + 1 ≤ 1000 := by have := zipPut_len (ks.take j) (am.take j); have := List.length_take_le j ks; omega
                  obtain ⟨pp, hpp⟩ : ∃ pp, zipPut (ks.take j) (am.take j) = pp := ⟨_, rfl⟩
                  rw [hpp] at H hpl hz
                  replace hz := Lib.hid hz
                  replace ha := Lib.hid ha
                  clear hk hpp
                  go_upto_region 18 with fail
                  have KK := Box.newS H (.cells #[.int .u8 k.1, .int .u32 k.2.1, .int .u32 k.2.2] 52)
                  replace H := H.alloc (.cells #[.int .u8 k.1, .int .u32 k.2.1, .int .u32 k.2.2] 52)
                  replace F := F.step ((Step.refl x wr).alloc hx (.cells #[.int .u8 k.1, .int .u32 k.2.1, .int .u32 k.2.2] 52))
                  obtain ⟨KX, hKB⟩ := KK.name
                  rw [← hKB] at KK ⊢
                  clear hKB
                  obtain ⟨w5, hw5⟩ := F.world
                  rw [← hw5] at H F KK ⊢
                  clear hw5
                  replace H := H.drew
                  replace F := F.step (Step.refl x _).drew
                  replace KK := KK.drew
                  clear s0 s2 lS lk lg fg e0 e1 e2 ea
                  obtain ⟨s0, s2, lS, lk, lg, fg, lSg, hxg⟩ := F.facts
                  try clear c0 c1 c2 c3 c4 c5 c6 hx
                  obtain ⟨c0, c1, c2, c3, c4, c5, c6⟩ := H.op
                  have hx := H.lt
                  obtain ⟨k0, k1, k2, lK⟩ := KK.three
                  have ea := F.amt ha.out
                  go_region_held2 (fun w' => w'.cell? ⟨SB, 1, none⟩ = some (.slice (some ⟨ga, 0, none⟩) n ca) ∧ w'.cell? ⟨ga, j, none⟩ = some (.int .u64 a) ∧ w'.cell? ⟨KX, 0, none⟩ = some (.int .u8 k.1) ∧ w'.cell? ⟨KX, 1, none⟩ = some (.int .u32 k.2.1) ∧ w'.cell? ⟨KX, 2, none⟩ = some (.int .u32 k.2.2))
                    (first | exact ⟨F.facts.2.1, F.amt ha.out, KK.three.1, KK.three.2.1, KK.three.2.2.1⟩ | go_keep)
                    (first
                      | (go_at_call_of 74 (Value.agg #[.int .u8 k.1, .int .u32 k.2.1, .int .u32 k.2.2]); refine (St.put H (k) hpl).mono ?_; rintro e w1 ⟨rfl, H1, Q⟩; replace H := H1; clear H1; (try clear c0 c1 c2 c3 c4 c5 c6 hx); obtain ⟨c0, c1, c2, c3, c4, c5, c6⟩ := H.op; have hx := H.lt; obtain ⟨⟨u10, y10⟩, ⟨u11, y11⟩, ⟨u12, y12⟩⟩ := H.rep; have z10 := H.frozen 10; have z11 := H.frozen 11; have z12 := H.frozen 12; replace F := F.step Q; replace KK := KK.step Q))
                  all_goals (
                    rw [← hz.out] at H
                    go_wp2_with fail
                    go_roundw
                    case rel => exact ⟨j + 1, by omega, by go_num, Lib.hid H, Lib.hid F⟩
                    case measure => simp [intOf]; omega)
                · obtain rfl : j = n := by omega
                  rw [List.take_of_length_le (Nat.le_of_eq F.1), List.take_of_length_le (Nat.le_of_eq F.2.1)] at H
                  have hpl : (zipPut ks am).length + 1 ≤ 1000 := by have := zipPut_len ks am; have := F.1; omega
                  unfold bidD at H
                  have s1 : IntKind.u64.wrap o.who = o.who := IntWalk.u64_in _ (by omega)
                  go_upto_region 20 with fail
                  replace H := H.drew
                  try clear c0 c1 c2 c3 c4 c5 c6 hx
                  obtain ⟨c0, c1, c2, c3, c4, c5, c6⟩ := H.op
                  have hx := H.lt
                  go_region_held2 (fun w' => w'.cell? ⟨x, 4, none⟩ = some (.int .u32 o.id) ∧ w'.cell? ⟨x, 5, none⟩ = some (.int .u64 o.n) ∧ w'.cell? ⟨x, 1, none⟩ = some (.int .u32 o.who))
                    (first | exact ⟨H.op.2.2.2.2.1, H.op.2.2.2.2.2.1, H.op.2.1⟩ | go_keep)
                    (first
                      | (go_at_call 94; refine (St.key (bidk_any _) H).mono ?_; rintro e w1 ⟨rfl, H1, Q⟩; replace H := H1; clear H1; (try clear c0 c1 c2 c3 c4 c5 c6 hx); obtain ⟨c0, c1, c2, c3, c4, c5, c6⟩ := H.op; have hx := H.lt)
                      | (go_at_call 84; refine (St.set H (bidK o.id) ((o.n, o.who)) hpl).mono ?_; rintro e w1 ⟨rfl, H1, Q⟩; replace H := H1; clear H1; (try clear c0 c1 c2 c3 c4 c5 c6 hx); obtain ⟨c0, c1, c2, c3, c4, c5, c6⟩ := H.op; have hx := H.lt; obtain ⟨⟨u10, y10⟩, ⟨u11, y11⟩, ⟨u12, y12⟩⟩ := H.rep; have z10 := H.frozen 10; have z11 := H.frozen 11; have z12 := H.frozen 12))
                  all_goals (
                    go_wp2_with fail
                    go_end0
                    exact (H.setA _).met rfl)))
    · dsimp only [Option.getD, Option.isSome] at H K4 ⊢
      have hbv : VlOk bv := hb
      by_cases hlt : bv.1 < o.n
      rotate_left
      · as_aux_lemma =>
          have hok : okB o price (some bv) = false := by simp [okB, hlt]
          rw [hok] at H
          have hpb : decide (bv.1 < o.n) = false := decide_eq_false hlt
          replace H := H.drew
          replace K4 := K4.drew
          obtain ⟨b0, b1, lb⟩ := K4.two
          try clear c0 c1 c2 c3 c4 c5 c6 hx
          obtain ⟨c0, c1, c2, c3, c4, c5, c6⟩ := H.op
          have hx := H.lt
          first
            | (go_region_held2 (fun w' => w'.cell? ⟨x, 5, none⟩ = some (.int .u64 o.n) ∧ w'.cell? ⟨B4, 0, none⟩ = some (.int .u64 bv.1))
                 (first | exact ⟨H.op.2.2.2.2.2.1, K4.two.1⟩ | go_keep)
                 (first
                   | (go_at_call 69; refine (St.check H).mono ?_; rintro e w1 (⟨rfl, hc, H1, Q⟩ | ⟨ch, rfl, P⟩); rotate_left; (focus (go_wp2_with fail; exact ⟨rfl, P.met⟩)); replace H := H1; clear H1; (try clear c0 c1 c2 c3 c4 c5 c6 hx); obtain ⟨c0, c1, c2, c3, c4, c5, c6⟩ := H.op; have hx := H.lt; replace K4 := K4.step Q)))
            | fail
          all_goals exact absurd hc.out (by decide)
      · have hok : okB o price (some bv) = true := by simp [okB, hp, hlt]
        rw [hok] at H
        replace H := H.drew
        replace K4 := K4.drew
        obtain ⟨b0, b1, lb⟩ := K4.two
        try clear c0 c1 c2 c3 c4 c5 c6 hx
        obtain ⟨c0, c1, c2, c3, c4, c5, c6⟩ := H.op
        have hx := H.lt
        first
          | (go_region_held2 (fun w' => w'.cell? ⟨x, 5, none⟩ = some (.int .u64 o.n) ∧ w'.cell? ⟨B4, 0, none⟩ = some (.int .u64 bv.1))
               (first | exact ⟨H.op.2.2.2.2.2.1, K4.two.1⟩ | go_keep)
               (first
                 | (go_at_call 69; refine (St.check H).mono ?_; rintro e w1 (⟨rfl, hc, H1, Q⟩ | ⟨ch, rfl, P⟩); rotate_left; (focus (go_wp2_with fail; exact ⟨rfl, P.met⟩)); replace H := H1; clear H1; (try clear c0 c1 c2 c3 c4 c5 c6 hx); obtain ⟨c0, c1, c2, c3, c4, c5, c6⟩ := H.op; have hx := H.lt; replace K4 := K4.step Q)))
          | fail
        all_goals (
          go_upto_region 6 with fail
          have lSB := H.step.size
          have lB4 := K4.lt
          replace K4 := K4.alloc (ob' := .cells #[.slice none 0 0, .slice none 0 0] 145) H.lt
          have A := Shelf.new H
          replace H := H.alloc (.cells #[.slice none 0 0, .slice none 0 0] 145)
          obtain ⟨SB, hSB⟩ := A.name
          rw [← hSB] at A lSB lB4 ⊢
          clear hSB
          replace H := H.drew
          replace A := A.step (Step.refl x _).drew
          replace K4 := K4.drew
          go_region_held2 (fun w' => w'.cell? ⟨x, 1, none⟩ = some (.int .u32 o.who))
            (first | exact H.op.2.1 | go_keep)
            (first
              | (go_at_call 73; refine (St.key (purse_a _) H).mono ?_; rintro e w1 ⟨rfl, H1, Q⟩; replace H := H1; clear H1; (try clear c0 c1 c2 c3 c4 c5 c6 hx); obtain ⟨c0, c1, c2, c3, c4, c5, c6⟩ := H.op; have hx := H.lt; replace A := A.step Q; replace K4 := K4.step Q)
              | (go_at_call 75; refine (St.must H).mono ?_; rintro e w1 (⟨pv, s1, rfl, hpv, H1, Q⟩ | ⟨ch, rfl, P⟩); rotate_left; (focus (go_wp2_with fail; exact ⟨rfl, P.met⟩)); replace H := H1; clear H1; (try clear c0 c1 c2 c3 c4 c5 c6 hx); obtain ⟨c0, c1, c2, c3, c4, c5, c6⟩ := H.op; have hx := H.lt; replace A := A.step Q; replace K4 := K4.step Q; have fapv := field_a pv.1 pv.2)
              | (go_at_call 89; refine (St.add (k := purseK o.who) H A hx0 lSB (by simp) (by simp)).mono ?_; rintro e w1 ⟨rfl, H1, A1, oth⟩; replace H := H1; clear H1; (try clear c0 c1 c2 c3 c4 c5 c6 hx); obtain ⟨c0, c1, c2, c3, c4, c5, c6⟩ := H.op; have hx := H.lt; replace A := A1; clear A1; replace K4 := oth _ _ lB4 K4))
          all_goals (
            replace H := H.tree (show _ = bidE o (some bv) pv from rfl)
            unfold bidE at H
            dsimp only at H
            go_upto_region 8 with fail
            obtain ⟨b0, b1, lb⟩ := K4.two
            try clear c0 c1 c2 c3 c4 c5 c6 hx
            obtain ⟨c0, c1, c2, c3, c4, c5, c6⟩ := H.op
            have hx := H.lt
            by_cases hq : lo32 bv.2 = o.who
            · as_aux_lemma =>
                have hqb : (lo32 bv.2 != o.who) = false := by simp [hq]
                rw [hqb] at H
                replace H := H.tree (if_neg (by decide))
                try clear c0 c1 c2 c3 c4 c5 c6 hx
                obtain ⟨c0, c1, c2, c3, c4, c5, c6⟩ := H.op
                have hx := H.lt
                go_quiet (fail)
                replace H := H.drewN nq
                replace A := A.step (Step.drewN _ nq)
                replace K4 := K4.drewN nq
                obtain ⟨w3, hw3⟩ := A.world
                rw [← hw3] at H A K4 ⊢
                clear hw3
                go_upto_region 13 with fail
                obtain ⟨gk, ck, ga, ca, F⟩ := A.fix (n := 1) rfl rfl (by decide)
                replace H := H.drew
                replace F := F.step (Step.refl x _).drew
                replace K4 := K4.drew
                obtain ⟨b0, b1, lb⟩ := K4.two
                obtain ⟨s0, s2, lS, lk, lg, fg, lSg, hxg⟩ := F.facts; have fz := fg 0; have g0 := F.amt (j := 0) rfl
                try clear c0 c1 c2 c3 c4 c5 c6 hx
                obtain ⟨c0, c1, c2, c3, c4, c5, c6⟩ := H.op
                have hx := H.lt
                go_cut [] (fun wx => ∃ m s1, 0 ≤ m ∧ m ≤ 4611686018427387904 ∧ St x o w0 R [] rp0 ((lessT m o.n).bind fun l => bidD o [purseK o.who] [l]) s1 wx ∧ ShelfF x SB gk ck ga ca 1 [purseK o.who] [m] wx)
                case first =>
                  refine wp_region_line (m := 14) (fun w' => w'.cell? ⟨SB, 1, none⟩ = some (.slice (some ⟨ga, 0, none⟩) 1 ca) ∧ w'.cell? ⟨ga, 0, none⟩ = some (.int .u64 (pv.1)) ∧ w'.cell? ⟨B4, 0, none⟩ = some (.int .u64 bv.1)) (by kernel_rfl) (by kernel_rfl) (fun d _ _ _ _ h => by cases d <;> exact h) ⟨s2, g0, b0⟩ ?_
                  simp only [List.take_succ_cons, List.take_zero, List.drop_succ_cons, List.drop_zero]
                  repeat (refine wpTake_step (v := ?_) (by rfl) ?_ ?_; rotate_left; (focus (intro w hSw; (try dsimp only at hSw); go_simp; try with_reducible rfl)); simp only [Act.put, List.setIfInBounds_toArray, List.set_cons_zero, List.set_cons_succ])
                  refine wpTake_nil ?_
                  refine line_call rfl (fun K hK => ?_)
                  rw [if_pos (by rfl)]
                  go_simp
                  refine (St.more H hpv.1 hbv.1).mono ?_; rintro e w1 (⟨m, rfl, hm, H1, Q⟩ | ⟨ch, rfl, P⟩); rotate_left; (focus (go_wp2_with fail; exact ⟨rfl, P.met⟩)); replace H := H1; clear H1; (try clear c0 c1 c2 c3 c4 c5 c6 hx); obtain ⟨c0, c1, c2, c3, c4, c5, c6⟩ := H.op; have hx := H.lt; replace F := F.step Q; replace K4 := K4.step Q; obtain ⟨b0, b1, lb⟩ := K4.two; obtain ⟨s0, s2, lS, lk, lg, fg, lSg, hxg⟩ := F.facts; have fz := fg 0; have g0 := F.amt (j := 0) rfl
                  refine hK.out _ _ ⟨⟨s2, g0, b0⟩, ?_⟩
                  clear hK K
                  obtain ⟨H2, F2, oth⟩ := F.set H hx0 lSB 0 m
                  go_wp2_with fail
                  go_meet
                  exact ⟨m, _, hm.1, hm.2, H2, F2⟩
                case rest =>
                obtain ⟨m, s1, m1, m2, H, F⟩ := hcut
                go_upto_region 14 with fail
                replace H := H.drew
                replace F := F.step (Step.refl x _).drew
                obtain ⟨s0, s2, lS, lk, lg, fg, lSg, hxg⟩ := F.facts; have fz := fg 0; have g0 := F.amt (j := 0) rfl
                try clear c0 c1 c2 c3 c4 c5 c6 hx
                obtain ⟨c0, c1, c2, c3, c4, c5, c6⟩ := H.op
                have hx := H.lt
                go_cut [] (fun wx => ∃ n ks am s1, 0 < n ∧ n ≤ 3 ∧ St x o w0 R [] rp0 (bidD o ks am) s1 wx ∧ ShelfF x SB gk ck ga ca n ks am wx)
                case first =>
                  refine wp_region_line (m := 15) (fun w' => w'.cell? ⟨SB, 1, none⟩ = some (.slice (some ⟨ga, 0, none⟩) 1 ca) ∧ w'.cell? ⟨ga, 0, none⟩ = some (.int .u64 (m)) ∧ w'.cell? ⟨x, 5, none⟩ = some (.int .u64 o.n)) (by kernel_rfl) (by kernel_rfl) (fun d _ _ _ _ h => by cases d <;> exact h) ⟨s2, g0, c5⟩ ?_
                  simp only [List.take_succ_cons, List.take_zero, List.drop_succ_cons, List.drop_zero]
                  repeat (refine wpTake_step (v := ?_) (by rfl) ?_ ?_; rotate_left; (focus (intro w hSw; (try dsimp only at hSw); go_simp; try with_reducible rfl)); simp only [Act.put, List.setIfInBounds_toArray, List.set_cons_zero, List.set_cons_succ])
                  refine wpTake_nil ?_
                  refine line_call rfl (fun K hK => ?_)
                  rw [if_pos (by rfl)]
                  go_simp
                  refine (St.less H ⟨m1, by omega⟩ on).mono ?_; rintro e w1 (⟨l, rfl, hl, H1, Q⟩ | ⟨ch, rfl, P⟩); rotate_left; (focus (go_wp2_with fail; exact ⟨rfl, P.met⟩)); replace H := H1; clear H1; (try clear c0 c1 c2 c3 c4 c5 c6 hx); obtain ⟨c0, c1, c2, c3, c4, c5, c6⟩ := H.op; have hx := H.lt; replace F := F.step Q; obtain ⟨s0, s2, lS, lk, lg, fg, lSg, hxg⟩ := F.facts; have fz := fg 0; have g0 := F.amt (j := 0) rfl
                  refine hK.out _ _ ⟨⟨s2, g0, c5⟩, ?_⟩
                  clear hK K
                  obtain ⟨H2, F2, oth⟩ := F.set H hx0 lSB 0 l
                  go_wp2_with fail
                  go_meet
                  exact ⟨_, _, _, _, by decide, by decide, H2, F2⟩
                case rest =>
                obtain ⟨n, ks, am, s1, hn0, hn3, H, F⟩ := hcut
                as_aux_lemma =>
                  obtain ⟨s0, s2, lS, lk, lg, fg, lSg, hxg⟩ := F.facts
                  try clear c0 c1 c2 c3 c4 c5 c6 hx
                  obtain ⟨c0, c1, c2, c3, c4, c5, c6⟩ := H.op
                  have hx := H.lt
                  have hN : (0 : Int) < (n : Int) := by omega
                  go_wp2_with fail
                  go_loopw [151] (fun i wr => ∃ j : Nat, j ≤ n ∧ i = .int .i64 (j : Int) ∧ Hid (St x o w0 R (zipPut (ks.take j) (am.take j)) rp0 (bidD o ks am) s1 wr) ∧ Hid (ShelfF x SB gk ck ga ca n ks am wr)) (fun i _ => n - (intOf i).toNat)
                  case atStart => exact ⟨0, Nat.zero_le _, rfl, Lib.hid H, Lib.hid F⟩
                  case round =>
                    clear H F s0 s2 lS lk lg fg
                    obtain ⟨j, hj, rfl, H, F⟩ := hrel
                    replace H := H.out
                    replace F := F.out
                    obtain ⟨s0, s2, lS, lk, lg, fg, lSg, hxg⟩ := F.facts
                    try clear c0 c1 c2 c3 c4 c5 c6 hx
                    obtain ⟨c0, c1, c2, c3, c4, c5, c6⟩ := H.op
                    have hx := H.lt
                    by_cases hlt : j < n
                    · obtain ⟨k, a, hk, ha⟩ := F.pick hlt
                      obtain ⟨e0, e1, e2⟩ := F.key hk
                      have ea := F.amt ha
                      have hl1 : (j : Int) < (n : Int) := by omega
                      have hz := zipPut_snoc hk ha
                      have hpl : (zipPut (ks.take j) (am.take j)).length + 1 ≤ 1000 := by have := zipPut_len (ks.take j) (am.take j); have := List.length_take_le j ks; omega
                      obtain ⟨pp, hpp⟩ : ∃ pp, zipPut (ks.take j) (am.take j) = pp := ⟨_, rfl⟩
                      rw [hpp] at H hpl hz
                      replace hz := Lib.hid hz
                      replace ha := Lib.hid ha
                      clear hk hpp
                      go_upto_region 18 with fail
                      have KK := Box.newS H (.cells #[.int .u8 k.1, .int .u32 k.2.1, .int .u32 k.2.2] 52)
                      replace H := H.alloc (.cells #[.int .u8 k.1, .int .u32 k.2.1, .int .u32 k.2.2] 52)
                      replace F := F.step ((Step.refl x wr).alloc hx (.cells #[.int .u8 k.1, .int .u32 k.2.1, .int .u32 k.2.2] 52))
                      obtain ⟨KX, hKB⟩ := KK.name
                      rw [← hKB] at KK ⊢
                      clear hKB
                      obtain ⟨w5, hw5⟩ := F.world
                      rw [← hw5] at H F KK ⊢
                      clear hw5
                      replace H := H.drew
                      replace F := F.step (Step.refl x _).drew
                      replace KK := KK.drew
                      clear s0 s2 lS lk lg fg e0 e1 e2 ea
                      obtain ⟨s0, s2, lS, lk, lg, fg, lSg, hxg⟩ := F.facts
                      try clear c0 c1 c2 c3 c4 c5 c6 hx
                      obtain ⟨c0, c1, c2, c3, c4, c5, c6⟩ := H.op
                      have hx := H.lt
                      obtain ⟨k0, k1, k2, lK⟩ := KK.three
                      have ea := F.amt ha.out
                      go_region_held2 (fun w' => w'.cell? ⟨SB, 1, none⟩ = some (.slice (some ⟨ga, 0, none⟩) n ca) ∧ w'.cell? ⟨ga, j, none⟩ = some (.int .u64 a) ∧ w'.cell? ⟨KX, 0, none⟩ = some (.int .u8 k.1) ∧ w'.cell? ⟨KX, 1, none⟩ = some (.int .u32 k.2.1) ∧ w'.cell? ⟨KX, 2, none⟩ = some (.int .u32 k.2.2))
                        (first | exact ⟨F.facts.2.1, F.amt ha.out, KK.three.1, KK.three.2.1, KK.three.2.2.1⟩ | go_keep)
                        (first
                          | (go_at_call_of 74 (Value.agg #[.int .u8 k.1, .int .u32 k.2.1, .int .u32 k.2.2]); refine (St.put H (k) hpl).mono ?_; rintro e w1 ⟨rfl, H1, Q⟩; replace H := H1; clear H1; (try clear c0 c1 c2 c3 c4 c5 c6 hx); obtain ⟨c0, c1, c2, c3, c4, c5, c6⟩ := H.op; have hx := H.lt; obtain ⟨⟨u10, y10⟩, ⟨u11, y11⟩, ⟨u12, y12⟩⟩ := H.rep; have z10 := H.frozen 10; have z11 := H.frozen 11; have z12 := H.frozen 12; replace F := F.step Q; replace KK := KK.step Q))
                      all_goals (
                        rw [← hz.out] at H
                        go_wp2_with fail
                        go_roundw
                        case rel => exact ⟨j + 1, by omega, by go_num, Lib.hid H, Lib.hid F⟩
                        case measure => simp [intOf]; omega)
                    · obtain rfl : j = n := by omega
                      rw [List.take_of_length_le (Nat.le_of_eq F.1), List.take_of_length_le (Nat.le_of_eq F.2.1)] at H
                      have hpl : (zipPut ks am).length + 1 ≤ 1000 := by have := zipPut_len ks am; have := F.1; omega
                      unfold bidD at H
                      have s1 : IntKind.u64.wrap o.who = o.who := IntWalk.u64_in _ (by omega)
                      go_upto_region 20 with fail
                      replace H := H.drew
                      try clear c0 c1 c2 c3 c4 c5 c6 hx
                      obtain ⟨c0, c1, c2, c3, c4, c5, c6⟩ := H.op
                      have hx := H.lt
                      go_region_held2 (fun w' => w'.cell? ⟨x, 4, none⟩ = some (.int .u32 o.id) ∧ w'.cell? ⟨x, 5, none⟩ = some (.int .u64 o.n) ∧ w'.cell? ⟨x, 1, none⟩ = some (.int .u32 o.who))
                        (first | exact ⟨H.op.2.2.2.2.1, H.op.2.2.2.2.2.1, H.op.2.1⟩ | go_keep)
                        (first
                          | (go_at_call 94; refine (St.key (bidk_any _) H).mono ?_; rintro e w1 ⟨rfl, H1, Q⟩; replace H := H1; clear H1; (try clear c0 c1 c2 c3 c4 c5 c6 hx); obtain ⟨c0, c1, c2, c3, c4, c5, c6⟩ := H.op; have hx := H.lt)
                          | (go_at_call 84; refine (St.set H (bidK o.id) ((o.n, o.who)) hpl).mono ?_; rintro e w1 ⟨rfl, H1, Q⟩; replace H := H1; clear H1; (try clear c0 c1 c2 c3 c4 c5 c6 hx); obtain ⟨c0, c1, c2, c3, c4, c5, c6⟩ := H.op; have hx := H.lt; obtain ⟨⟨u10, y10⟩, ⟨u11, y11⟩, ⟨u12, y12⟩⟩ := H.rep; have z10 := H.frozen 10; have z11 := H.frozen 11; have z12 := H.frozen 12))
                      all_goals (
                        go_wp2_with fail
                        go_end0
                        exact (H.setA _).met rfl)
            · as_aux_lemma =>
                have hqb : (lo32 bv.2 != o.who) = true := by simp [hq]
                have hq2 : ¬ (bv.2 % 4294967296 = o.who) := hq
                have hq3 : (bv.2 % 4294967296 != o.who) = true := hqb
                rw [hqb] at H
                replace H := H.tree (if_pos rfl)
                try clear c0 c1 c2 c3 c4 c5 c6 hx
                obtain ⟨c0, c1, c2, c3, c4, c5, c6⟩ := H.op
                have hx := H.lt
                go_quiet (fail)
                replace H := H.drewN nq
                replace A := A.step (Step.drewN _ nq)
                replace K4 := K4.drewN nq
                obtain ⟨w3, hw3⟩ := A.world
                rw [← hw3] at H A K4 ⊢
                clear hw3
                obtain ⟨b0, b1, lb⟩ := K4.two
                try clear c0 c1 c2 c3 c4 c5 c6 hx
                obtain ⟨c0, c1, c2, c3, c4, c5, c6⟩ := H.op
                have hx := H.lt
                go_upto_region 10 with (go_at_call 73; refine (St.key (purse_a _) H).mono ?_; rintro e w1 ⟨rfl, H1, Q⟩; replace H := H1; clear H1; (try clear c0 c1 c2 c3 c4 c5 c6 hx); obtain ⟨c0, c1, c2, c3, c4, c5, c6⟩ := H.op; have hx := H.lt; replace A := A.step Q; replace K4 := K4.step Q)
                obtain ⟨lo, hlo⟩ : ∃ l, l = lo32 bv.2 := ⟨_, rfl⟩
                rw [← hlo] at H
                rw [show bv.2 % 4294967296 = lo from hlo.symm]
                clear hlo hqb hq hq2 hq3
                have K8 := Box.newS H (.cells #[.int .u8 1, .int .u32 lo, .int .u32 0] 52)
                replace A := A.step ((Step.refl x w1).alloc hx (.cells #[.int .u8 1, .int .u32 lo, .int .u32 0] 52))
                replace K4 := K4.alloc (ob' := .cells #[.int .u8 1, .int .u32 lo, .int .u32 0] 52) hx
                replace H := H.alloc (.cells #[.int .u8 1, .int .u32 lo, .int .u32 0] 52)
                obtain ⟨B8, hB8⟩ := K8.name
                rw [← hB8] at K8 ⊢
                clear hB8
                obtain ⟨w4, hw4⟩ := A.world
                rw [← hw4] at H A K4 K8 ⊢
                clear hw4
                replace H := H.drew
                replace A := A.step (Step.refl x _).drew
                replace K4 := K4.drew
                replace K8 := K8.drew
                obtain ⟨k0, k1, k2, lK⟩ := K8.three
                try clear c0 c1 c2 c3 c4 c5 c6 hx
                obtain ⟨c0, c1, c2, c3, c4, c5, c6⟩ := H.op
                have hx := H.lt
                refine wp_region_line (m := 4) (fun w' => w'.cell? ⟨B8, 0, none⟩ = some (.int .u8 1) ∧ w'.cell? ⟨B8, 1, none⟩ = some (.int .u32 lo) ∧ w'.cell? ⟨B8, 2, none⟩ = some (.int .u32 0)) (by kernel_rfl) (by kernel_rfl) (fun d _ _ _ _ h => by cases d <;> exact h) ⟨k0, k1, k2⟩ ?_
                simp only [List.take_succ_cons, List.take_zero, List.drop_succ_cons, List.drop_zero]
                repeat (refine wpTake_step (v := ?_) (by rfl) ?_ ?_; rotate_left; (focus (intro w hSw; (try dsimp only at hSw); go_simp; try with_reducible rfl)); simp only [Act.put, List.setIfInBounds_toArray, List.set_cons_zero, List.set_cons_succ])
                refine wpTake_nil ?_
                refine line_call rfl (fun K hK => ?_)
                rw [if_pos (by rfl)]
                go_simp
                refine (St.amount H).mono ?_; rintro e w1 (⟨qa, s1, rfl, hqa, H1, Q⟩ | ⟨ch, rfl, P⟩); rotate_left; (focus (go_wp2_with fail; exact ⟨rfl, P.met⟩)); replace H := H1; clear H1; (try clear c0 c1 c2 c3 c4 c5 c6 hx); obtain ⟨c0, c1, c2, c3, c4, c5, c6⟩ := H.op; have hx := H.lt; replace A := A.step Q; replace K4 := K4.step Q; replace K8 := K8.step Q
                refine hK.out _ _ ⟨⟨K8.three.1, K8.three.2.1, K8.three.2.2.1⟩, ?_⟩
                clear hK K
                obtain ⟨k0, k1, k2, lK⟩ := K8.three
                go_upto_region 13 with (go_at_call 89; refine (St.add (k := purseK lo) H A hx0 lSB (by simp) (by simp)).mono ?_; rintro e w1 ⟨rfl, H1, A1, oth⟩; replace H := H1; clear H1; (try clear c0 c1 c2 c3 c4 c5 c6 hx); obtain ⟨c0, c1, c2, c3, c4, c5, c6⟩ := H.op; have hx := H.lt; replace A := A1; clear A1; replace K4 := oth _ _ lB4 K4)
                obtain ⟨gk, ck, ga, ca, F⟩ := A.fix (n := 2) rfl rfl (by decide)
                replace H := H.drew
                replace F := F.step (Step.refl x _).drew
                replace K4 := K4.drew
                obtain ⟨b0, b1, lb⟩ := K4.two
                obtain ⟨s0, s2, lS, lk, lg, fg, lSg, hxg⟩ := F.facts; have fz := fg 1; have g0 := F.amt (j := 1) rfl
                try clear c0 c1 c2 c3 c4 c5 c6 hx
                obtain ⟨c0, c1, c2, c3, c4, c5, c6⟩ := H.op
                have hx := H.lt
                go_cut [] (fun wx => ∃ m s1, 0 ≤ m ∧ m ≤ 4611686018427387904 ∧ St x o w0 R [] rp0 ((lessT pv.1 o.n).bind fun l => bidD o [purseK o.who, purseK lo] [l, m]) s1 wx ∧ ShelfF x SB gk ck ga ca 2 [purseK o.who, purseK lo] [pv.1, m] wx)
                case first =>
                  refine wp_region_line (m := 14) (fun w' => w'.cell? ⟨SB, 1, none⟩ = some (.slice (some ⟨ga, 0, none⟩) 2 ca) ∧ w'.cell? ⟨ga, 1, none⟩ = some (.int .u64 (qa)) ∧ w'.cell? ⟨B4, 0, none⟩ = some (.int .u64 bv.1)) (by kernel_rfl) (by kernel_rfl) (fun d _ _ _ _ h => by cases d <;> exact h) ⟨s2, g0, b0⟩ ?_
                  simp only [List.take_succ_cons, List.take_zero, List.drop_succ_cons, List.drop_zero]
                  repeat (refine wpTake_step (v := ?_) (by rfl) ?_ ?_; rotate_left; (focus (intro w hSw; (try dsimp only at hSw); go_simp; try with_reducible rfl)); simp only [Act.put, List.setIfInBounds_toArray, List.set_cons_zero, List.set_cons_succ])
                  refine wpTake_nil ?_
                  refine line_call rfl (fun K hK => ?_)
                  rw [if_pos (by rfl)]
                  go_simp
                  refine (St.more H hqa hbv.1).mono ?_; rintro e w1 (⟨m, rfl, hm, H1, Q⟩ | ⟨ch, rfl, P⟩); rotate_left; (focus (go_wp2_with fail; exact ⟨rfl, P.met⟩)); replace H := H1; clear H1; (try clear c0 c1 c2 c3 c4 c5 c6 hx); obtain ⟨c0, c1, c2, c3, c4, c5, c6⟩ := H.op; have hx := H.lt; replace F := F.step Q; replace K4 := K4.step Q; obtain ⟨b0, b1, lb⟩ := K4.two; obtain ⟨s0, s2, lS, lk, lg, fg, lSg, hxg⟩ := F.facts; have fz := fg 1; have g0 := F.amt (j := 1) rfl
                  refine hK.out _ _ ⟨⟨s2, g0, b0⟩, ?_⟩
                  clear hK K
                  obtain ⟨H2, F2, oth⟩ := F.set H hx0 lSB 1 m
                  go_wp2_with fail
                  go_meet
                  exact ⟨m, _, hm.1, hm.2, H2, F2⟩
                case rest =>
                obtain ⟨m, s1, m1, m2, H, F⟩ := hcut
                go_upto_region 14 with fail
                replace H := H.drew
                replace F := F.step (Step.refl x _).drew
                obtain ⟨s0, s2, lS, lk, lg, fg, lSg, hxg⟩ := F.facts; have fz := fg 0; have g0 := F.amt (j := 0) rfl
                try clear c0 c1 c2 c3 c4 c5 c6 hx
                obtain ⟨c0, c1, c2, c3, c4, c5, c6⟩ := H.op
                have hx := H.lt
                go_cut [] (fun wx => ∃ n ks am s1, 0 < n ∧ n ≤ 3 ∧ St x o w0 R [] rp0 (bidD o ks am) s1 wx ∧ ShelfF x SB gk ck ga ca n ks am wx)
                case first =>
                  refine wp_region_line (m := 15) (fun w' => w'.cell? ⟨SB, 1, none⟩ = some (.slice (some ⟨ga, 0, none⟩) 2 ca) ∧ w'.cell? ⟨ga, 0, none⟩ = some (.int .u64 (pv.1)) ∧ w'.cell? ⟨x, 5, none⟩ = some (.int .u64 o.n)) (by kernel_rfl) (by kernel_rfl) (fun d _ _ _ _ h => by cases d <;> exact h) ⟨s2, g0, c5⟩ ?_
                  simp only [List.take_succ_cons, List.take_zero, List.drop_succ_cons, List.drop_zero]
                  repeat (refine wpTake_step (v := ?_) (by rfl) ?_ ?_; rotate_left; (focus (intro w hSw; (try dsimp only at hSw); go_simp; try with_reducible rfl)); simp only [Act.put, List.setIfInBounds_toArray, List.set_cons_zero, List.set_cons_succ])
                  refine wpTake_nil ?_
                  refine line_call rfl (fun K hK => ?_)
                  rw [if_pos (by rfl)]
                  go_simp
                  refine (St.less H hpv.1 on).mono ?_; rintro e w1 (⟨l, rfl, hl, H1, Q⟩ | ⟨ch, rfl, P⟩); rotate_left; (focus (go_wp2_with fail; exact ⟨rfl, P.met⟩)); replace H := H1; clear H1; (try clear c0 c1 c2 c3 c4 c5 c6 hx); obtain ⟨c0, c1, c2, c3, c4, c5, c6⟩ := H.op; have hx := H.lt; replace F := F.step Q; obtain ⟨s0, s2, lS, lk, lg, fg, lSg, hxg⟩ := F.facts; have fz := fg 0; have g0 := F.amt (j := 0) rfl
                  refine hK.out _ _ ⟨⟨s2, g0, c5⟩, ?_⟩
                  clear hK K
                  obtain ⟨H2, F2, oth⟩ := F.set H hx0 lSB 0 l
                  go_wp2_with fail
                  go_meet
                  exact ⟨_, _, _, _, by decide, by decide, H2, F2⟩
                case rest =>
                obtain ⟨n, ks, am, s1, hn0, hn3, H, F⟩ := hcut
                as_aux_lemma =>
                  obtain ⟨s0, s2, lS, lk, lg, fg, lSg, hxg⟩ := F.facts
                  try clear c0 c1 c2 c3 c4 c5 c6 hx
                  obtain ⟨c0, c1, c2, c3, c4, c5, c6⟩ := H.op
                  have hx := H.lt
                  have hN : (0 : Int) < (n : Int) := by omega
                  go_wp2_with fail
                  go_loopw [151] (fun i wr => ∃ j : Nat, j ≤ n ∧ i = .int .i64 (j : Int) ∧ Hid (St x o w0 R (zipPut (ks.take j) (am.take j)) rp0 (bidD o ks am) s1 wr) ∧ Hid (ShelfF x SB gk ck ga ca n ks am wr)) (fun i _ => n - (intOf i).toNat)
                  case atStart => exact ⟨0, Nat.zero_le _, rfl, Lib.hid H, Lib.hid F⟩
                  case round =>
                    clear H F s0 s2 lS lk lg fg
                    obtain ⟨j, hj, rfl, H, F⟩ := hrel
                    replace H := H.out
                    replace F := F.out
                    obtain ⟨s0, s2, lS, lk, lg, fg, lSg, hxg⟩ := F.facts
                    try clear c0 c1 c2 c3 c4 c5 c6 hx
                    obtain ⟨c0, c1, c2, c3, c4, c5, c6⟩ := H.op
                    have hx := H.lt
                    by_cases hlt : j < n
                    · obtain ⟨k, a, hk, ha⟩ := F.pick hlt
                      obtain ⟨e0, e1, e2⟩ := F.key hk
                      have ea := F.amt ha
                      have hl1 : (j : Int) < (n : Int) := by omega
                      have hz := zipPut_snoc hk ha
                      have hpl : (zipPut (ks.take j) (am.take j)).length + 1 ≤ 1000 := by have := zipPut_len (ks.take j) (am.take j); have := List.length_take_le j ks; omega
                      obtain ⟨pp, hpp⟩ : ∃ pp, zipPut (ks.take j) (am.take j) = pp := ⟨_, rfl⟩
                      rw [hpp] at H hpl hz
                      replace hz := Lib.hid hz
                      replace ha := Lib.hid ha
                      clear hk hpp
                      go_upto_region 18 with fail
                      have KK := Box.newS H (.cells #[.int .u8 k.1, .int .u32 k.2.1, .int .u32 k.2.2] 52)
                      replace H := H.alloc (.cells #[.int .u8 k.1, .int .u32 k.2.1, .int .u32 k.2.2] 52)
                      replace F := F.step ((Step.refl x wr).alloc hx (.cells #[.int .u8 k.1, .int .u32 k.2.1, .int .u32 k.2.2] 52))
                      obtain ⟨KX, hKB⟩ := KK.name
                      rw [← hKB] at KK ⊢
                      clear hKB
                      obtain ⟨w5, hw5⟩ := F.world
                      rw [← hw5] at H F KK ⊢
                      clear hw5
                      replace H := H.drew
                      replace F := F.step (Step.refl x _).drew
                      replace KK := KK.drew
                      clear s0 s2 lS lk lg fg e0 e1 e2 ea
                      obtain ⟨s0, s2, lS, lk, lg, fg, lSg, hxg⟩ := F.facts
                      try clear c0 c1 c2 c3 c4 c5 c6 hx
                      obtain ⟨c0, c1, c2, c3, c4, c5, c6⟩ := H.op
                      have hx := H.lt
                      obtain ⟨k0, k1, k2, lK⟩ := KK.three
                      have ea := F.amt ha.out
                      go_region_held2 (fun w' => w'.cell? ⟨SB, 1, none⟩ = some (.slice (some ⟨ga, 0, none⟩) n ca) ∧ w'.cell? ⟨ga, j, none⟩ = some (.int .u64 a) ∧ w'.cell? ⟨KX, 0, none⟩ = some (.int .u8 k.1) ∧ w'.cell? ⟨KX, 1, none⟩ = some (.int .u32 k.2.1) ∧ w'.cell? ⟨KX, 2, none⟩ = some (.int .u32 k.2.2))
                        (first | exact ⟨F.facts.2.1, F.amt ha.out, KK.three.1, KK.three.2.1, KK.three.2.2.1⟩ | go_keep)
                        (first
                          | (go_at_call_of 74 (Value.agg #[.int .u8 k.1, .int .u32 k.2.1, .int .u32 k.2.2]); refine (St.put H (k) hpl).mono ?_; rintro e w1 ⟨rfl, H1, Q⟩; replace H := H1; clear H1; (try clear c0 c1 c2 c3 c4 c5 c6 hx); obtain ⟨c0, c1, c2, c3, c4, c5, c6⟩ := H.op; have hx := H.lt; obtain ⟨⟨u10, y10⟩, ⟨u11, y11⟩, ⟨u12, y12⟩⟩ := H.rep; have z10 := H.frozen 10; have z11 := H.frozen 11; have z12 := H.frozen 12; replace F := F.step Q; replace KK := KK.step Q))
                      all_goals (
                        rw [← hz.out] at H
                        go_wp2_with fail
                        go_roundw
                        case rel => exact ⟨j + 1, by omega, by go_num, Lib.hid H, Lib.hid F⟩
                        case measure => simp [intOf]; omega)
                    · obtain rfl : j = n := by omega
                      rw [List.take_of_length_le (Nat.le_of_eq F.1), List.take_of_length_le (Nat.le_of_eq F.2.1)] at H
                      have hpl : (zipPut ks am).length + 1 ≤ 1000 := by have := zipPut_len ks am; have := F.1; omega
                      unfold bidD at H
                      have s1 : IntKind.u64.wrap o.who = o.who := IntWalk.u64_in _ (by omega)
                      go_upto_region 20 with fail
                      replace H := H.drew
                      try clear c0 c1 c2 c3 c4 c5 c6 hx
                      obtain ⟨c0, c1, c2, c3, c4, c5, c6⟩ := H.op
                      have hx := H.lt
                      go_region_held2 (fun w' => w'.cell? ⟨x, 4, none⟩ = some (.int .u32 o.id) ∧ w'.cell? ⟨x, 5, none⟩ = some (.int .u64 o.n) ∧ w'.cell? ⟨x, 1, none⟩ = some (.int .u32 o.who))
                        (first | exact ⟨H.op.2.2.2.2.1, H.op.2.2.2.2.2.1, H.op.2.1⟩ | go_keep)
                        (first
                          | (go_at_call 94; refine (St.key (bidk_any _) H).mono ?_; rintro e w1 ⟨rfl, H1, Q⟩; replace H := H1; clear H1; (try clear c0 c1 c2 c3 c4 c5 c6 hx); obtain ⟨c0, c1, c2, c3, c4, c5, c6⟩ := H.op; have hx := H.lt)
                          | (go_at_call 84; refine (St.set H (bidK o.id) ((o.n, o.who)) hpl).mono ?_; rintro e w1 ⟨rfl, H1, Q⟩; replace H := H1; clear H1; (try clear c0 c1 c2 c3 c4 c5 c6 hx); obtain ⟨c0, c1, c2, c3, c4, c5, c6⟩ := H.op; have hx := H.lt; obtain ⟨⟨u10, y10⟩, ⟨u11, y11⟩, ⟨u12, y12⟩⟩ := H.rep; have z10 := H.frozen 10; have z11 := H.frozen 11; have z12 := H.frozen 12))
                      all_goals (
                        go_wp2_with fail
                        go_end0
                        exact (H.setA _).met rfl))))
end
end Go.Proofs.YtdbpjbmalinlbaaGreat
